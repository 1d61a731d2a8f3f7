/-
  Paths of the reference: PathOk, JoinPaths.
  The reference's test of a Cartan matrix.
  A region that draws its order: two operations one behind the other, and a third one that may come up at any time; appends of several strings.
  The reference's matrix of a type of one part.
  The reference's search for an order of rows.
  The rows that are connected with a row, by the reference.
  The reference's matrices of types of one part.
-/
import Derived.Test.YtdhlapppahkjeaaGreatDoorMd7
namespace Go.Proofs.YtdhlapppahkjeaaGreatDoor
open Go.RowKit

set_option maxHeartbeats 1000000 in
theorem l1Find_any (a : Option Addr) (n c : Nat) (xs : List Int) (x : Int) (w : World) (h : IntsAt w a n xs) (hn : n ≤ 1000000000000) :
    Calls Tryz.prog 91 #[.slice a n c, .int .i64 x] w fun e w' => ∃ v : Int, e = .returned (.int .i64 v) ∧ (0 ≤ v ↔ x ∈ xs) ∧ -1 ≤ v ∧ v ≤ n ∧ w = w' := by
  have G := hidP h
  have L := hidP h.len
  clear h
  go_enter Tryz.func91, Tryz.ntmps91
  go_wp2
  go_loop [5] (fun i => ∃ k : Nat, k ≤ n ∧ Hid (∀ j, j < k → xs.getD j 0 ≠ x) ∧ i = .int .i64 k) (fun i => n - (intOf i).toNat)
  case atStart => exact ⟨0, Nat.zero_le _, fun j h => by omega, rfl⟩
  case round =>
    obtain ⟨k, hk, HJ, rfl⟩ := hrel
    by_cases hlt : k < n
    · obtain ⟨b, o, rfl, q⟩ := G.out.get k hlt
      by_cases hd : xs.getD k 0 = x
      · have HR : Hid (x ∈ xs) := by
          show _ ∈ _
          have hkl : k < xs.length := by have := L.out; omega
          rw [← hd, List.getD_eq_getElem?_getD, List.getElem?_eq_getElem hkl]
          exact List.getElem_mem hkl
        have hb : (xs.getD k 0 == x) = true := by simpa using hd
        rw [List.getD_eq_getElem?_getD] at hb
        clear hd
        go_wp2
        go_ret
        exact ⟨k, rfl, ⟨fun _ => HR.out, fun _ => by omega⟩, by omega, by omega, rfl⟩
      · have hb : (xs.getD k 0 == x) = false := by simpa using hd
        have HD := hidP hd
        clear hd
        rw [List.getD_eq_getElem?_getD] at hb
        go_wp2
        go_round
        case rel =>
          refine ⟨k + 1, by omega, fun j hj => ?_, by go_num⟩
          rcases Nat.lt_succ_iff_lt_or_eq.1 hj with h3 | rfl
          · exact HJ.out j h3
          · exact HD.out
        case measure => simp [intOf]; omega
    · have HR : Hid (x ∉ xs) := by
        intro hm
        obtain ⟨j, hj, rfl⟩ := List.mem_iff_getElem.1 hm
        refine HJ.out j (by have := L.out; omega) ?_
        rw [List.getD_eq_getElem?_getD, List.getElem?_eq_getElem hj]
        rfl
      go_wp2
      go_ret
      exact ⟨-1, rfl, ⟨fun h => by omega, fun h => absurd h HR.out⟩, by omega, by omega, rfl⟩
end Go.Proofs.YtdhlapppahkjeaaGreatDoor

namespace Go.Proofs.YtdhlapppahkjeaaGreatDoor
open Go.RowKit

theorem nodup_le : ∀ (r : Nat) (l : List Nat), l.Nodup → (∀ a ∈ l, a < r) → l.length ≤ r
  | 0, l, _, h => by
    cases l with
    | nil => simp
    | cons a l => have := h a (by simp); omega
  | r + 1, l, hd, h => by
    have ih := nodup_le r (l.erase r) (hd.erase r) (fun a ha => by
      have h1 := List.mem_of_mem_erase ha
      have h2 := h a h1
      have h3 : a ≠ r := by
        intro e
        subst e
        exact (hd.not_mem_erase) ha
      omega)
    rw [List.length_erase] at ih
    split at ih <;> omega
theorem partGo_end (bits : List Bool) (r f k j : Nat) (out : List Nat) (h : ¬ k < out.length) : partGo bits r f k j out = out := by
  cases f with
  | zero => rfl
  | succ f => rw [partGo, if_neg h]
theorem partGo_next (bits : List Bool) (r f k : Nat) (out : List Nat) (h : k < out.length) : partGo bits r (f + 1) k r out = partGo bits r f (k + 1) 0 out := by
  rw [partGo, if_pos h, if_neg (Nat.lt_irrefl _)]
theorem partGo_step (bits : List Bool) (r f k j : Nat) (out : List Nat) (h : k < out.length) (hj : j < r) : partGo bits r (f + 1) k j out = partGo bits r f k (j + 1) (if bits.getD (out.getD k 0 * r + j) false && !out.contains j then out ++ [j] else out) := by
  rw [partGo, if_pos h, if_pos hj]
theorem bits_at (xs : List Int) (r a b : Nat) : (bitsOf xs).getD (a * r + b) false = decide (atM xs r a b ≠ 0) := bitAt_eq
set_option maxRecDepth 100000 in
set_option maxHeartbeats 4000000 in
theorem l5Part_any (r : Nat) (hr : r ≤ 4) (xs : List Int) (ac : Option Addr) (cc : Nat) (i : Nat) (hi : i < r) (w : World) (h : IntsAt w ac (r * r) xs) :
    Calls Tryz.prog 92 #[carV r ac (r * r) cc, .int .i64 i] w fun e w' => ∃ a n c, e = .returned (.slice a n c) ∧ OwnI w' w.heap.size a n c (natI (partL (bitsOf xs) r i)) ∧ Ext w w' ∧ (partL (bitsOf xs) r i).Nodup ∧ (∀ x ∈ partL (bitsOf xs) r i, x < r) := by
  have hx0 := Ext.alloc w (.cells #[.int .i64 r, .slice ac (r * r) cc] 29)
  have hca := CarAt.new w _ rfl r ac (r * r) cc 29
  have H := hidP (h.below hx0)
  obtain ⟨w0, hw0⟩ : ∃ w0, w0 = w.alloc (.cells #[.int .i64 r, .slice ac (r * r) cc] 29) := ⟨_, rfl⟩
  obtain ⟨b2, hb2⟩ : ∃ b, b = w.heap.size := ⟨_, rfl⟩
  have HC : Hid (CarAt w0 b2 r ac (r * r) cc) := by rw [hw0, hb2]; exact hca
  have HX0 : Hid (Ext w w0) := by rw [hw0]; exact hx0
  have H0 : Hid (IntsAt w0 ac (r * r) xs) := by rw [hw0]; exact H.out
  have hP : partL (bitsOf xs) r i = partGo (bitsOf xs) r 64 0 0 [i] := rfl
  generalize partL (bitsOf xs) r i = P at *
  have HP := hidP hP
  have hm25 : (r - 0) * (r + 1) + (r + 1) ≤ 64 := by
    have : (r - 0) * (r + 1) ≤ 4 * 5 := Nat.mul_le_mul (by omega) (by omega)
    omega
  clear h hx0 hca H hP
  go_enter Tryz.func92, Tryz.ntmps92
  go_wp2
  rw [← hw0, ← hb2]
  have hxl := Ext.alloc w0 (.cells #[.int .i64 i] 3)
  have hsz : w0.heap.size = b2 + 1 := by rw [hw0, hb2]; simp
  have HO0 : Hid (OwnI (w0.alloc (.cells #[.int .i64 i] 3)) w0.heap.size (some ⟨b2 + 1, 0, none⟩) 1 1 (natI [i])) := by
    rw [show b2 + 1 = w0.heap.size from hsz.symm]
    refine ⟨?_⟩
    have := World.ownsRow_lit (e := 3) (size := 1) (base := w0.heap.size) w0 #[.int .i64 i] 1 (Nat.le_refl _) (by unfold maxLen; omega) (by simp)
    simpa [ivs, natI] using this
  have HXl := hidP hxl
  clear hw0 hb2 hxl hsz
  go_loopw [5, 6] (fun u t wr => ∃ (k f : Nat) (out : List Nat) (av : Option Addr) (cv : Nat), k ≤ out.length ∧ t = .int .i64 k ∧ u = .slice av out.length cv ∧ Hid out.Nodup ∧ Hid (∀ x ∈ out, x < r) ∧ Hid (P = partGo (bitsOf xs) r f k 0 out) ∧ Hid ((r - k) * (r + 1) + (r + 1) ≤ f) ∧ Hid (OwnI wr w0.heap.size av out.length cv (natI out)) ∧ Hid (Ext w0 wr)) (fun _ t _ => r - (intOf t).toNat)
  case atStart => exact ⟨0, 64, [i], _, 1, by simp, rfl, rfl, by show List.Nodup _; simp, fun x hx => by simp at hx; omega, HP, hm25, HO0, HXl⟩
  case round =>
    clear HO0 HXl HP hm25
    obtain ⟨k, f, out, av, cv, hk, rfl, rfl, HN, HLt, HP, HF, HO, HX⟩ := hrel
    have hlr := nodup_le r out HN.out HLt.out
    by_cases hlt : k < out.length
    · have HF2 : Hid ((r - k) * (r + 1) + (r - 0) + 1 ≤ f) := HF.out
      go_wp2
      go_loopw [5, 7] (fun u t wr => ∃ (j f : Nat) (out : List Nat) (av : Option Addr) (cv : Nat), j ≤ r ∧ t = .int .i64 j ∧ u = .slice av out.length cv ∧ k < out.length ∧ Hid out.Nodup ∧ Hid (∀ x ∈ out, x < r) ∧ Hid (P = partGo (bitsOf xs) r f k j out) ∧ Hid ((r - k) * (r + 1) + (r - j) + 1 ≤ f) ∧ Hid (OwnI wr w0.heap.size av out.length cv (natI out)) ∧ Hid (Ext w0 wr)) (fun _ t _ => r - (intOf t).toNat)
      case atStart => exact ⟨0, f, out, av, cv, Nat.zero_le _, rfl, rfl, hlt, HN, HLt, HP, HF2, HO, HX⟩
      case round =>
        clear HO HX HP HF HF2 HN HLt hlt hk hlr
        obtain ⟨j, f, out, av, cv, hj, rfl, rfl, hlt, HN, HLt, HP, HF, HO, HX⟩ := hrel
        have hlr := nodup_le r out HN.out HLt.out
        obtain ⟨f, rfl⟩ : ∃ f', f = f' + 1 := ⟨f - 1, by have := HF.out; omega⟩
        by_cases hjr : j < r
        · have HS := hidP (partGo_step (bitsOf xs) r f k j out hlt hjr)
          rw [bits_at] at HS
          obtain ⟨g, rfl, _, _, hq, _⟩ := HO.out.cell k hlt
          rw [natI_getD] at hq
          have hkr : out.getD k 0 < r := HLt.out _ (getD_mem hlt)
          have HAt := hidP (fun w' (hx : Ext wr w') => l5At_any r ac (r * r) cc xs (out.getD k 0) j w' ((H0.out.below HX.out).below hx) (Int.natCast_mul r r) (by omega) (by omega) (by omega))
          rw [Int.toNat_natCast] at HAt
          have HFd := hidP (fun w' (hx : Ext wr w') => l1Find_any (some ⟨g, 0, none⟩) out.length cv (natI out) (j : Int) w' (HO.out.below hx).ints (by omega))
          have HQ := hidP (fun w' (hx : Ext wr w') => (hx.cell (p := ⟨g, k, none⟩) (World.block_lt_of_cell? wr _ hq)).trans hq)
          have HMem : Hid ((j : Int) ∈ natI out ↔ j ∈ out) := by
            show _ ↔ _
            unfold natI
            rw [List.mem_map]
            exact ⟨fun ⟨a, h, e⟩ => by obtain rfl : a = j := by omega
                                       exact h, fun h => ⟨j, h, rfl⟩⟩
          have hE : Ext wr wr.drew := Ext.drew wr
          generalize out.getD k 0 = ok at *
          generalize atM xs r ok j = x at *
          clear hq
          by_cases hz : x = 0
          · have hz' : (x != 0) = false := by simpa using hz
            rw [hz] at HS
            have HP2 : Hid (P = partGo (bitsOf xs) r f k (j + 1) out) := by
              show _ = _
              rw [HP.out, HS.out]
              simp
            clear hz HS
            obtain ⟨f0, f1⟩ := HC.out.below HX.out
            go_wp2
            clear f0 f1
            (refine walkR_start (fun w' => Ext wr w') 12 (by kernel_rfl) ?_; simp only [numbered, List.take_succ_cons, List.take_zero, Nat.zero_add, Nat.reduceAdd, List.length_cons, List.length_nil])
            (repeat (first | (refine walkR_still (v := ?_) rfl (by decide +kernel) rfl (fun _ _ _ h => h) hE ?_ ?_; rotate_left; (focus (intro w' hw'; obtain ⟨f0, f1⟩ := HC.out.below (HX.out.trans hw'); have q' := HQ.out w' hw'; go_simp; all_goals (with_reducible rfl))); simp only [Act.put, List.setIfInBounds_toArray, List.set_cons_zero, List.set_cons_succ]) | (refine walkR_skip rfl (by decide +kernel) rfl (fun _ _ _ h => h) hE ?_; simp only [Act.put, List.setIfInBounds_toArray, List.set_cons_zero, List.set_cons_succ])))
            (refine walkR_only (fun w' => Ext wr w') rfl (by decide +kernel) rfl (fun _ h => h) ?_; intro K hK; go_simp; refine (HAt.out _ hE).mono ?_; rintro e w2 ⟨rfl, hx2⟩; refine hK _ _ (hE.trans hx2) ?_; clear hK K; (try simp only [Act.put, List.setIfInBounds_toArray, List.set_cons_zero, List.set_cons_succ]))
            have hE2 := hE.trans hx2
            (repeat (first | (refine walkR_still (v := ?_) rfl (by decide +kernel) rfl (fun _ _ _ h => h) hE2 ?_ ?_; rotate_left; (focus (intro w' hw'; skip; go_simp; all_goals (with_reducible rfl))); simp only [Act.put, List.setIfInBounds_toArray, List.set_cons_zero, List.set_cons_succ]) | (refine walkR_skip rfl (by decide +kernel) rfl (fun _ _ _ h => h) hE2 ?_; simp only [Act.put, List.setIfInBounds_toArray, List.set_cons_zero, List.set_cons_succ])))
            (refine walkR_tail (by rfl) (by kernel_rfl) ?_; simp only [List.drop_succ_cons, List.drop_zero])
            go_wp2
            go_roundw
            case rel => exact ⟨j + 1, f, out, _, cv, by omega, by go_num, rfl, hlt, HN, HLt, HP2, by show _ ≤ _; have := HF.out; omega, HO.out.below hE2, HX.out.trans hE2⟩
            case measure => simp [intOf]; omega
          · have hz' : (x != 0) = true := by simpa using hz
            have HZ := hidP hz
            clear hz
            obtain ⟨f0, f1⟩ := HC.out.below HX.out
            go_wp2
            clear f0 f1
            (refine walkR_start (fun w' => Ext wr w') 12 (by kernel_rfl) ?_; simp only [numbered, List.take_succ_cons, List.take_zero, Nat.zero_add, Nat.reduceAdd, List.length_cons, List.length_nil])
            (repeat (first | (refine walkR_still (v := ?_) rfl (by decide +kernel) rfl (fun _ _ _ h => h) hE ?_ ?_; rotate_left; (focus (intro w' hw'; obtain ⟨f0, f1⟩ := HC.out.below (HX.out.trans hw'); have q' := HQ.out w' hw'; go_simp; all_goals (with_reducible rfl))); simp only [Act.put, List.setIfInBounds_toArray, List.set_cons_zero, List.set_cons_succ]) | (refine walkR_skip rfl (by decide +kernel) rfl (fun _ _ _ h => h) hE ?_; simp only [Act.put, List.setIfInBounds_toArray, List.set_cons_zero, List.set_cons_succ])))
            (refine walkR_only (fun w' => Ext wr w') rfl (by decide +kernel) rfl (fun _ h => h) ?_; intro K hK; go_simp; refine (HAt.out _ hE).mono ?_; rintro e w2 ⟨rfl, hx2⟩; refine hK _ _ (hE.trans hx2) ?_; clear hK K; (try simp only [Act.put, List.setIfInBounds_toArray, List.set_cons_zero, List.set_cons_succ]))
            have hE2 := hE.trans hx2
            (repeat (first | (refine walkR_still (v := ?_) rfl (by decide +kernel) rfl (fun _ _ _ h => h) hE2 ?_ ?_; rotate_left; (focus (intro w' hw'; skip; go_simp; all_goals (with_reducible rfl))); simp only [Act.put, List.setIfInBounds_toArray, List.set_cons_zero, List.set_cons_succ]) | (refine walkR_skip rfl (by decide +kernel) rfl (fun _ _ _ h => h) hE2 ?_; simp only [Act.put, List.setIfInBounds_toArray, List.set_cons_zero, List.set_cons_succ])))
            (refine walkR_only (fun w' => Ext wr w') rfl (by decide +kernel) rfl (fun _ h => h) ?_; intro K hK; go_simp; refine (HFd.out _ hE2).mono ?_; rintro e w3 ⟨v, rfl, hv, hv1, hv2, rfl⟩; refine hK _ _ (hE2) ?_; clear hK K; (try simp only [Act.put, List.setIfInBounds_toArray, List.set_cons_zero, List.set_cons_succ]))
            (refine walkR_tail (by rfl) (by kernel_rfl) ?_; simp only [List.drop_succ_cons, List.drop_zero])
            by_cases hm : j ∈ out
            · have hv0 : 0 ≤ v := hv.2 (HMem.out.2 hm)
              have HP2 : Hid (P = partGo (bitsOf xs) r f k (j + 1) out) := by
                show _ = _
                rw [HP.out, HS.out]
                simp [hm]
              have hvn : ¬ (v < 0) := by omega
              clear hv hm
              go_wp2
              go_roundw
              case rel => exact ⟨j + 1, f, out, _, cv, by omega, by go_num, rfl, hlt, HN, HLt, HP2, by show _ ≤ _; have := HF.out; omega, HO.out.below hE2, HX.out.trans hE2⟩
              case measure => simp [intOf]; omega
            · have hvn : v < 0 := by
                rcases Int.lt_or_le v 0 with h | h
                · exact h
                · exact absurd (HMem.out.1 (hv.1 h)) hm
              have HP2 : Hid (P = partGo (bitsOf xs) r f k (j + 1) (out ++ [j])) := by
                show _ = _
                rw [HP.out, HS.out]
                simp [hm, HZ.out]
              have HN2 : Hid ((out ++ [j]).Nodup) := by
                show List.Nodup _
                rw [List.nodup_append]
                exact ⟨HN.out, by simp, fun a ha b hb e => by simp at hb; subst hb; subst e; exact hm ha⟩
              have HLt2 : Hid (∀ x ∈ out ++ [j], x < r) := fun x hx => by
                simp only [List.mem_append, List.mem_singleton] at hx
                rcases hx with hx | rfl
                · exact HLt.out x hx
                · exact hjr
              have hxb := Ext.alloc w2 (.cells #[.int .i64 j] 3)
              have HO2 := hidP (HO.out.below (hE2.trans hxb))
              have HI2 : Hid (IntsAt (w2.alloc (.cells #[.int .i64 j] 3)) (some ⟨w2.heap.size, 0, none⟩) 1 [(j : Int)]) := ⟨rfl, fun q hq => ⟨_, 0, rfl, by
                obtain rfl : q = 0 := by omega
                exact (cell_top _ _ _ _ _ rfl).trans rfl⟩⟩
              have HX2 := hidP (HX.out.trans (hE2.trans hxb))
              clear hv hm hxb hv1 hv2
              go_wp2_with (at_builtin; refine wpList_append_ints rfl (.tmp 36) (.tmp 38) rfl w0.heap.size (some ⟨g, 0, none⟩) out.length cv (natI out) rfl HO2.out (some ⟨w2.heap.size, 0, none⟩) 1 1 [(j : Int)] rfl HI2.out (fun e => by cases e) (by omega) HX2.out.size ?_; intro a5 c5 w5 ho5 hg5)
              have HX5 := hidP (grown_ext hg5 HX2.out HX2.out.size HO2.out.addr_base)
              rw [show natI out ++ [(j : Int)] = natI (out ++ [j]) by rw [natI_append]; rfl] at ho5
              have HO5 := hidP ho5
              clear ho5 hg5
              go_roundw
              case rel => exact ⟨j + 1, f, out ++ [j], a5, c5, by omega, by go_num, by simp, by simp; omega, HN2, HLt2, HP2, by show _ ≤ _; have := HF.out; omega, by simpa using HO5, HX5⟩
              case measure => simp [intOf]; omega
        · obtain rfl : j = r := by omega
          have HP2 : Hid (P = partGo (bitsOf xs) j f (k + 1) 0 out) := by
            show _ = _
            rw [HP.out, partGo_next _ _ _ _ _ hlt]
          have HF3 : Hid ((j - (k + 1)) * (j + 1) + (j + 1) ≤ f) := by
            have := HF.out
            show _ ≤ _
            have e : j - k = (j - (k + 1)) + 1 := by omega
            rw [e, Nat.add_mul, Nat.one_mul] at this
            omega
          obtain ⟨f0, f1⟩ := HC.out.below HX.out
          go_wp2
          go_roundw
          case rel => exact ⟨k + 1, f, out, av, cv, by omega, by go_num, rfl, HN, HLt, HP2, HF3, HO, HX⟩
          case measure => simp [intOf]; omega
    · have HE : Hid (P = out) := by
        show _ = _
        rw [HP.out, partGo_end _ _ _ _ _ _ hlt]
      go_wp2
      go_ret
      refine ⟨_, _, _, rfl, ?_, HX0.out.trans HX.out, ?_, ?_⟩
      · rw [HE.out]
        exact HO.out.base HX0.out.size
      · rw [HE.out]
        exact HN.out
      · rw [HE.out]
        exact HLt.out
end Go.Proofs.YtdhlapppahkjeaaGreatDoor

namespace Go.Proofs.YtdhlapppahkjeaaGreatDoor
open Go.RowKit

theorem any_idx (l : List Nat) (B : Nat → Bool) : l.any B = (List.range l.length).any fun q => B (l.getD q 0) := by
  rw [Bool.eq_iff_iff, List.any_eq_true, List.any_eq_true]
  constructor
  · rintro ⟨x, hx, hb⟩
    obtain ⟨q, hq, rfl⟩ := List.mem_iff_getElem.1 hx
    exact ⟨q, List.mem_range.2 hq, by simpa [List.getD_eq_getElem?_getD, hq] using hb⟩
  · rintro ⟨q, hq, hb⟩
    exact ⟨_, getD_mem (List.mem_range.1 hq), hb⟩
/-- the reference's test of one more row -/
def fitF (xs : List Int) (r : Nat) (due : List Int) (dr : Nat) (used : List Nat) (x j : Nat) : Bool :=
  (atM xs r x ((used ++ [x]).getD j 0) == atM due dr used.length j) && (atM xs r ((used ++ [x]).getD j 0) x == atM due dr j used.length)
theorem fitF_all (xs : List Int) (r : Nat) (due : List Int) (dr : Nat) (used : List Nat) (x : Nat) : (List.range (used.length + 1)).all (fitF xs r due dr used x) = rowChk xs r due dr used x := by
  rw [List.range_succ, List.all_append]
  have h1 : fitF xs r due dr used x used.length = (atM xs r x x == atM due dr used.length used.length) := by
    unfold fitF
    rw [getD_app_r _ _ _ _ (Nat.le_refl _), Nat.sub_self]
    simp
  have h2 : (List.range used.length).all (fitF xs r due dr used x) = (List.range used.length).all fun j => atM xs r x (used.getD j 0) == atM due dr used.length j && atM xs r (used.getD j 0) x == atM due dr j used.length := by
    apply Bool.eq_iff_iff.2
    simp only [List.all_eq_true, List.mem_range]
    constructor
    · intro h j hj
      have := h j hj
      unfold fitF at this
      rwa [getD_app_l _ _ _ _ hj] at this
    · intro h j hj
      unfold fitF
      rw [getD_app_l _ _ _ _ hj]
      exact h j hj
  rw [h2]
  unfold rowChk
  simp only [List.all_cons, List.all_nil, Bool.and_true]
  rw [h1, Bool.and_comm]
set_option maxRecDepth 100000 in
set_option maxHeartbeats 8000000 in
theorem l5Fits_any (r : Nat) (hr : r ≤ 4) (dr : Nat) (hdr : dr ≤ 4) (xs due : List Int) (rows : List Nat) (hrl : rows.length = dr) (hrr : ∀ x ∈ rows, x < r) : ∀ (f : Nat) (used : List Nat) (ac ad aw a : Option Addr) (cc cd n c cw : Nat) (w : World), IntsAt w ac (r * r) xs → IntsAt w ad (dr * dr) due → IntsAt w a dr (natI rows) → IntsAt w aw n (natI used) → (aw = none → cw = 0) → n + f = dr → (∀ x ∈ used, x < r) →
    Calls Tryz.prog 94 #[carV r ac (r * r) cc, .slice a dr c, .slice aw n cw, carV dr ad (dr * dr) cd] w fun e w' => e = .returned (.bool (searchB rows dr (rowChk xs r due dr) f used)) ∧ Ext w w' := by
  intro f
  induction f with
  | zero =>
    intro used ac ad aw a cc cd n c cw w h1 h2 h3 h4 h5 h6 h7
    have hl := h4.len
    rw [natI_length] at hl
    have HS : Hid (searchB rows dr (rowChk xs r due dr) 0 used = true) := by
      show _ = _
      simp [searchB]
      omega
    obtain rfl : n = dr := by omega
    have hx := hidP ((Ext.alloc w (.cells #[.int .i64 r, .slice ac (r * r) cc] 29)).trans (Ext.alloc _ (.cells #[.int .i64 n, .slice ad (n * n) cd] 29)))
    clear h1 h2 h3 h4 hl h6 h7
    go_enter Tryz.func94, Tryz.ntmps94
    go_wp2
    go_ret
    exact ⟨ret_bool HS.out.symm, hx.out⟩
  | succ f ih =>
    intro used ac ad aw a cc cd n c cw w h1 h2 h3 h4 h5 h6 h7
    have hl := h4.len
    rw [natI_length] at hl
    have hnr : ((n : Int) == dr) = false := by simp; omega
    have hnd : n < dr := by omega
    have hx := hidP ((Ext.alloc w (.cells #[.int .i64 r, .slice ac (r * r) cc] 29)).trans (Ext.alloc _ (.cells #[.int .i64 dr, .slice ad (dr * dr) cd] 29)))
    have HC := hidP ((CarAt.new w _ rfl r ac (r * r) cc 29).below (Ext.alloc _ (.cells #[.int .i64 dr, .slice ad (dr * dr) cd] 29)))
    have HD := hidP (CarAt.new (w.alloc (.cells #[.int .i64 r, .slice ac (r * r) cc] 29)) (w.heap.size + 1) (by simp) dr ad (dr * dr) cd 29)
    have H1 := hidP (h1.below hx.out)
    have H2 := hidP (h2.below hx.out)
    have H3 := hidP (h3.below hx.out)
    have H4 := hidP (h4.below hx.out)
    have H7 := hidP h7
    have HNil := hidP h5
    have HL := hidP hl
    have HN6 := hidP h6
    have HRL := hidP hrl
    have HRR := hidP hrr
    obtain ⟨B, hB⟩ : ∃ B : Nat → Bool, B = fun x => !used.contains x && rowChk xs r due dr used x && searchB rows dr (rowChk xs r due dr) f (used ++ [x]) := ⟨_, rfl⟩
    have HB := hidP (fun i => congrFun hB i)
    have HS : Hid (searchB rows dr (rowChk xs r due dr) (f + 1) used = (List.range dr).any fun q => B (rows.getD q 0)) := by
      show _ = _
      rw [← hrl, ← any_idx, hB, hrl, searchB, decide_eq_false (by omega), Bool.false_or]
    rw [HS.out]
    have HI := hidP ih
    clear h1 h2 h3 h4 hl h6 h5 h7 hB HS ih hrl hrr
    go_enter Tryz.func94, Tryz.ntmps94
    go_wp2
    obtain ⟨w0, hw0⟩ : ∃ w0, w0 = (w.alloc (.cells #[.int .i64 r, .slice ac (r * r) cc] 29)).alloc (.cells #[.int .i64 dr, .slice ad (dr * dr) cd] 29) := ⟨_, rfl⟩
    obtain ⟨b3, hb3⟩ : ∃ b, b = w.heap.size := ⟨_, rfl⟩
    rw [← hb3] at HC HD ⊢
    rw [← hw0] at hx HC HD H1 H2 H3 H4 ⊢
    obtain ⟨b4, hb4⟩ : ∃ b, b = b3 + 1 := ⟨_, rfl⟩
    rw [← hb4] at HD ⊢
    clear hw0 hb3 hb4
    go_loopw [10] (fun t wr => ∃ i : Nat, i ≤ dr ∧ t = .int .i64 i ∧ Hid (∀ q, q < i → B (rows.getD q 0) = false) ∧ Hid (Ext w0 wr)) (fun t _ => dr - (intOf t).toNat)
    case atStart => exact ⟨0, Nat.zero_le _, rfl, fun q hq => by omega, Ext.refl _⟩
    case round =>
      obtain ⟨i, hi, rfl, HJ, HX⟩ := hrel
      by_cases hlt : i < dr
      · obtain ⟨b, o, rfl, qi⟩ := (H3.out.below HX.out).get i hlt
        rw [natI_getD] at qi
        have hxr : rows.getD i 0 < r := HRR.out _ (getD_mem (by rw [HRL.out]; exact hlt))
        obtain ⟨x, hx2⟩ : ∃ x, x = rows.getD i 0 := ⟨_, rfl⟩
        rw [← hx2] at qi hxr
        have HXR := hidP hx2
        have HFd := hidP (l1Find_any aw n cw (natI used) (x : Int) wr (H4.out.below HX.out) (by omega))
        have HMem : Hid ((x : Int) ∈ natI used ↔ x ∈ used) := by
          show _ ↔ _
          unfold natI
          rw [List.mem_map]
          exact ⟨fun ⟨a, h, e⟩ => by obtain rfl : a = x := by omega
                                     exact h, fun h => ⟨x, h, rfl⟩⟩
        clear hx2
        go_wp2_with fail
        refine HFd.out.mono ?_
        rintro e w' ⟨v, rfl, hv, hv1, hv2, rfl⟩
        by_cases hm : x ∈ used
        · have hv0 : 0 ≤ v := hv.2 (HMem.out.2 hm)
          have HBI : Hid (B (rows.getD i 0) = false) := by
            show _ = _
            rw [← HXR.out, HB.out x]
            simp [hm]
          clear hv hm HFd
          go_wp2
          go_roundw
          case rel =>
            refine ⟨i + 1, by omega, by go_num, fun q hq => ?_, HX⟩
            rcases Nat.lt_succ_iff_lt_or_eq.1 hq with h3 | rfl
            · exact HJ.out q h3
            · exact HBI.out
          case measure => simp [intOf]; omega
        · have hvn : ¬ (0 ≤ v) := fun h => hm (HMem.out.1 (hv.1 h))
          obtain ⟨F, hF⟩ : ∃ F : Nat → Bool, F = fitF xs r due dr used x := ⟨_, rfl⟩
          have HF := hidP (fun j => congrFun hF j)
          have HBI : Hid (B (rows.getD i 0) = ((List.range (n + 1)).all F && searchB rows dr (rowChk xs r due dr) f (used ++ [x]))) := by
            show _ = _
            rw [← HXR.out, HB.out x, hF, ← HL.out, fitF_all]
            simp [hm]
          have HQ := hidP (fun w' (hx : Ext wr w') => (hx.cell (p := ⟨b, o + i, none⟩) (World.block_lt_of_cell? wr _ qi)).trans qi)
          have HLI := hidP (fun w' (hx : Ext wr w') => l1Ints_any aw n cw (natI used) w' ((H4.out.below HX.out).below hx) HNil.out (by omega))
          have hE : Ext wr wr.drew := Ext.drew wr
          clear hv hm HFd hF
          go_wp2
          clear qi
          (refine walkR_start (fun w' => Ext wr w') 7 (by kernel_rfl) ?_; simp only [numbered, List.take_succ_cons, List.take_zero, Nat.zero_add, Nat.reduceAdd, List.length_cons, List.length_nil])
          (repeat (first | (refine walkR_still (v := ?_) rfl (by decide +kernel) rfl (fun _ _ _ h => h) hE ?_ ?_; rotate_left; (focus (intro w' hw'; have q' := HQ.out w' hw'; go_simp; all_goals (with_reducible rfl))); simp only [Act.put, List.setIfInBounds_toArray, List.set_cons_zero, List.set_cons_succ]) | (refine walkR_skip rfl (by decide +kernel) rfl (fun _ _ _ h => h) hE ?_; simp only [Act.put, List.setIfInBounds_toArray, List.set_cons_zero, List.set_cons_succ])))
          (refine walkR_later ?_; simp only [List.cons_append, List.nil_append])
          (repeat (first | (refine walkR_still (v := ?_) rfl (by decide +kernel) rfl (fun _ _ _ h => h) hE ?_ ?_; rotate_left; (focus (intro w' hw'; have q' := HQ.out w' hw'; go_simp; all_goals (with_reducible rfl))); simp only [Act.put, List.setIfInBounds_toArray, List.set_cons_zero, List.set_cons_succ]) | (refine walkR_skip rfl (by decide +kernel) rfl (fun _ _ _ h => h) hE ?_; simp only [Act.put, List.setIfInBounds_toArray, List.set_cons_zero, List.set_cons_succ])))
          (refine walkR_later ?_; simp only [List.cons_append, List.nil_append])
          refine walkR_two (fun v u w' => ∃ a1 c1 b1, v = .slice a1 n c1 ∧ u = .slice (some ⟨b1, 0, none⟩) 1 1 ∧ OwnI w' wr.heap.size a1 n c1 (natI used) ∧ w'.cell? ⟨b1, 0, none⟩ = some (.int .i64 x)) (fun v w' => ∃ a1 c1, v = .slice a1 n c1 ∧ OwnI w' wr.heap.size a1 n c1 (natI used)) (fun u w' => ∃ b1, u = .slice (some ⟨b1, 0, none⟩) 1 1 ∧ w'.cell? ⟨b1, 0, none⟩ = some (.int .i64 x)) rfl rfl (by decide +kernel) rfl rfl (by decide) rfl rfl (fun _ => rfl) (fun _ => rfl) ?_ ?_ ?_ ?_ ?_
          · intro K hK
            go_simp
            refine (HLI.out _ hE).mono ?_
            rintro e w2 ⟨a1, c1, rfl, ho, hx⟩
            exact hK _ _ (hE.trans hx) ⟨a1, c1, rfl, ho⟩
          · rintro v w2 hx ⟨a1, c1, rfl, ho⟩ K hK
            go_simp
            exact hK _ _ (hx.trans (Ext.alloc _ _)) ⟨a1, c1, _, rfl, rfl, ho.below (Ext.alloc _ _), (cell_top _ _ _ _ _ rfl).trans rfl⟩
          · intro K hK
            go_simp
            exact hK _ _ (hE.trans (Ext.alloc _ _)) ⟨_, rfl, (cell_top _ _ _ _ _ rfl).trans rfl⟩
          · rintro u w2 hx ⟨b1, rfl, hb⟩ K hK
            go_simp
            refine (HLI.out _ hx).mono ?_
            rintro e w3 ⟨a1, c1, rfl, ho, hx3⟩
            exact hK _ _ (hx.trans hx3) ⟨a1, c1, b1, rfl, rfl, ho.base hx.size, (hx3.cell (p := ⟨b1, 0, none⟩) (World.block_lt_of_cell? _ _ hb)).trans hb⟩
          · rintro v' u' w2 hx2 ⟨a1, c1, b1, rfl, rfl, ho2, hb2⟩
            (try simp only [Act.put, List.setIfInBounds_toArray, List.set_cons_zero, List.set_cons_succ])
            have HI1 : Hid (IntsAt w2 (some ⟨b1, 0, none⟩) 1 [(x : Int)]) := ⟨rfl, fun q hq => ⟨b1, 0, rfl, by
              obtain rfl : q = 0 := by omega
              simpa using hb2⟩⟩
            have HO2 := hidP ho2
            have HX2 := hidP hx2
            clear ho2 hb2 hx2
            (refine walkR_tail (by rfl) (by kernel_rfl) ?_; simp only [List.drop_succ_cons, List.drop_zero])
            go_wp2_with (at_builtin; refine wpList_append_ints rfl (.tmp 34) (.tmp 39) rfl wr.heap.size a1 n c1 (natI used) rfl HO2.out (some ⟨b1, 0, none⟩) 1 1 [(x : Int)] rfl HI1.out (fun e => by cases e) (by omega) HX2.out.size ?_; intro a5 c5 w5 ho5 hg5)
            have hx5 := grown_ext hg5 HX2.out HX2.out.size HO2.out.addr_base
            rw [show natI used ++ [(x : Int)] = natI (used ++ [x]) by rw [natI_append]; rfl] at ho5
            have HO5 := hidP ho5
            have HX5 := hidP (HX.out.trans hx5)
            have HLn : Hid ((used ++ [x]).length = n + 1) := by show _ = _; rw [List.length_append, HL.out]; rfl
            have HNr : Hid (∀ y ∈ used ++ [x], y < r) := fun y hy => by
              simp only [List.mem_append, List.mem_singleton] at hy
              rcases hy with hy | rfl
              · exact H7.out y hy
              · exact hxr
            have HNk : Hid ((used ++ [x]).getD n 0 = x) := by
              show _ = _
              rw [getD_app_r _ _ _ _ (by rw [HL.out]; exact Nat.le_refl _), HL.out, Nat.sub_self]
              rfl
            have HFF : Hid (∀ j, F j = ((atM xs r x ((used ++ [x]).getD j 0) == atM due dr n j) && (atM xs r ((used ++ [x]).getD j 0) x == atM due dr j n))) := fun j => by
              rw [HF.out j, ← HL.out]
              rfl
            obtain ⟨nx, hnx⟩ : ∃ l, l = used ++ [x] := ⟨_, rfl⟩
            rw [← hnx] at HO5 HLn HNr HNk HFF HBI
            clear ho5 hg5 hx5 HO2 HX2 HI1 HF HQ HLI hE
            go_loopw [12, 13] (fun u t wx => ∃ j : Nat, j ≤ n + 1 ∧ t = .int .i64 j ∧ u = .bool ((List.range j).all F) ∧ Hid (Ext w5 wx)) (fun _ t _ => n + 1 - (intOf t).toNat)
            case atStart => exact ⟨0, Nat.zero_le _, rfl, rfl, Ext.refl _⟩
            case round =>
              obtain ⟨j, hj, rfl, rfl, HXj⟩ := hrel
              have HXa := hidP (HX5.out.trans HXj.out)
              have HAS : Hid ((List.range (j + 1)).all F = ((List.range j).all F && F j)) := by
                show _ = _
                rw [List.range_succ, List.all_append]
                simp
              by_cases hjn : j ≤ n
              · have hyr : nx.getD j 0 < r := HNr.out _ (getD_mem (by rw [HLn.out]; omega))
                have hoj := HO5.out.below HXj.out
                obtain ⟨g, rfl, _, _, qk, _⟩ := hoj.cell n (by omega)
                obtain ⟨g', e', _, _, qj, _⟩ := hoj.cell j (by omega)
                simp only [Option.some.injEq, Addr.mk.injEq, and_true] at e'
                subst e'
                rw [natI_getD] at qk qj
                rw [HNk.out] at qk
                have HFJ := hidP (HFF.out j)
                obtain ⟨y, hy⟩ : ∃ y, y = nx.getD j 0 := ⟨_, rfl⟩
                rw [← hy] at HFJ qj hyr
                have HC1 := hidP (fun w' (hx : Ext wr w') => l5At_any r ac (r * r) cc xs x y w' ((H1.out.below HXa.out).below hx) (Int.natCast_mul r r) (by omega) (by omega) (by omega))
                have HC2 := hidP (fun w' (hx : Ext wr w') => l5At_any dr ad (dr * dr) cd due n j w' ((H2.out.below HXa.out).below hx) (Int.natCast_mul dr dr) (by omega) (by omega) (by omega))
                have HC3 := hidP (fun w' (hx : Ext wr w') => l5At_any r ac (r * r) cc xs y x w' ((H1.out.below HXa.out).below hx) (Int.natCast_mul r r) (by omega) (by omega) (by omega))
                have HC4 := hidP (fun w' (hx : Ext wr w') => l5At_any dr ad (dr * dr) cd due j n w' ((H2.out.below HXa.out).below hx) (Int.natCast_mul dr dr) (by omega) (by omega) (by omega))
                rw [Int.toNat_natCast] at HC1 HC2 HC3 HC4
                have HW := hidP (fun w' (hx : Ext wr w') => (⟨HC.out.below (HXa.out.trans hx), HD.out.below (HXa.out.trans hx), (hx.cell (p := ⟨g, n, none⟩) (World.block_lt_of_cell? wr _ qk)).trans qk, (hx.cell (p := ⟨g, j, none⟩) (World.block_lt_of_cell? wr _ qj)).trans qj⟩ : _ ∧ _ ∧ _ ∧ _))
                have hE : Ext wr wr.drew := Ext.drew wr
                have hn1 : (n : Int) < (n : Int) + 1 := by omega
                have hj1 : (j : Int) < (n : Int) + 1 := by omega
                generalize atM xs r x y = x1 at *
                generalize atM due dr n j = y1 at *
                generalize atM xs r y x = x2 at *
                generalize atM due dr j n = y2 at *
                clear qk qj hy hoj
                cases hfj : (List.range j).all F
                · rw [hfj] at HAS
                  go_wp2
                  (refine walkR_start (fun w' => Ext wr w') 35 (by kernel_rfl) ?_; simp only [numbered, List.take_succ_cons, List.take_zero, Nat.zero_add, Nat.reduceAdd, List.length_cons, List.length_nil])
                  (repeat (first | (refine walkR_still (v := ?_) rfl (by decide +kernel) rfl (fun _ _ _ h => h) hE ?_ ?_; rotate_left; (focus (intro w' hw'; skip; go_simp; all_goals (with_reducible rfl))); simp only [Act.put, List.setIfInBounds_toArray, List.set_cons_zero, List.set_cons_succ]) | (refine walkR_skip rfl (by decide +kernel) rfl (fun _ _ _ h => h) hE ?_; simp only [Act.put, List.setIfInBounds_toArray, List.set_cons_zero, List.set_cons_succ])))
                  (refine walkR_tail (by rfl) (by kernel_rfl) ?_; simp only [List.drop_succ_cons, List.drop_zero])
                  go_wp2
                  go_roundw
                  case rel => exact ⟨j + 1, by omega, by go_num, by rw [HAS.out]; rfl, HXj.out.trans hE⟩
                  case measure => simp [intOf]; omega
                · rw [hfj, Bool.true_and] at HAS
                  go_wp2
                  (refine walkR_start (fun w' => Ext wr w') 35 (by kernel_rfl) ?_; simp only [numbered, List.take_succ_cons, List.take_zero, Nat.zero_add, Nat.reduceAdd, List.length_cons, List.length_nil])
                  (repeat (first | (refine walkR_still (v := ?_) rfl (by decide +kernel) rfl (fun _ _ _ h => h) hE ?_ ?_; rotate_left; (focus (intro w' hw'; obtain ⟨⟨f0, f1⟩, ⟨g0, g1⟩, q1, q2⟩ := HW.out w' hw'; go_simp; all_goals (with_reducible rfl))); simp only [Act.put, List.setIfInBounds_toArray, List.set_cons_zero, List.set_cons_succ]) | (refine walkR_skip rfl (by decide +kernel) rfl (fun _ _ _ h => h) hE ?_; simp only [Act.put, List.setIfInBounds_toArray, List.set_cons_zero, List.set_cons_succ])))
                  (refine walkR_later ?_; simp only [List.cons_append, List.nil_append])
                  (repeat (first | (refine walkR_still (v := ?_) rfl (by decide +kernel) rfl (fun _ _ _ h => h) hE ?_ ?_; rotate_left; (focus (intro w' hw'; obtain ⟨⟨f0, f1⟩, ⟨g0, g1⟩, q1, q2⟩ := HW.out w' hw'; go_simp; all_goals (with_reducible rfl))); simp only [Act.put, List.setIfInBounds_toArray, List.set_cons_zero, List.set_cons_succ]) | (refine walkR_skip rfl (by decide +kernel) rfl (fun _ _ _ h => h) hE ?_; simp only [Act.put, List.setIfInBounds_toArray, List.set_cons_zero, List.set_cons_succ])))
                  (refine walkR_later ?_; simp only [List.cons_append, List.nil_append]); (refine walkR_later ?_; simp only [List.cons_append, List.nil_append]); (refine walkR_later ?_; simp only [List.cons_append, List.nil_append]); (refine walkR_later ?_; simp only [List.cons_append, List.nil_append]); (refine walkR_later ?_; simp only [List.cons_append, List.nil_append]); (refine walkR_later ?_; simp only [List.cons_append, List.nil_append]); (refine walkR_later ?_; simp only [List.cons_append, List.nil_append]); (refine walkR_later ?_; simp only [List.cons_append, List.nil_append]); (refine walkR_later ?_; simp only [List.cons_append, List.nil_append]); (refine walkR_later ?_; simp only [List.cons_append, List.nil_append]); (refine walkR_later ?_; simp only [List.cons_append, List.nil_append]); (refine walkR_later ?_; simp only [List.cons_append, List.nil_append]); (refine walkR_later ?_; simp only [List.cons_append, List.nil_append]); (refine walkR_later ?_; simp only [List.cons_append, List.nil_append]); (refine walkR_later ?_; simp only [List.cons_append, List.nil_append]); (refine walkR_later ?_; simp only [List.cons_append, List.nil_append]); (refine walkR_later ?_; simp only [List.cons_append, List.nil_append]); (refine walkR_later ?_; simp only [List.cons_append, List.nil_append]); (refine walkR_later ?_; simp only [List.cons_append, List.nil_append]); (refine walkR_later ?_; simp only [List.cons_append, List.nil_append])
                  (refine walkR_only (fun w' => Ext wr w') rfl (by decide +kernel) rfl (fun _ h => h) ?_; intro K hK; go_simp; refine (HC1.out _ hE).mono ?_; rintro e w6 ⟨rfl, hx6⟩; refine hK _ _ (hE.trans hx6) ?_; clear hK K; (try simp only [Act.put, List.setIfInBounds_toArray, List.set_cons_zero, List.set_cons_succ]))
                  have hE6 := hE.trans hx6
                  clear hx6
                  (refine walkR_only (fun w' => Ext wr w') rfl (by decide +kernel) rfl (fun _ h => h) ?_; intro K hK; go_simp; refine (HC2.out _ hE6).mono ?_; rintro e w7 ⟨rfl, hx7⟩; refine hK _ _ (hE6.trans hx7) ?_; clear hK K; (try simp only [Act.put, List.setIfInBounds_toArray, List.set_cons_zero, List.set_cons_succ]))
                  have hE7 := hE6.trans hx7
                  clear hx7
                  cases hp : (x1 == y1)
                  · rw [hp, Bool.false_and] at HFJ
                    (repeat (first | (refine walkR_still (v := ?_) rfl (by decide +kernel) rfl (fun _ _ _ h => h) hE7 ?_ ?_; rotate_left; (focus (intro w' hw'; skip; go_simp; all_goals (with_reducible rfl))); simp only [Act.put, List.setIfInBounds_toArray, List.set_cons_zero, List.set_cons_succ]) | (refine walkR_skip rfl (by decide +kernel) rfl (fun _ _ _ h => h) hE7 ?_; simp only [Act.put, List.setIfInBounds_toArray, List.set_cons_zero, List.set_cons_succ])))
                    (refine walkR_tail (by rfl) (by kernel_rfl) ?_; simp only [List.drop_succ_cons, List.drop_zero])
                    go_wp2
                    go_roundw
                    case rel => exact ⟨j + 1, by omega, by go_num, by rw [HAS.out, HFJ.out], HXj.out.trans hE7⟩
                    case measure => simp [intOf]; omega
                  · rw [hp, Bool.true_and] at HFJ
                    (repeat (first | (refine walkR_still (v := ?_) rfl (by decide +kernel) rfl (fun _ _ _ h => h) hE7 ?_ ?_; rotate_left; (focus (intro w' hw'; obtain ⟨⟨f0, f1⟩, ⟨g0, g1⟩, q1, q2⟩ := HW.out w' hw'; go_simp; all_goals (with_reducible rfl))); simp only [Act.put, List.setIfInBounds_toArray, List.set_cons_zero, List.set_cons_succ]) | (refine walkR_skip rfl (by decide +kernel) rfl (fun _ _ _ h => h) hE7 ?_; simp only [Act.put, List.setIfInBounds_toArray, List.set_cons_zero, List.set_cons_succ])))
                    (refine walkR_later ?_; simp only [List.cons_append, List.nil_append])
                    (repeat (first | (refine walkR_still (v := ?_) rfl (by decide +kernel) rfl (fun _ _ _ h => h) hE7 ?_ ?_; rotate_left; (focus (intro w' hw'; obtain ⟨⟨f0, f1⟩, ⟨g0, g1⟩, q1, q2⟩ := HW.out w' hw'; go_simp; all_goals (with_reducible rfl))); simp only [Act.put, List.setIfInBounds_toArray, List.set_cons_zero, List.set_cons_succ]) | (refine walkR_skip rfl (by decide +kernel) rfl (fun _ _ _ h => h) hE7 ?_; simp only [Act.put, List.setIfInBounds_toArray, List.set_cons_zero, List.set_cons_succ])))
                    (refine walkR_later ?_; simp only [List.cons_append, List.nil_append]); (refine walkR_later ?_; simp only [List.cons_append, List.nil_append]); (refine walkR_later ?_; simp only [List.cons_append, List.nil_append])
                    (refine walkR_only (fun w' => Ext wr w') rfl (by decide +kernel) rfl (fun _ h => h) ?_; intro K hK; go_simp; refine (HC3.out _ hE7).mono ?_; rintro e w8 ⟨rfl, hx8⟩; refine hK _ _ (hE7.trans hx8) ?_; clear hK K; (try simp only [Act.put, List.setIfInBounds_toArray, List.set_cons_zero, List.set_cons_succ]))
                    have hE8 := hE7.trans hx8
                    clear hx8
                    (refine walkR_only (fun w' => Ext wr w') rfl (by decide +kernel) rfl (fun _ h => h) ?_; intro K hK; go_simp; refine (HC4.out _ hE8).mono ?_; rintro e w9 ⟨rfl, hx9⟩; refine hK _ _ (hE8.trans hx9) ?_; clear hK K; (try simp only [Act.put, List.setIfInBounds_toArray, List.set_cons_zero, List.set_cons_succ]))
                    have hE9 := hE8.trans hx9
                    clear hx9
                    (repeat (first | (refine walkR_still (v := ?_) rfl (by decide +kernel) rfl (fun _ _ _ h => h) hE9 ?_ ?_; rotate_left; (focus (intro w' hw'; skip; go_simp; all_goals (with_reducible rfl))); simp only [Act.put, List.setIfInBounds_toArray, List.set_cons_zero, List.set_cons_succ]) | (refine walkR_skip rfl (by decide +kernel) rfl (fun _ _ _ h => h) hE9 ?_; simp only [Act.put, List.setIfInBounds_toArray, List.set_cons_zero, List.set_cons_succ])))
                    (refine walkR_tail (by rfl) (by kernel_rfl) ?_; simp only [List.drop_succ_cons, List.drop_zero])
                    go_wp2
                    go_roundw
                    case rel => exact ⟨j + 1, by omega, by go_num, by rw [HAS.out, HFJ.out], HXj.out.trans hE9⟩
                    case measure => simp [intOf]; omega
              · obtain rfl : j = n + 1 := by omega
                cases hfa : (List.range (n + 1)).all F
                · rw [hfa, Bool.false_and] at HBI
                  go_wp2
                  go_roundw
                  case rel =>
                    refine ⟨i + 1, by omega, by go_num, fun q hq => ?_, HXa⟩
                    rcases Nat.lt_succ_iff_lt_or_eq.1 hq with h3 | rfl
                    · exact HJ.out q h3
                    · exact HBI.out
                  case measure => simp [intOf]; omega
                · rw [hfa, Bool.true_and] at HBI
                  have HCA := HC.out.below HXa.out
                  obtain ⟨f0, f1⟩ := HCA
                  obtain ⟨g0, g1⟩ := HD.out.below HXa.out
                  have HR := hidP (HI.out nx ac ad a5 (some ⟨b, o, none⟩) cc cd (n + 1) c c5 wr (H1.out.below HXa.out) (H2.out.below HXa.out) (H3.out.below HXa.out) (HO5.out.below HXj.out).ints HO5.out.nil_cap (by have := HN6.out; omega) HNr.out)
                  generalize hsb : searchB rows dr (rowChk xs r due dr) f nx = sb at *
                  cases sb
                  · go_wp2_with fail
                    refine HR.out.mono ?_
                    rintro e w6 ⟨rfl, hx6⟩
                    go_wp2
                    go_roundw
                    case rel =>
                      refine ⟨i + 1, by omega, by go_num, fun q hq => ?_, HXa.out.trans hx6⟩
                      rcases Nat.lt_succ_iff_lt_or_eq.1 hq with h3 | rfl
                      · exact HJ.out q h3
                      · exact HBI.out
                    case measure => simp [intOf]; omega
                  · have HE : Hid (((List.range dr).any fun q => B (rows.getD q 0)) = true) := by
                      show _ = _
                      rw [List.any_eq_true]
                      exact ⟨i, List.mem_range.2 hlt, HBI.out⟩
                    go_wp2_with fail
                    refine HR.out.mono ?_
                    rintro e w6 ⟨rfl, hx6⟩
                    go_wp2
                    go_ret
                    exact ⟨ret_bool HE.out.symm, (hx.out.trans HXa.out).trans hx6⟩
      · obtain rfl : i = dr := by omega
        have HE : Hid (((List.range i).any fun q => B (rows.getD q 0)) = false) := by
          show _ = _
          rw [List.any_eq_false]
          intro q hq
          rw [HJ.out q (List.mem_range.1 hq)]
          simp
        go_wp2
        go_ret
        exact ⟨ret_bool HE.out.symm, hx.out.trans HX.out⟩
end Go.Proofs.YtdhlapppahkjeaaGreatDoor

namespace Go.Proofs.YtdhlapppahkjeaaGreatDoor
open Go.RowKit

def chainO (n : Nat) (d4 : Bool) : Nat → List Int
  | 0 => List.replicate (n * n) 0
  | i + 1 => if decide (i + 1 < n) && !d4 then (((chainO n d4 i).set (i * n + i) 2).set (i * n + i + 1) (-1)).set ((i + 1) * n + i) (-1) else (chainO n d4 i).set (i * n + i) 2
def dChain : Nat → List Int
  | 0 => chainO 4 true 4
  | k + 1 => if k = 1 then dChain k else ((dChain k).set (4 + k) (-1)).set (k * 4 + 1) (-1)
def letterO (k : Nat) : Nat := if k < 4 then 65 else if k < 7 then 66 else if k < 9 then 67 else if k = 9 then 68 else if k = 10 then 70 else 71
theorem name_letter (k : Nat) (hk : k < 12) (s : ByteArray) (hs : s = nameS.getD k ByteArray.empty) (h : 0 < s.size) : s[0].toNat = letterO k := by
  have key : ∀ k, k < 12 → ((nameS.getD k ByteArray.empty).data[0]?.getD 0).toNat = letterO k := by decide +kernel
  have := key k hk
  rw [← hs] at this
  rw [← this]
  have h3 : 0 < s.data.size := h
  rw [Array.getElem?_eq_getElem h3]
  rfl
/-- a place of an owned row, behind changes -/
theorem UpdI.place {w0 w : World} {B g m c : Nat} {xs ys : List Int} (h : UpdI w0 w (some ⟨g, 0, none⟩) m ys) (h0 : OwnI w0 B (some ⟨g, 0, none⟩) m c xs) {i : Nat} (hi : i < m) :
    w.cell? ⟨g, i, none⟩ = some (.int .i64 (ys.getD i 0)) ∧ w.frozen? ⟨g, i, none⟩ = false := by
  obtain ⟨y0, y1⟩ := h.cellInt i hi
  have y2 := h0.unfrozen i g 0 hi rfl
  rw [Nat.zero_add] at y0 y1 y2
  exact ⟨y0, y1.trans y2⟩
theorem UpdI.put {w0 w : World} {g m : Nat} {ys : List Int} (h : UpdI w0 w (some ⟨g, 0, none⟩) m ys) {i : Nat} (hi : i < m) (v : Int) : UpdI w0 (w.setCell ⟨g, i, none⟩ (.int .i64 v)) (some ⟨g, 0, none⟩) m (ys.set i v) := by
  have := h.store i hi v
  rwa [Nat.zero_add] at this
set_option maxRecDepth 100000 in
set_option maxHeartbeats 4000000 in
theorem l5One_any (k : Nat) (hk : k < 12) (s : ByteArray) (hs : s = nameS.getD k ByteArray.empty) (w : World) :
    Calls Tryz.prog 95 #[.string s] w fun e w' => ∃ a, e = .returned (carV (pRank k) a (pRank k * pRank k) (pRank k * pRank k)) ∧ OwnI w' w.heap.size a (pRank k * pRank k) (pRank k * pRank k) (pMat k) ∧ Ext w w' := by
  have h2 := name_size k hk s hs
  have h2' : 1 < s.size := by omega
  have h20 : 0 < s.size := by omega
  obtain ⟨hn1, hn4⟩ := pRank_pos k hk
  have hb := name_rank k hk s hs h2'
  have hl0 := name_letter k hk s hs h20
  obtain ⟨d4, hd4⟩ : ∃ d, d = (k == 9) := ⟨_, rfl⟩
  have hD : (letterO k == 68) = d4 := by
    have key : ∀ k, k < 12 → (letterO k == 68) = (k == 9) := by decide
    rw [hd4]
    exact key k hk
  generalize hnk : pRank k = n at *
  have HK := hidP hnk
  have HK4 := hidP hd4
  obtain ⟨L, hL⟩ : ∃ L, L = letterO k := ⟨_, rfl⟩
  rw [← hL] at hl0 hD
  have HL := hidP hL
  have hnn : (n : Int) * n ≤ 16 := by
    have := Nat.mul_le_mul hn4 hn4
    have h : ((n * n : Nat) : Int) ≤ ((4 * 4 : Nat) : Int) := by exact_mod_cast this
    rw [Int.natCast_mul] at h
    exact h
  have hnn0 : 0 ≤ (n : Int) * n := Int.mul_nonneg (by omega) (by omega)
  have hmk := make_ints ((n : Int) * n) hnn0 (by omega)
  have hmn : ((n : Int) * n).toNat = n * n := by rw [← Int.natCast_mul]; rfl
  rw [hmn] at hmk
  have hD1 : ((L : Int) == 68) = d4 := by
    rw [← hD, Bool.eq_iff_iff, beq_iff_eq, beq_iff_eq]
    omega
  have HD1 := hidP hD1
  clear hmn hs hD hnk hd4 hL hD1 h2
  go_enter Tryz.func95, Tryz.ntmps95
  go_wp2
  have hm0 := OwnI.made (w.alloc (.cells #[.int .i64 0, .slice none 0 0] 29)) (w.heap.size + 1) (n * n) (by simp) (by unfold maxLen; omega)
  have hx1 := Ext.alloc (w.alloc (.cells #[.int .i64 0, .slice none 0 0] 29)) (.cells (Array.replicate (n * n) (.int .i64 0)) 3)
  have hx2 := Ext.alloc ((w.alloc (.cells #[.int .i64 0, .slice none 0 0] 29)).alloc (.cells (Array.replicate (n * n) (.int .i64 0)) 3)) (.cells #[.int .i64 n, .slice (some ⟨w.heap.size + 1, 0, none⟩) (n * n) (n * n)] 29)
  have hca := CarAt.new ((w.alloc (.cells #[.int .i64 0, .slice none 0 0] 29)).alloc (.cells (Array.replicate (n * n) (.int .i64 0)) 3)) (w.heap.size + 1 + 1) (by simp) n (some ⟨w.heap.size + 1, 0, none⟩) (n * n) (n * n) 29
  have hr0 := new_cell (w := w) (b := w.heap.size) rfl (hx1.trans hx2) 0
  have hr1 := new_cell (w := w) (b := w.heap.size) rfl (hx1.trans hx2) 1
  rw [show (w.alloc (.cells #[.int .i64 0, .slice none 0 0] 29)).heap.size = w.heap.size + 1 by simp] at hm0
  have hX : Ext w (((w.alloc (.cells #[.int .i64 0, .slice none 0 0] 29)).alloc (.cells (Array.replicate (n * n) (.int .i64 0)) 3)).alloc (.cells #[.int .i64 n, .slice (some ⟨w.heap.size + 1, 0, none⟩) (n * n) (n * n)] 29)) := (Ext.alloc w _).trans (hx1.trans hx2)
  have hm := hm0.below hx2
  obtain ⟨w1, hw1⟩ : ∃ w1, w1 = ((w.alloc (.cells #[.int .i64 0, .slice none 0 0] 29)).alloc (.cells (Array.replicate (n * n) (.int .i64 0)) 3)).alloc (.cells #[.int .i64 n, .slice (some ⟨w.heap.size + 1, 0, none⟩) (n * n) (n * n)] 29) := ⟨_, rfl⟩
  obtain ⟨g, hg⟩ : ∃ g, g = w.heap.size + 1 := ⟨_, rfl⟩
  obtain ⟨b4, hb4⟩ : ∃ b, b = w.heap.size + 1 + 1 := ⟨_, rfl⟩
  rw [← hw1] at hm hca hr0 hr1 hX ⊢
  rw [← hb4] at hca ⊢
  rw [← hg] at hm hca ⊢
  have n4 : b4 ≠ g := by omega
  have nw : w.heap.size ≠ g := by omega
  have HM := hidP hm
  have HC := hidP hca
  have HX := hidP hX
  have hr0' : w1.cell? ⟨w.heap.size, 0, none⟩ = some (.int .i64 0) := hr0.1
  have hr1' : w1.cell? ⟨w.heap.size, 1, none⟩ = some (.slice none 0 0) := hr1.1
  have HR : Hid (w1.cell? ⟨w.heap.size, 0, none⟩ = some (.int .i64 0) ∧ w1.cell? ⟨w.heap.size, 1, none⟩ = some (.slice none 0 0) ∧ w1.frozen? ⟨w.heap.size, 0, none⟩ = false ∧ w1.frozen? ⟨w.heap.size, 1, none⟩ = false) := ⟨hr0', hr1', hr0.2, hr1.2⟩
  have HU0 := hidP (UpdI.start hm.ints)
  have hlw : w.heap.size < w1.heap.size := World.block_lt_of_cell? w1 _ hr0'
  have HGW : Hid (w.heap.size ≤ g) := by show _ ≤ _; omega
  clear hw1 hg hb4 hm0 hx1 hx2 hr0 hr1 hr0' hr1' hX hm hca
  go_loopw [5] (fun t wr => ∃ i : Nat, i ≤ n ∧ t = .int .i64 i ∧ Hid (UpdI w1 wr (some ⟨g, 0, none⟩) (n * n) (chainO n d4 i))) (fun t _ => n - (intOf t).toNat)
  case atStart => exact ⟨0, Nat.zero_le _, rfl, HU0⟩
  case round =>
    clear HU0
    obtain ⟨i, hi, rfl, HU⟩ := hrel
    obtain ⟨c0, c1⟩ := HC.out
    have f1 := HU.out.far c1 n4
    by_cases hlt : i < n
    · have p1 : i * n + i < n * n := by
        have : (i + 1) * n ≤ n * n := Nat.mul_le_mul_right _ hlt
        rw [Nat.add_mul, Nat.one_mul] at this
        omega
      obtain ⟨y0, y1⟩ := HU.out.place HM.out p1
      have hu1 := HU.out.put p1 2
      have g1 := hu1.far c1 n4
      have P1 := hidP (placeF hn4 hlt hlt)
      obtain ⟨k1, k2, k3, k4, k5⟩ := P1.out
      by_cases hq : i + 1 < n
      · have hq' : (i : Int) + 1 < n := by omega
        cases d4
        · have p2 : i * n + i + 1 < n * n := by
            have : (i + 1) * n ≤ n * n := Nat.mul_le_mul_right _ hlt
            rw [Nat.add_mul, Nat.one_mul] at this
            omega
          have p3 : (i + 1) * n + i < n * n := by
            have : (i + 2) * n ≤ n * n := Nat.mul_le_mul_right _ (by omega)
            rw [Nat.add_mul] at this ⊢
            omega
          obtain ⟨y2, y3⟩ := hu1.place HM.out p2
          have hu2 := hu1.put p2 (-1)
          have g2 := hu2.far c1 n4
          obtain ⟨y4, y5⟩ := hu2.place HM.out p3
          have hu3 := hu2.put p3 (-1)
          have HE : Hid (chainO n false (i + 1) = (((chainO n false i).set (i * n + i) 2).set (i * n + i + 1) (-1)).set ((i + 1) * n + i) (-1)) := by
            show _ = _
            rw [chainO, if_pos (by simp [hq])]
          rw [← HE.out] at hu3
          have HU3 := hidP hu3
          have hd := HD1.out
          obtain ⟨l1, l2, l3, l4, l5⟩ := placeF (i := i + 1) (j := i) hn4 hq hlt
          simp only [Int.natCast_add, Int.cast_ofNat_Int] at l1 l2 l3 l4 l5
          clear hu1 hu2 hu3 c0 c1
          go_wp2
          go_roundw
          case rel => exact ⟨i + 1, by omega, by go_num, HU3⟩
          case measure => simp [intOf]; omega
        · have HE : Hid (chainO n true (i + 1) = (chainO n true i).set (i * n + i) 2) := by
            show _ = _
            rw [chainO, if_neg (by simp)]
          rw [← HE.out] at hu1
          have HU1 := hidP hu1
          have hd := HD1.out
          clear hu1 c0 c1
          go_wp2
          go_roundw
          case rel => exact ⟨i + 1, by omega, by go_num, HU1⟩
          case measure => simp [intOf]; omega
      · have hq' : ¬ (i : Int) + 1 < n := by omega
        have HE : Hid (chainO n d4 (i + 1) = (chainO n d4 i).set (i * n + i) 2) := by
          show _ = _
          rw [chainO, if_neg (by simp [hq])]
        rw [← HE.out] at hu1
        have HU1 := hidP hu1
        clear hu1 c0 c1
        go_wp2
        go_roundw
        case rel => exact ⟨i + 1, by omega, by go_num, HU1⟩
        case measure => simp [intOf]; omega
    · obtain rfl : i = n := by omega
      have hcase : k = 0 ∨ k = 1 ∨ k = 2 ∨ k = 3 ∨ k = 4 ∨ k = 5 ∨ k = 6 ∨ k = 7 ∨ k = 8 ∨ k = 9 ∨ k = 10 ∨ k = 11 := by omega
      rcases hcase with rfl | rfl | rfl | rfl | rfl | rfl | rfl | rfl | rfl | rfl | rfl | rfl
      · obtain rfl : i = 1 := HK.out.symm
        obtain rfl : L = 65 := HL.out
        obtain rfl : d4 = false := HK4.out
        have HUF : Hid (UpdI w1 wr (some ⟨g, 0, none⟩) 1 (pMat 0)) := by
          have h : chainO 1 false 1 = pMat 0 := by decide
          rw [← h]
          exact HU
        obtain ⟨e0, e1⟩ := HC.out
        have t0 := HUF.out.far e0 n4
        have t1 := HUF.out.far e1 n4
        obtain ⟨r0, r1, r2, r3⟩ := HR.out
        have o0 := HUF.out.far r0 nw
        have o1 := HUF.out.far r1 nw
        have o2 := (HUF.out.farF hlw nw).trans r2
        have o3 := (HUF.out.farF hlw nw).trans r3
        have o4 : w.heap.size < wr.heap.size := Nat.lt_of_lt_of_le hlw HUF.out.size
        have HEnd : Hid (OwnI ((wr.setCell ⟨w.heap.size, 0, none⟩ (.int .i64 1)).setCell ⟨w.heap.size, 1, none⟩ (.slice (some ⟨g, 0, none⟩) 1 1)) w.heap.size (some ⟨g, 0, none⟩) 1 1 (pMat 0) ∧ Ext w ((wr.setCell ⟨w.heap.size, 0, none⟩ (.int .i64 1)).setCell ⟨w.heap.size, 1, none⟩ (.slice (some ⟨g, 0, none⟩) 1 1))) := by
          refine ⟨?_, ?_⟩
          · exact ((((HUF.out.own HM.out).base HGW.out).setFar _ 0 _ (Ne.symm nw)).setFar _ 1 _ (Ne.symm nw))
          · have h : Ext w wr := HUF.out.below HX.out HX.out.size fun b o e _ => by cases e; exact HGW.out
            exact (h.setNew _ _ (Nat.le_refl _) _).setNew _ _ (Nat.le_refl _) _
        clear e0 e1 r0 r1 r2 r3
        go_wp2
        refine bodyPost_ret (v := carV 1 (some ⟨g, 0, none⟩) 1 1) (by simp [results, Tryz.results95, go_sem, o0, o1]) rfl ⟨some ⟨g, 0, none⟩, rfl, ?_, ?_⟩
        · exact HEnd.out.1
        · exact HEnd.out.2
      · obtain rfl : i = 2 := HK.out.symm
        obtain rfl : L = 65 := HL.out
        obtain rfl : d4 = false := HK4.out
        have HUF : Hid (UpdI w1 wr (some ⟨g, 0, none⟩) 4 (pMat 1)) := by
          have h : chainO 2 false 2 = pMat 1 := by decide
          rw [← h]
          exact HU
        obtain ⟨e0, e1⟩ := HC.out
        have t0 := HUF.out.far e0 n4
        have t1 := HUF.out.far e1 n4
        obtain ⟨r0, r1, r2, r3⟩ := HR.out
        have o0 := HUF.out.far r0 nw
        have o1 := HUF.out.far r1 nw
        have o2 := (HUF.out.farF hlw nw).trans r2
        have o3 := (HUF.out.farF hlw nw).trans r3
        have o4 : w.heap.size < wr.heap.size := Nat.lt_of_lt_of_le hlw HUF.out.size
        have HEnd : Hid (OwnI ((wr.setCell ⟨w.heap.size, 0, none⟩ (.int .i64 2)).setCell ⟨w.heap.size, 1, none⟩ (.slice (some ⟨g, 0, none⟩) 4 4)) w.heap.size (some ⟨g, 0, none⟩) 4 4 (pMat 1) ∧ Ext w ((wr.setCell ⟨w.heap.size, 0, none⟩ (.int .i64 2)).setCell ⟨w.heap.size, 1, none⟩ (.slice (some ⟨g, 0, none⟩) 4 4))) := by
          refine ⟨?_, ?_⟩
          · exact ((((HUF.out.own HM.out).base HGW.out).setFar _ 0 _ (Ne.symm nw)).setFar _ 1 _ (Ne.symm nw))
          · have h : Ext w wr := HUF.out.below HX.out HX.out.size fun b o e _ => by cases e; exact HGW.out
            exact (h.setNew _ _ (Nat.le_refl _) _).setNew _ _ (Nat.le_refl _) _
        clear e0 e1 r0 r1 r2 r3
        go_wp2
        refine bodyPost_ret (v := carV 2 (some ⟨g, 0, none⟩) 4 4) (by simp [results, Tryz.results95, go_sem, o0, o1]) rfl ⟨some ⟨g, 0, none⟩, rfl, ?_, ?_⟩
        · exact HEnd.out.1
        · exact HEnd.out.2
      · obtain rfl : i = 3 := HK.out.symm
        obtain rfl : L = 65 := HL.out
        obtain rfl : d4 = false := HK4.out
        have HUF : Hid (UpdI w1 wr (some ⟨g, 0, none⟩) 9 (pMat 2)) := by
          have h : chainO 3 false 3 = pMat 2 := by decide
          rw [← h]
          exact HU
        obtain ⟨e0, e1⟩ := HC.out
        have t0 := HUF.out.far e0 n4
        have t1 := HUF.out.far e1 n4
        obtain ⟨r0, r1, r2, r3⟩ := HR.out
        have o0 := HUF.out.far r0 nw
        have o1 := HUF.out.far r1 nw
        have o2 := (HUF.out.farF hlw nw).trans r2
        have o3 := (HUF.out.farF hlw nw).trans r3
        have o4 : w.heap.size < wr.heap.size := Nat.lt_of_lt_of_le hlw HUF.out.size
        have HEnd : Hid (OwnI ((wr.setCell ⟨w.heap.size, 0, none⟩ (.int .i64 3)).setCell ⟨w.heap.size, 1, none⟩ (.slice (some ⟨g, 0, none⟩) 9 9)) w.heap.size (some ⟨g, 0, none⟩) 9 9 (pMat 2) ∧ Ext w ((wr.setCell ⟨w.heap.size, 0, none⟩ (.int .i64 3)).setCell ⟨w.heap.size, 1, none⟩ (.slice (some ⟨g, 0, none⟩) 9 9))) := by
          refine ⟨?_, ?_⟩
          · exact ((((HUF.out.own HM.out).base HGW.out).setFar _ 0 _ (Ne.symm nw)).setFar _ 1 _ (Ne.symm nw))
          · have h : Ext w wr := HUF.out.below HX.out HX.out.size fun b o e _ => by cases e; exact HGW.out
            exact (h.setNew _ _ (Nat.le_refl _) _).setNew _ _ (Nat.le_refl _) _
        clear e0 e1 r0 r1 r2 r3
        go_wp2
        refine bodyPost_ret (v := carV 3 (some ⟨g, 0, none⟩) 9 9) (by simp [results, Tryz.results95, go_sem, o0, o1]) rfl ⟨some ⟨g, 0, none⟩, rfl, ?_, ?_⟩
        · exact HEnd.out.1
        · exact HEnd.out.2
      · obtain rfl : i = 4 := HK.out.symm
        obtain rfl : L = 65 := HL.out
        obtain rfl : d4 = false := HK4.out
        have HUF : Hid (UpdI w1 wr (some ⟨g, 0, none⟩) 16 (pMat 3)) := by
          have h : chainO 4 false 4 = pMat 3 := by decide
          rw [← h]
          exact HU
        obtain ⟨e0, e1⟩ := HC.out
        have t0 := HUF.out.far e0 n4
        have t1 := HUF.out.far e1 n4
        obtain ⟨r0, r1, r2, r3⟩ := HR.out
        have o0 := HUF.out.far r0 nw
        have o1 := HUF.out.far r1 nw
        have o2 := (HUF.out.farF hlw nw).trans r2
        have o3 := (HUF.out.farF hlw nw).trans r3
        have o4 : w.heap.size < wr.heap.size := Nat.lt_of_lt_of_le hlw HUF.out.size
        have HEnd : Hid (OwnI ((wr.setCell ⟨w.heap.size, 0, none⟩ (.int .i64 4)).setCell ⟨w.heap.size, 1, none⟩ (.slice (some ⟨g, 0, none⟩) 16 16)) w.heap.size (some ⟨g, 0, none⟩) 16 16 (pMat 3) ∧ Ext w ((wr.setCell ⟨w.heap.size, 0, none⟩ (.int .i64 4)).setCell ⟨w.heap.size, 1, none⟩ (.slice (some ⟨g, 0, none⟩) 16 16))) := by
          refine ⟨?_, ?_⟩
          · exact ((((HUF.out.own HM.out).base HGW.out).setFar _ 0 _ (Ne.symm nw)).setFar _ 1 _ (Ne.symm nw))
          · have h : Ext w wr := HUF.out.below HX.out HX.out.size fun b o e _ => by cases e; exact HGW.out
            exact (h.setNew _ _ (Nat.le_refl _) _).setNew _ _ (Nat.le_refl _) _
        clear e0 e1 r0 r1 r2 r3
        go_wp2
        refine bodyPost_ret (v := carV 4 (some ⟨g, 0, none⟩) 16 16) (by simp [results, Tryz.results95, go_sem, o0, o1]) rfl ⟨some ⟨g, 0, none⟩, rfl, ?_, ?_⟩
        · exact HEnd.out.1
        · exact HEnd.out.2
      · obtain rfl : i = 2 := HK.out.symm
        obtain rfl : L = 66 := HL.out
        obtain rfl : d4 = false := HK4.out
        obtain ⟨c0, c1⟩ := HC.out
        have f1 := HU.out.far c1 n4
        obtain ⟨y0, y1⟩ := HU.out.place HM.out (show 2 < 4 by omega)
        have hu1 := HU.out.put (show 2 < 4 by omega) (-2)
        have HUF : Hid (UpdI w1 (wr.setCell ⟨g, 2, none⟩ (.int .i64 (-2))) (some ⟨g, 0, none⟩) 4 (pMat 4)) := by
          have h : (chainO 2 false 2).set 2 (-2) = pMat 4 := by decide
          rw [← h]
          exact hu1
        clear c0 c1 hu1
        obtain ⟨e0, e1⟩ := HC.out
        have t0 := HUF.out.far e0 n4
        have t1 := HUF.out.far e1 n4
        obtain ⟨r0, r1, r2, r3⟩ := HR.out
        have o0 := HUF.out.far r0 nw
        have o1 := HUF.out.far r1 nw
        have o2 := (HUF.out.farF hlw nw).trans r2
        have o3 := (HUF.out.farF hlw nw).trans r3
        have o4 : w.heap.size < (wr.setCell ⟨g, 2, none⟩ (.int .i64 (-2))).heap.size := Nat.lt_of_lt_of_le hlw HUF.out.size
        have HEnd : Hid (OwnI (((wr.setCell ⟨g, 2, none⟩ (.int .i64 (-2))).setCell ⟨w.heap.size, 0, none⟩ (.int .i64 2)).setCell ⟨w.heap.size, 1, none⟩ (.slice (some ⟨g, 0, none⟩) 4 4)) w.heap.size (some ⟨g, 0, none⟩) 4 4 (pMat 4) ∧ Ext w (((wr.setCell ⟨g, 2, none⟩ (.int .i64 (-2))).setCell ⟨w.heap.size, 0, none⟩ (.int .i64 2)).setCell ⟨w.heap.size, 1, none⟩ (.slice (some ⟨g, 0, none⟩) 4 4))) := by
          refine ⟨?_, ?_⟩
          · exact ((((HUF.out.own HM.out).base HGW.out).setFar _ 0 _ (Ne.symm nw)).setFar _ 1 _ (Ne.symm nw))
          · have h : Ext w (wr.setCell ⟨g, 2, none⟩ (.int .i64 (-2))) := HUF.out.below HX.out HX.out.size fun b o e _ => by cases e; exact HGW.out
            exact (h.setNew _ _ (Nat.le_refl _) _).setNew _ _ (Nat.le_refl _) _
        clear e0 e1 r0 r1 r2 r3
        go_wp2
        refine bodyPost_ret (v := carV 2 (some ⟨g, 0, none⟩) 4 4) (by simp [results, Tryz.results95, go_sem, o0, o1]) rfl ⟨some ⟨g, 0, none⟩, rfl, ?_, ?_⟩
        · exact HEnd.out.1
        · exact HEnd.out.2
      · obtain rfl : i = 3 := HK.out.symm
        obtain rfl : L = 66 := HL.out
        obtain rfl : d4 = false := HK4.out
        obtain ⟨c0, c1⟩ := HC.out
        have f1 := HU.out.far c1 n4
        obtain ⟨y0, y1⟩ := HU.out.place HM.out (show 7 < 9 by omega)
        have hu1 := HU.out.put (show 7 < 9 by omega) (-2)
        have HUF : Hid (UpdI w1 (wr.setCell ⟨g, 7, none⟩ (.int .i64 (-2))) (some ⟨g, 0, none⟩) 9 (pMat 5)) := by
          have h : (chainO 3 false 3).set 7 (-2) = pMat 5 := by decide
          rw [← h]
          exact hu1
        clear c0 c1 hu1
        obtain ⟨e0, e1⟩ := HC.out
        have t0 := HUF.out.far e0 n4
        have t1 := HUF.out.far e1 n4
        obtain ⟨r0, r1, r2, r3⟩ := HR.out
        have o0 := HUF.out.far r0 nw
        have o1 := HUF.out.far r1 nw
        have o2 := (HUF.out.farF hlw nw).trans r2
        have o3 := (HUF.out.farF hlw nw).trans r3
        have o4 : w.heap.size < (wr.setCell ⟨g, 7, none⟩ (.int .i64 (-2))).heap.size := Nat.lt_of_lt_of_le hlw HUF.out.size
        have HEnd : Hid (OwnI (((wr.setCell ⟨g, 7, none⟩ (.int .i64 (-2))).setCell ⟨w.heap.size, 0, none⟩ (.int .i64 3)).setCell ⟨w.heap.size, 1, none⟩ (.slice (some ⟨g, 0, none⟩) 9 9)) w.heap.size (some ⟨g, 0, none⟩) 9 9 (pMat 5) ∧ Ext w (((wr.setCell ⟨g, 7, none⟩ (.int .i64 (-2))).setCell ⟨w.heap.size, 0, none⟩ (.int .i64 3)).setCell ⟨w.heap.size, 1, none⟩ (.slice (some ⟨g, 0, none⟩) 9 9))) := by
          refine ⟨?_, ?_⟩
          · exact ((((HUF.out.own HM.out).base HGW.out).setFar _ 0 _ (Ne.symm nw)).setFar _ 1 _ (Ne.symm nw))
          · have h : Ext w (wr.setCell ⟨g, 7, none⟩ (.int .i64 (-2))) := HUF.out.below HX.out HX.out.size fun b o e _ => by cases e; exact HGW.out
            exact (h.setNew _ _ (Nat.le_refl _) _).setNew _ _ (Nat.le_refl _) _
        clear e0 e1 r0 r1 r2 r3
        go_wp2
        refine bodyPost_ret (v := carV 3 (some ⟨g, 0, none⟩) 9 9) (by simp [results, Tryz.results95, go_sem, o0, o1]) rfl ⟨some ⟨g, 0, none⟩, rfl, ?_, ?_⟩
        · exact HEnd.out.1
        · exact HEnd.out.2
      · obtain rfl : i = 4 := HK.out.symm
        obtain rfl : L = 66 := HL.out
        obtain rfl : d4 = false := HK4.out
        obtain ⟨c0, c1⟩ := HC.out
        have f1 := HU.out.far c1 n4
        obtain ⟨y0, y1⟩ := HU.out.place HM.out (show 14 < 16 by omega)
        have hu1 := HU.out.put (show 14 < 16 by omega) (-2)
        have HUF : Hid (UpdI w1 (wr.setCell ⟨g, 14, none⟩ (.int .i64 (-2))) (some ⟨g, 0, none⟩) 16 (pMat 6)) := by
          have h : (chainO 4 false 4).set 14 (-2) = pMat 6 := by decide
          rw [← h]
          exact hu1
        clear c0 c1 hu1
        obtain ⟨e0, e1⟩ := HC.out
        have t0 := HUF.out.far e0 n4
        have t1 := HUF.out.far e1 n4
        obtain ⟨r0, r1, r2, r3⟩ := HR.out
        have o0 := HUF.out.far r0 nw
        have o1 := HUF.out.far r1 nw
        have o2 := (HUF.out.farF hlw nw).trans r2
        have o3 := (HUF.out.farF hlw nw).trans r3
        have o4 : w.heap.size < (wr.setCell ⟨g, 14, none⟩ (.int .i64 (-2))).heap.size := Nat.lt_of_lt_of_le hlw HUF.out.size
        have HEnd : Hid (OwnI (((wr.setCell ⟨g, 14, none⟩ (.int .i64 (-2))).setCell ⟨w.heap.size, 0, none⟩ (.int .i64 4)).setCell ⟨w.heap.size, 1, none⟩ (.slice (some ⟨g, 0, none⟩) 16 16)) w.heap.size (some ⟨g, 0, none⟩) 16 16 (pMat 6) ∧ Ext w (((wr.setCell ⟨g, 14, none⟩ (.int .i64 (-2))).setCell ⟨w.heap.size, 0, none⟩ (.int .i64 4)).setCell ⟨w.heap.size, 1, none⟩ (.slice (some ⟨g, 0, none⟩) 16 16))) := by
          refine ⟨?_, ?_⟩
          · exact ((((HUF.out.own HM.out).base HGW.out).setFar _ 0 _ (Ne.symm nw)).setFar _ 1 _ (Ne.symm nw))
          · have h : Ext w (wr.setCell ⟨g, 14, none⟩ (.int .i64 (-2))) := HUF.out.below HX.out HX.out.size fun b o e _ => by cases e; exact HGW.out
            exact (h.setNew _ _ (Nat.le_refl _) _).setNew _ _ (Nat.le_refl _) _
        clear e0 e1 r0 r1 r2 r3
        go_wp2
        refine bodyPost_ret (v := carV 4 (some ⟨g, 0, none⟩) 16 16) (by simp [results, Tryz.results95, go_sem, o0, o1]) rfl ⟨some ⟨g, 0, none⟩, rfl, ?_, ?_⟩
        · exact HEnd.out.1
        · exact HEnd.out.2
      · obtain rfl : i = 3 := HK.out.symm
        obtain rfl : L = 67 := HL.out
        obtain rfl : d4 = false := HK4.out
        obtain ⟨c0, c1⟩ := HC.out
        have f1 := HU.out.far c1 n4
        obtain ⟨y0, y1⟩ := HU.out.place HM.out (show 5 < 9 by omega)
        have hu1 := HU.out.put (show 5 < 9 by omega) (-2)
        have HUF : Hid (UpdI w1 (wr.setCell ⟨g, 5, none⟩ (.int .i64 (-2))) (some ⟨g, 0, none⟩) 9 (pMat 7)) := by
          have h : (chainO 3 false 3).set 5 (-2) = pMat 7 := by decide
          rw [← h]
          exact hu1
        clear c0 c1 hu1
        obtain ⟨e0, e1⟩ := HC.out
        have t0 := HUF.out.far e0 n4
        have t1 := HUF.out.far e1 n4
        obtain ⟨r0, r1, r2, r3⟩ := HR.out
        have o0 := HUF.out.far r0 nw
        have o1 := HUF.out.far r1 nw
        have o2 := (HUF.out.farF hlw nw).trans r2
        have o3 := (HUF.out.farF hlw nw).trans r3
        have o4 : w.heap.size < (wr.setCell ⟨g, 5, none⟩ (.int .i64 (-2))).heap.size := Nat.lt_of_lt_of_le hlw HUF.out.size
        have HEnd : Hid (OwnI (((wr.setCell ⟨g, 5, none⟩ (.int .i64 (-2))).setCell ⟨w.heap.size, 0, none⟩ (.int .i64 3)).setCell ⟨w.heap.size, 1, none⟩ (.slice (some ⟨g, 0, none⟩) 9 9)) w.heap.size (some ⟨g, 0, none⟩) 9 9 (pMat 7) ∧ Ext w (((wr.setCell ⟨g, 5, none⟩ (.int .i64 (-2))).setCell ⟨w.heap.size, 0, none⟩ (.int .i64 3)).setCell ⟨w.heap.size, 1, none⟩ (.slice (some ⟨g, 0, none⟩) 9 9))) := by
          refine ⟨?_, ?_⟩
          · exact ((((HUF.out.own HM.out).base HGW.out).setFar _ 0 _ (Ne.symm nw)).setFar _ 1 _ (Ne.symm nw))
          · have h : Ext w (wr.setCell ⟨g, 5, none⟩ (.int .i64 (-2))) := HUF.out.below HX.out HX.out.size fun b o e _ => by cases e; exact HGW.out
            exact (h.setNew _ _ (Nat.le_refl _) _).setNew _ _ (Nat.le_refl _) _
        clear e0 e1 r0 r1 r2 r3
        go_wp2
        refine bodyPost_ret (v := carV 3 (some ⟨g, 0, none⟩) 9 9) (by simp [results, Tryz.results95, go_sem, o0, o1]) rfl ⟨some ⟨g, 0, none⟩, rfl, ?_, ?_⟩
        · exact HEnd.out.1
        · exact HEnd.out.2
      · obtain rfl : i = 4 := HK.out.symm
        obtain rfl : L = 67 := HL.out
        obtain rfl : d4 = false := HK4.out
        obtain ⟨c0, c1⟩ := HC.out
        have f1 := HU.out.far c1 n4
        obtain ⟨y0, y1⟩ := HU.out.place HM.out (show 11 < 16 by omega)
        have hu1 := HU.out.put (show 11 < 16 by omega) (-2)
        have HUF : Hid (UpdI w1 (wr.setCell ⟨g, 11, none⟩ (.int .i64 (-2))) (some ⟨g, 0, none⟩) 16 (pMat 8)) := by
          have h : (chainO 4 false 4).set 11 (-2) = pMat 8 := by decide
          rw [← h]
          exact hu1
        clear c0 c1 hu1
        obtain ⟨e0, e1⟩ := HC.out
        have t0 := HUF.out.far e0 n4
        have t1 := HUF.out.far e1 n4
        obtain ⟨r0, r1, r2, r3⟩ := HR.out
        have o0 := HUF.out.far r0 nw
        have o1 := HUF.out.far r1 nw
        have o2 := (HUF.out.farF hlw nw).trans r2
        have o3 := (HUF.out.farF hlw nw).trans r3
        have o4 : w.heap.size < (wr.setCell ⟨g, 11, none⟩ (.int .i64 (-2))).heap.size := Nat.lt_of_lt_of_le hlw HUF.out.size
        have HEnd : Hid (OwnI (((wr.setCell ⟨g, 11, none⟩ (.int .i64 (-2))).setCell ⟨w.heap.size, 0, none⟩ (.int .i64 4)).setCell ⟨w.heap.size, 1, none⟩ (.slice (some ⟨g, 0, none⟩) 16 16)) w.heap.size (some ⟨g, 0, none⟩) 16 16 (pMat 8) ∧ Ext w (((wr.setCell ⟨g, 11, none⟩ (.int .i64 (-2))).setCell ⟨w.heap.size, 0, none⟩ (.int .i64 4)).setCell ⟨w.heap.size, 1, none⟩ (.slice (some ⟨g, 0, none⟩) 16 16))) := by
          refine ⟨?_, ?_⟩
          · exact ((((HUF.out.own HM.out).base HGW.out).setFar _ 0 _ (Ne.symm nw)).setFar _ 1 _ (Ne.symm nw))
          · have h : Ext w (wr.setCell ⟨g, 11, none⟩ (.int .i64 (-2))) := HUF.out.below HX.out HX.out.size fun b o e _ => by cases e; exact HGW.out
            exact (h.setNew _ _ (Nat.le_refl _) _).setNew _ _ (Nat.le_refl _) _
        clear e0 e1 r0 r1 r2 r3
        go_wp2
        refine bodyPost_ret (v := carV 4 (some ⟨g, 0, none⟩) 16 16) (by simp [results, Tryz.results95, go_sem, o0, o1]) rfl ⟨some ⟨g, 0, none⟩, rfl, ?_, ?_⟩
        · exact HEnd.out.1
        · exact HEnd.out.2
      · obtain rfl : i = 4 := HK.out.symm
        obtain rfl : L = 68 := HL.out
        obtain rfl : d4 = true := HK4.out
        obtain ⟨c0, c1⟩ := HC.out
        have f1 := HU.out.far c1 n4
        have f0 := HU.out.far c0 n4
        clear c0 c1
        go_wp2
        have HU0 : Hid (UpdI w1 wr (some ⟨g, 0, none⟩) 16 (dChain 0)) := HU.out
        clear HU f0 f1
        go_loopw [6] (fun t wr => ∃ j : Nat, j ≤ 4 ∧ t = .int .i64 j ∧ Hid (UpdI w1 wr (some ⟨g, 0, none⟩) 16 (dChain j))) (fun t _ => 4 - (intOf t).toNat)
        case atStart => exact ⟨0, Nat.zero_le _, rfl, HU0⟩
        case round =>
          clear HU0
          obtain ⟨j, hj, rfl, HU⟩ := hrel
          obtain ⟨c0, c1⟩ := HC.out
          have f1 := HU.out.far c1 n4
          have f0 := HU.out.far c0 n4
          by_cases hj4 : j < 4
          · by_cases hj1 : j = 1
            · subst hj1
              clear c0 c1
              go_wp2
              go_roundw
              case rel => exact ⟨2, by omega, by go_num, HU⟩
              case measure => simp [intOf]
            · have HE : Hid (dChain (j + 1) = ((dChain j).set (4 + j) (-1)).set (j * 4 + 1) (-1)) := by
                show _ = _
                rw [dChain, if_neg hj1]
              have p1 : 4 + j < 16 := by omega
              have p2 : j * 4 + 1 < 16 := by omega
              obtain ⟨y0, y1⟩ := HU.out.place HM.out p1
              have hu1 := HU.out.put p1 (-1)
              have g1 := hu1.far c1 n4
              obtain ⟨y2, y3⟩ := hu1.place HM.out p2
              have hu2 := hu1.put p2 (-1)
              rw [← HE.out] at hu2
              have HU2 := hidP hu2
              have hj1' : ((j : Int) != 1) = true := by simp; omega
              clear hu1 hu2 c0 c1 hj1
              go_wp2
              go_roundw
              case rel => exact ⟨j + 1, by omega, by go_num, HU2⟩
              case measure => simp [intOf]; omega
          · obtain rfl : j = 4 := by omega
            have HUF : Hid (UpdI w1 wr (some ⟨g, 0, none⟩) 16 (pMat 9)) := by
              have h : dChain 4 = pMat 9 := by decide
              rw [← h]
              exact HU
            clear HU f0 f1 c0 c1
            obtain ⟨e0, e1⟩ := HC.out
            have t0 := HUF.out.far e0 n4
            have t1 := HUF.out.far e1 n4
            obtain ⟨r0, r1, r2, r3⟩ := HR.out
            have o0 := HUF.out.far r0 nw
            have o1 := HUF.out.far r1 nw
            have o2 := (HUF.out.farF hlw nw).trans r2
            have o3 := (HUF.out.farF hlw nw).trans r3
            have o4 : w.heap.size < wr.heap.size := Nat.lt_of_lt_of_le hlw HUF.out.size
            have HEnd : Hid (OwnI ((wr.setCell ⟨w.heap.size, 0, none⟩ (.int .i64 4)).setCell ⟨w.heap.size, 1, none⟩ (.slice (some ⟨g, 0, none⟩) 16 16)) w.heap.size (some ⟨g, 0, none⟩) 16 16 (pMat 9) ∧ Ext w ((wr.setCell ⟨w.heap.size, 0, none⟩ (.int .i64 4)).setCell ⟨w.heap.size, 1, none⟩ (.slice (some ⟨g, 0, none⟩) 16 16))) := by
              refine ⟨?_, ?_⟩
              · exact ((((HUF.out.own HM.out).base HGW.out).setFar _ 0 _ (Ne.symm nw)).setFar _ 1 _ (Ne.symm nw))
              · have h : Ext w wr := HUF.out.below HX.out HX.out.size fun b o e _ => by cases e; exact HGW.out
                exact (h.setNew _ _ (Nat.le_refl _) _).setNew _ _ (Nat.le_refl _) _
            clear e0 e1 r0 r1 r2 r3
            go_wp2
            refine bodyPost_ret (v := carV 4 (some ⟨g, 0, none⟩) 16 16) (by simp [results, Tryz.results95, go_sem, o0, o1]) rfl ⟨some ⟨g, 0, none⟩, rfl, ?_, ?_⟩
            · exact HEnd.out.1
            · exact HEnd.out.2
      · obtain rfl : i = 4 := HK.out.symm
        obtain rfl : L = 70 := HL.out
        obtain rfl : d4 = false := HK4.out
        obtain ⟨c0, c1⟩ := HC.out
        have f1 := HU.out.far c1 n4
        obtain ⟨y0, y1⟩ := HU.out.place HM.out (show 9 < 16 by omega)
        have hu1 := HU.out.put (show 9 < 16 by omega) (-2)
        have HUF : Hid (UpdI w1 (wr.setCell ⟨g, 9, none⟩ (.int .i64 (-2))) (some ⟨g, 0, none⟩) 16 (pMat 10)) := by
          have h : (chainO 4 false 4).set 9 (-2) = pMat 10 := by decide
          rw [← h]
          exact hu1
        clear c0 c1 hu1
        obtain ⟨e0, e1⟩ := HC.out
        have t0 := HUF.out.far e0 n4
        have t1 := HUF.out.far e1 n4
        obtain ⟨r0, r1, r2, r3⟩ := HR.out
        have o0 := HUF.out.far r0 nw
        have o1 := HUF.out.far r1 nw
        have o2 := (HUF.out.farF hlw nw).trans r2
        have o3 := (HUF.out.farF hlw nw).trans r3
        have o4 : w.heap.size < (wr.setCell ⟨g, 9, none⟩ (.int .i64 (-2))).heap.size := Nat.lt_of_lt_of_le hlw HUF.out.size
        have HEnd : Hid (OwnI (((wr.setCell ⟨g, 9, none⟩ (.int .i64 (-2))).setCell ⟨w.heap.size, 0, none⟩ (.int .i64 4)).setCell ⟨w.heap.size, 1, none⟩ (.slice (some ⟨g, 0, none⟩) 16 16)) w.heap.size (some ⟨g, 0, none⟩) 16 16 (pMat 10) ∧ Ext w (((wr.setCell ⟨g, 9, none⟩ (.int .i64 (-2))).setCell ⟨w.heap.size, 0, none⟩ (.int .i64 4)).setCell ⟨w.heap.size, 1, none⟩ (.slice (some ⟨g, 0, none⟩) 16 16))) := by
          refine ⟨?_, ?_⟩
          · exact ((((HUF.out.own HM.out).base HGW.out).setFar _ 0 _ (Ne.symm nw)).setFar _ 1 _ (Ne.symm nw))
          · have h : Ext w (wr.setCell ⟨g, 9, none⟩ (.int .i64 (-2))) := HUF.out.below HX.out HX.out.size fun b o e _ => by cases e; exact HGW.out
            exact (h.setNew _ _ (Nat.le_refl _) _).setNew _ _ (Nat.le_refl _) _
        clear e0 e1 r0 r1 r2 r3
        go_wp2
        refine bodyPost_ret (v := carV 4 (some ⟨g, 0, none⟩) 16 16) (by simp [results, Tryz.results95, go_sem, o0, o1]) rfl ⟨some ⟨g, 0, none⟩, rfl, ?_, ?_⟩
        · exact HEnd.out.1
        · exact HEnd.out.2
      · obtain rfl : i = 2 := HK.out.symm
        obtain rfl : L = 71 := HL.out
        obtain rfl : d4 = false := HK4.out
        obtain ⟨c0, c1⟩ := HC.out
        have f1 := HU.out.far c1 n4
        obtain ⟨y0, y1⟩ := HU.out.place HM.out (show 1 < 4 by omega)
        have hu1 := HU.out.put (show 1 < 4 by omega) (-3)
        have HUF : Hid (UpdI w1 (wr.setCell ⟨g, 1, none⟩ (.int .i64 (-3))) (some ⟨g, 0, none⟩) 4 (pMat 11)) := by
          have h : (chainO 2 false 2).set 1 (-3) = pMat 11 := by decide
          rw [← h]
          exact hu1
        clear c0 c1 hu1
        obtain ⟨e0, e1⟩ := HC.out
        have t0 := HUF.out.far e0 n4
        have t1 := HUF.out.far e1 n4
        obtain ⟨r0, r1, r2, r3⟩ := HR.out
        have o0 := HUF.out.far r0 nw
        have o1 := HUF.out.far r1 nw
        have o2 := (HUF.out.farF hlw nw).trans r2
        have o3 := (HUF.out.farF hlw nw).trans r3
        have o4 : w.heap.size < (wr.setCell ⟨g, 1, none⟩ (.int .i64 (-3))).heap.size := Nat.lt_of_lt_of_le hlw HUF.out.size
        have HEnd : Hid (OwnI (((wr.setCell ⟨g, 1, none⟩ (.int .i64 (-3))).setCell ⟨w.heap.size, 0, none⟩ (.int .i64 2)).setCell ⟨w.heap.size, 1, none⟩ (.slice (some ⟨g, 0, none⟩) 4 4)) w.heap.size (some ⟨g, 0, none⟩) 4 4 (pMat 11) ∧ Ext w (((wr.setCell ⟨g, 1, none⟩ (.int .i64 (-3))).setCell ⟨w.heap.size, 0, none⟩ (.int .i64 2)).setCell ⟨w.heap.size, 1, none⟩ (.slice (some ⟨g, 0, none⟩) 4 4))) := by
          refine ⟨?_, ?_⟩
          · exact ((((HUF.out.own HM.out).base HGW.out).setFar _ 0 _ (Ne.symm nw)).setFar _ 1 _ (Ne.symm nw))
          · have h : Ext w (wr.setCell ⟨g, 1, none⟩ (.int .i64 (-3))) := HUF.out.below HX.out HX.out.size fun b o e _ => by cases e; exact HGW.out
            exact (h.setNew _ _ (Nat.le_refl _) _).setNew _ _ (Nat.le_refl _) _
        clear e0 e1 r0 r1 r2 r3
        go_wp2
        refine bodyPost_ret (v := carV 2 (some ⟨g, 0, none⟩) 4 4) (by simp [results, Tryz.results95, go_sem, o0, o1]) rfl ⟨some ⟨g, 0, none⟩, rfl, ?_, ?_⟩
        · exact HEnd.out.1
        · exact HEnd.out.2
end Go.Proofs.YtdhlapppahkjeaaGreatDoor

namespace Go.Proofs.YtdhlapppahkjeaaGreatDoor
open Go.RowKit

section
variable {P : Program} {ops : Array Oper} {Q : Exit → Act → World → Prop} {C : World → Prop} {n : Nat}

theorem walkR_three {i k j di dk dj : Nat} {oi ok oj : Oper} (P1 : Value → World → Prop) (P12 : Value → Value → World → Prop) (PJ : Value → World → Prop) (P1J : Value → Value → World → Prop) (R : Value → Value → Value → World → Prop)
    {rem : List (Nat × Oper)} {f : Nat} {listed : Array Bool} {a : Act} {w : World} (hi : ops[i]? = some oi) (hk : ops[k]? = some ok) (hj : ops[j]? = some oj)
    (hb : (decide (Region.ready .any ops listed = [i, j]) && decide (i < n) && decide (k < n) && decide (j < n) && decide (Region.ready .any ops (listed.setIfInBounds i true) = [k, j]) && decide (Region.ready .any ops ((listed.setIfInBounds i true).setIfInBounds k true) = [j])
      && decide (Region.ready .any ops ((listed.setIfInBounds i true).setIfInBounds j true) = [k]) && decide (Region.ready .any ops (listed.setIfInBounds j true) = [i]) && decide (Region.ready .any ops ((listed.setIfInBounds j true).setIfInBounds i true) = [k]) && decide (i ≠ j) && decide (k ≠ j)) = true)
    (_hdi : oi.dst = some di) (_hdk : ok.dst = some dk) (_hdj : oj.dst = some dj) (hd1 : di ≠ dj) (hd2 : dk ≠ dj)
    (hwi : ∀ a : Act, Region.wanted oi (yielded ops a.tmps) = true) (hwk : ∀ a : Act, Region.wanted ok (yielded ops a.tmps) = true) (hwj : ∀ a : Act, Region.wanted oj (yielded ops a.tmps) = true)
    (h1 : ∀ K : Act → World → Prop, (∀ v w', C w' → P1 v w' → K (a.put (some di) v) w') → oi.wp P a w K Q)
    (h12 : ∀ v w', C w' → P1 v w' → ∀ K : Act → World → Prop, (∀ u w'', C w'' → P12 v u w'' → K ((a.put (some di) v).put (some dk) u) w'') → ok.wp P (a.put (some di) v) w' K Q)
    (h12J : ∀ v u w', C w' → P12 v u w' → ∀ K : Act → World → Prop, (∀ z w'', C w'' → R v u z w'' → K (((a.put (some di) v).put (some dk) u).put (some dj) z) w'') → oj.wp P ((a.put (some di) v).put (some dk) u) w' K Q)
    (h1J : ∀ v w', C w' → P1 v w' → ∀ K : Act → World → Prop, (∀ z w'', C w'' → P1J v z w'' → K ((a.put (some di) v).put (some dj) z) w'') → oj.wp P (a.put (some di) v) w' K Q)
    (h1J2 : ∀ v z w', C w' → P1J v z w' → ∀ K : Act → World → Prop, (∀ u w'', C w'' → R v u z w'' → K (((a.put (some di) v).put (some dj) z).put (some dk) u) w'') → ok.wp P ((a.put (some di) v).put (some dj) z) w' K Q)
    (hJ : ∀ K : Act → World → Prop, (∀ z w', C w' → PJ z w' → K (a.put (some dj) z) w') → oj.wp P a w K Q)
    (hJ1 : ∀ z w', C w' → PJ z w' → ∀ K : Act → World → Prop, (∀ v w'', C w'' → P1J v z w'' → K ((a.put (some dj) z).put (some di) v) w'') → oi.wp P (a.put (some dj) z) w' K Q)
    (h : ∀ v u z w'', C w'' → R v u z w'' → WalkR P ops Q n C rem f (((listed.setIfInBounds i true).setIfInBounds k true).setIfInBounds j true) (((a.put (some di) v).put (some dk) u).put (some dj) z) w'') : WalkR P ops Q n C ((i, oi) :: (k, ok) :: (j, oj) :: rem) (f + 3) listed a w := by
  simp only [Bool.and_eq_true, decide_eq_true_eq] at hb
  obtain ⟨⟨⟨⟨⟨⟨⟨⟨⟨⟨hr, hin⟩, hkn⟩, hjn⟩, hr1⟩, hr12⟩, hr1J⟩, hrJ⟩, hrJ1⟩, hij⟩, hkj⟩ := hb
  -- i and j have come up
  have mid : ∀ v z w', C w' → P1J v z w' → WalkC P ops Q n C (f + 1) ((listed.setIfInBounds i true).setIfInBounds j true) ((a.put (some di) v).put (some dj) z) w' := by
    intro v z w' hc hp
    refine walkC_only C hk (by simp [hr1J, hkn]) (hwk _) (fun _ h => h) fun K hK => ?_
    refine h1J2 v z w' hc hp K fun u w'' hc' hR => hK _ _ hc' ?_
    have := h v u z w'' hc' hR
    rw [Act.put_comm _ hd2, Array.setIfInBounds_comm _ _ (Ne.symm hkj)]
    exact this
  refine walkC_split (f := f + 2) hi hj (by simp [hr, hin, hjn]) (hwi _) (hwj _) ?_ ?_
  · intro K hK
    refine h1 K fun v w' hc hp => hK _ _ hc ?_
    refine walkC_split (f := f + 1) hk hj (by simp [hr1, hkn, hjn]) (hwk _) (hwj _) ?_ ?_
    · intro K' hK'
      refine h12 v w' hc hp K' fun u w'' hc' hp' => hK' _ _ hc' ?_
      refine walkC_only C hj (by simp [hr12, hjn]) (hwj _) (fun _ h => h) fun K2 hK2 => ?_
      exact h12J v u w'' hc' hp' K2 fun z w3 hc3 hR => hK2 _ _ hc3 (h v u z w3 hc3 hR)
    · intro K' hK'
      exact h1J v w' hc hp K' fun z w'' hc' hp' => hK' _ _ hc' (mid v z w'' hc' hp')
  · intro K hK
    refine hJ K fun z w' hc hp => hK _ _ hc ?_
    refine walkC_only C hi (by simp [hrJ, hin]) (hwi _) (fun _ h => h) fun K' hK' => ?_
    refine hJ1 z w' hc hp K' fun v w'' hc' hp' => hK' _ _ hc' ?_
    have := mid v z w'' hc' hp'
    rw [Act.put_comm _ hd1, Array.setIfInBounds_comm _ _ (Ne.symm hij)]
    exact this
end

/-- the slice value at address a (n elements) reads as strings -/
structure StrsR (w : World) (a : Option Addr) (n : Nat) (ss : List ByteArray) : Prop where
  len : ss.length = n
  get : ∀ i, i < n → ∃ b o, a = some ⟨b, o, none⟩ ∧ w.cell? ⟨b, o + i, none⟩ = some (.string (ss.getD i ByteArray.empty))
theorem StrsR.below {w w' : World} {a : Option Addr} {n : Nat} {ss : List ByteArray} (h : StrsR w a n ss) (hb : Ext w w') : StrsR w' a n ss := by
  refine ⟨h.len, fun i hi => ?_⟩
  obtain ⟨b, o, rfl, hc⟩ := h.get i hi
  exact ⟨b, o, rfl, (hb.cell (p := ⟨b, o + i, none⟩) (World.block_lt_of_cell? w _ hc)).trans hc⟩
theorem OwnS.strsR {w : World} {B : Nat} {a : Option Addr} {n c : Nat} {xs : List ByteArray} (h : OwnS w B a n c xs) : StrsR w a n xs := by
  refine ⟨h.len, fun i hi => ?_⟩
  obtain ⟨g, rfl, _, _, _, _, hc⟩ := h.form
  have hl := h.len
  refine ⟨g, 0, rfl, hc i _ ?_⟩
  rw [List.getD_eq_getElem?_getD, List.getElem?_eq_getElem (by omega)]
  rfl
theorem StrsR.part {w : World} {b o n : Nat} {ss : List ByteArray} (h : StrsR w (some ⟨b, o, none⟩) n ss) (i m : Nat) (hm : i + m ≤ n) : StrsR w (some ⟨b, o + i, none⟩) m ((ss.drop i).take m) := by
  have hl := h.len
  refine ⟨by simp; omega, fun j hj => ?_⟩
  obtain ⟨b', o', e, hc⟩ := h.get (i + j) (by omega)
  simp only [Option.some.injEq, Addr.mk.injEq, and_true] at e
  obtain ⟨rfl, rfl⟩ := e
  refine ⟨_, _, rfl, ?_⟩
  rw [Nat.add_assoc, hc]
  simp [List.getD_eq_getElem?_getD, hj, List.getElem?_drop]
theorem OwnS.base {w : World} {B B' : Nat} {a : Option Addr} {n c : Nat} {xs : List ByteArray} (h : OwnS w B a n c xs) (hB : B' ≤ B) : OwnS w B' a n c xs := by
  refine ⟨⟨h.row.1, ?_⟩, h.nn⟩
  rcases h.row.2 with h2 | ⟨g, cap, cur, he, hB', r⟩
  · exact .inl h2
  · exact .inr ⟨g, cap, cur, he, Nat.le_trans hB hB', r⟩
theorem OwnS.blk {w : World} {B : Nat} {a : Option Addr} {n c : Nat} {xs : List ByteArray} (h : OwnS w B a n c xs) : ∃ g cur, a = some ⟨g, 0, none⟩ ∧ w.heap[g]? = some (.cells cur 9) := by
  rcases h.row.2 with ⟨he, _⟩ | ⟨g, cap, cur, he, hB, hg, _⟩
  · simp only [Value.slice.injEq] at he
    exact absurd he.1 h.nn
  · simp only [Value.slice.injEq] at he
    exact ⟨g, cur, he.1, hg⟩
/-- a slice of strings and one of integers lie in different blocks -/
theorem OwnS.ne_ints {w : World} {B B' : Nat} {a a' : Option Addr} {n c n' c' : Nat} {xs : List ByteArray} {ys : List Int} (h : OwnS w B a n c xs) (k : OwnI w B' a' n' c' ys) (g o : Nat) (e : a = some ⟨g, o, none⟩) : some g ≠ (Value.slice a' n' c').ownBlock := by
  intro hk
  cases a' with
  | none => simp [Value.ownBlock] at hk
  | some p =>
    simp only [Value.ownBlock, Option.some.injEq] at hk
    obtain ⟨g1, cur1, e1, h1⟩ := h.blk
    rw [e] at e1
    simp only [Option.some.injEq, Addr.mk.injEq, and_true] at e1
    obtain ⟨rfl, rfl⟩ := e1
    rcases k.row.2 with ⟨he, _⟩ | ⟨g', cap, cur, he, hB, hg, _⟩
    · simp at he
    · simp only [Value.slice.injEq, Option.some.injEq] at he
      obtain ⟨rfl, _⟩ := he
      simp only at hk
      subst hk
      rw [h1] at hg
      simp at hg
/-- a block behind the ones of w is not an owned slice's block -/
theorem OwnI.ne_new {w : World} {B : Nat} {a : Option Addr} {n c : Nat} {xs : List Int} (h : OwnI w B a n c xs) {g : Nat} (hg : w.heap.size ≤ g) : some g ≠ (Value.slice a n c).ownBlock := by
  intro hk
  rcases h.row.2 with ⟨he, _⟩ | ⟨g', cap, cur, he, hB, hg', _⟩
  · simp only [Value.slice.injEq] at he
    rw [he.1] at hk
    simp [Value.ownBlock] at hk
  · simp only [Value.slice.injEq] at he
    rw [he.1] at hk
    simp only [Value.ownBlock, Option.some.injEq] at hk
    have := (Array.getElem?_eq_some_iff.1 hg').1
    omega
theorem StrsR.one {w : World} {g : Nat} {y : ByteArray} (h : w.cell? ⟨g, 0, none⟩ = some (.string y)) : StrsR w (some ⟨g, 0, none⟩) 1 [y] := ⟨rfl, fun i hi => by
  obtain rfl : i = 0 := by omega
  exact ⟨g, 0, rfl, by simpa using h⟩⟩
/-- append of several strings -/
theorem wp_append_strs {o : Oper} {a : Act} {K : Act → World → Prop} {Q : Exit → Act → World → Prop} {w : World} (s x : Operand)
    (ho : o.op = .call { callee := .builtin .append, args := #[s, x], argTypes := #[83, 83] })
    (B : Nat) (av : Option Addr) (nv cv : Nat) (xs : List ByteArray) (hs : a.eval s = .slice av nv cv) (hown : OwnS w B av nv cv xs)
    (ad : Addr) (m c : Nat) (ys : List ByteArray) (hx : a.eval x = .slice (some ad) m c) (hy : StrsR w (some ad) m ys) (hsm : nv + m ≤ 1000000000) (hB : B ≤ w.heap.size)
    (h : ∀ a' c' w', OwnS w' B a' (nv + m) c' (xs ++ ys) → w.grownBy w' (Value.slice av nv cv).ownBlock → K (a.put o.dst (.slice a' (nv + m) c')) w') : o.wp Tryz.prog a w K Q := by
  obtain ⟨i, hi, hz0, hz1, hz2⟩ := info_parts Tryz.info9
  have hl := hy.len
  refine wp_append_own w s x 83 ho B 9 i (.string ⟨#[]⟩) 1 16 Tryz.underlying83 hi hz0 hz1 hz2 rfl (by decide) _ nv (svs xs) hs hown.row ad m c (svs ys) hx (by simp [svs, hl]) ?_ (svs_one ys) (by unfold maxLen; omega) (by omega) hB ?_
  · intro j u hu
    simp only [svs, List.getElem?_map, Option.map_eq_some_iff] at hu
    obtain ⟨y, hy', rfl⟩ := hu
    have hj : j < ys.length := (List.getElem?_eq_some_iff.1 hy').1
    obtain ⟨b, o', e, hc⟩ := hy.get j (by omega)
    simp only [Option.some.injEq] at e
    subst e
    rw [add_none, hc, List.getD_eq_getElem?_getD, hy']
    rfl
  · intro v' w' hr hg hnil
    rw [show svs xs ++ svs ys = svs (xs ++ ys) by simp [svs]] at hr
    rcases hr.2 with ⟨e, _⟩ | ⟨g', cap, cur, he, _⟩
    · have := (hnil.1 e).1
      simp only [Value.slice.injEq] at this
      exact absurd this.1 hown.nn
    · subst he
      exact h _ _ w' ⟨hr, by simp⟩ hg
theorem wpList_append_strs {ops : Array Oper} {rest : List Oper} {o : Oper} {a : Act} {Q : Exit → Act → World → Prop} {w : World} (hgd : o.guard = none) (s x : Operand)
    (ho : o.op = .call { callee := .builtin .append, args := #[s, x], argTypes := #[83, 83] })
    (B : Nat) (av : Option Addr) (nv cv : Nat) (xs : List ByteArray) (hs : a.eval s = .slice av nv cv) (hown : OwnS w B av nv cv xs)
    (ad : Addr) (m c : Nat) (ys : List ByteArray) (hx : a.eval x = .slice (some ad) m c) (hy : StrsR w (some ad) m ys) (hsm : nv + m ≤ 1000000000) (hB : B ≤ w.heap.size)
    (h : ∀ a' c' w', OwnS w' B a' (nv + m) c' (xs ++ ys) → w.grownBy w' (Value.slice av nv cv).ownBlock → wpList Tryz.prog ops Q rest (a.put o.dst (.slice a' (nv + m) c')) w') : wpList Tryz.prog ops Q (o :: rest) a w :=
  wpList_plain hgd fun _ hK => wp_append_strs s x ho B av nv cv xs hs hown ad m c ys hx hy hsm hB fun a' c' w' h2 h3 => hK _ _ (h a' c' w' h2 h3)
end Go.Proofs.YtdhlapppahkjeaaGreatDoor

namespace Go.Proofs.YtdhlapppahkjeaaGreatDoor
open Go.RowKit

def entryF (xs : List Int) (r m : Nat) : Bool := decide (-3 ≤ xs.getD m 0 ∧ xs.getD m 0 ≤ 2) && (decide (xs.getD m 0 = 0) || decide (atM xs r (m % r) (m / r) ≠ 0))
theorem entryB_eq (xs : List Int) (r : Nat) : entryB xs r = (List.range xs.length).all (entryF xs r) := rfl
theorem partsGo_done (bits : List Bool) (r f i : Nat) (done : List Nat) (hi : i < r) (h : i ∈ done) : partsGo bits r (f + 1) i done = partsGo bits r f (i + 1) done := by
  rw [partsGo, if_pos hi, if_pos (by simpa using h)]
theorem partsGo_new (bits : List Bool) (r f i : Nat) (done : List Nat) (hi : i < r) (h : i ∉ done) : partsGo bits r (f + 1) i done = partL bits r i :: partsGo bits r f (i + 1) (done ++ partL bits r i) := by
  rw [partsGo, if_pos hi, if_neg (by simpa using h)]
theorem partsGo_end (bits : List Bool) (r f i : Nat) (done : List Nat) (hi : ¬ i < r) : partsGo bits r f i done = [] := by
  cases f with
  | zero => rfl
  | succ f => rw [partsGo, if_neg hi]
def fitK (xs : List Int) (r : Nat) (rows : List Nat) (k : Nat) : Bool := decide (pRank k = rows.length) && fitsB xs r rows k
theorem fitAny_eq (xs : List Int) (r : Nat) (rows : List Nat) : fitAny xs r rows = (List.range 12).any (fitK xs r rows) := rfl
theorem name1_ne : ∀ k, k < 12 → (nameS.getD k ByteArray.empty).toList.isEmpty = false := by decide +kernel
theorem NameIf.cast {b b' : Bool} {s : ByteArray} (h : NameIf b s) (e : b = b') : NameIf b' s := e ▸ h

theorem u8wrap (x : Int) : IntKind.u8.wrap x = x % 256 := by simp [IntKind.wrap, IntKind.signed, IntKind.bits]
set_option maxRecDepth 100000 in
set_option maxHeartbeats 8000000 in
theorem l5Parts_any (r : Int) (a : Option Addr) (n c : Nat) (xs : List Int) (w : World) (h : IntsAt w a n xs) (hn : n ≤ 9223372036854775807) :
    Calls Tryz.prog 73 #[carV r a n c] w fun e w' => ∃ v, e = .returned (.tuple #[v, .bool (partsB r xs)]) ∧ Ext w w' := by
  have L := hidP h.len
  have hx0 := Ext.alloc w (.cells #[.int .i64 r, .slice a n c] 29)
  obtain ⟨f0, f1⟩ := CarAt.new w _ rfl r a n c 29
  have HI := hidP (fun w' => l1In_any r 1 4 w')
  cases hi : insB r 1 4
  · have HT : Hid (partsB r xs = false) := by
      show _ = _
      unfold partsB
      have : decide (1 ≤ r ∧ r ≤ 4) = false := hi
      rw [this]
      rfl
    rw [hi] at HI
    have HX0 := hidP hx0
    clear h hi hx0
    go_enter Tryz.func73, Tryz.ntmps73
    go_wp2_with fail
    refine (HI.out _).mono ?_
    rintro e w' ⟨rfl, rfl⟩
    go_wp2
    exact bodyPost_ret (v := .tuple #[.slice none 0 0, .bool false]) (by simp [results, Tryz.results73, go_sem]) rfl ⟨_, by rw [HT.out], HX0.out⟩
  · obtain ⟨h1, h4⟩ := insB_true.1 hi
    rw [hi] at HI
    have hdi : decide (1 ≤ r ∧ r ≤ 4) = true := hi
    have hr0 : 0 ≤ r * r := Int.mul_nonneg (by omega) (by omega)
    have hr16 : r * r ≤ 16 := by
      have := Int.mul_le_mul h4 h4 (by omega) (by omega : (0 : Int) ≤ 4)
      omega
    by_cases hl : (n : Int) = r * r
    · obtain ⟨R, rfl⟩ : ∃ R : Nat, r = R := ⟨r.toNat, by omega⟩
      have hR1 : 1 ≤ R := by omega
      have hR4 : R ≤ 4 := by omega
      have hnr : n = R * R := by rw [← Int.natCast_mul] at hl; omega
      subst hnr
      have HT : Hid (partsB (R : Int) xs = (entryB xs R && (partsGo (bitsOf xs) R 5 0 []).all fun rows => fitAny xs R rows)) := by
        show _ = _
        unfold partsB
        rw [hdi, Int.toNat_natCast, decide_eq_true (by rw [L.out]; exact hl), Bool.true_and, Bool.true_and]
      have hlb : ((((R * R : Nat) : Int)) != (R : Int) * R) = false := by
        rw [Int.natCast_mul]; simp
      have H := hidP (h.below hx0)
      have HX0 := hidP hx0
      have hRR : R * R ≤ 16 := by have := Nat.mul_le_mul hR4 hR4; omega
      clear h hi hx0 hl hdi
      go_enter Tryz.func73, Tryz.ntmps73
      go_wp2_with fail
      refine (HI.out _).mono ?_
      rintro e w' ⟨rfl, rfl⟩
      obtain ⟨w0, hw0⟩ : ∃ w0, w0 = w.alloc (.cells #[.int .i64 R, .slice a (R * R) c] 29) := ⟨_, rfl⟩
      rw [← hw0] at f0 f1 H HX0 ⊢
      obtain ⟨b1, hb1⟩ : ∃ b, b = w.heap.size := ⟨_, rfl⟩
      rw [← hb1] at f0 f1 ⊢
      have HC : Hid (CarAt w0 b1 R a (R * R) c) := ⟨f0, f1⟩
      clear hw0 hb1
      go_wp2
      clear f0 f1
      go_loopw [4] (fun t wr => ∃ i : Nat, i ≤ R * R ∧ t = .int .i64 i ∧ Hid (∀ m, m < i → entryF xs R m = true) ∧ Hid (Ext w0 wr)) (fun t _ => R * R - (intOf t).toNat)
      case atStart => exact ⟨0, Nat.zero_le _, rfl, fun q hq => by omega, Ext.refl _⟩
      case round =>
        obtain ⟨i, hi, rfl, HJ, HX⟩ := hrel
        by_cases hlt : i < R * R
        · obtain ⟨f0, f1⟩ := HC.out.below HX.out
          obtain ⟨b, o, rfl, q⟩ := (H.out.below HX.out).get i hlt
          have hiR : i / R < R := Nat.div_lt_of_lt_mul hlt
          have hmR : i % R < R := Nat.mod_lt _ (by omega)
          have hj2 : i % R * R + i / R < R * R := by
            have := Nat.mul_le_mul_right R (show i % R + 1 ≤ R by omega)
            rw [Nat.add_mul, Nat.one_mul] at this
            omega
          have q2 := (H.out.below HX.out).atc (i % R * R + i / R) hj2
          have HE : Hid (entryF xs R i = (decide (-3 ≤ xs.getD i 0 ∧ xs.getD i 0 ≤ 2) && (decide (xs.getD i 0 = 0) || decide (atM xs R (i % R) (i / R) ≠ 0)))) := rfl
          have HLI := hidP (fun w' => l1In_any (xs.getD i 0) (-3) 2 w')
          have hy : xs.getD (i % R * R + i / R) 0 = atM xs R (i % R) (i / R) := rfl
          rw [hy] at q2
          have HW := hidP (fun w' (hx : Ext wr w') => (⟨(HC.out.below (HX.out.trans hx)).c0, (HC.out.below (HX.out.trans hx)).c1, (hx.cell (p := ⟨b, o + i, none⟩) (World.block_lt_of_cell? wr _ q)).trans q, (hx.cell (p := ⟨b, o + (i % R * R + i / R), none⟩) (World.block_lt_of_cell? wr _ q2)).trans q2⟩ : _ ∧ _ ∧ _ ∧ _))
          generalize xs.getD i 0 = x at *
          generalize atM xs R (i % R) (i / R) = y at *
          have hE : Ext wr wr.drew := Ext.drew wr
          clear q q2 hy
          have hRz : ¬ (R = 0) := by omega
          have HMD : Hid ((i : Int).tmod R = ((i % R : Nat) : Int) ∧ (i : Int).tdiv R = ((i / R : Nat) : Int)) := by
            refine ⟨?_, ?_⟩
            · rw [Int.tmod_eq_emod_of_nonneg (by omega)]; rfl
            · rw [Int.tdiv_eq_ediv_of_nonneg (by omega)]; rfl
          have HPF := hidP (placeF (i := i % R) (j := i / R) hR4 hmR hiR)
          have HWG : Hid (IntKind.i64.wrap ((i / R : Nat) : Int) = ((i / R : Nat) : Int)) := wrap_in (Int.le_trans (by omega) (Int.natCast_nonneg _)) (by have : ((i / R : Nat) : Int) < (R : Int) := Int.ofNat_lt.2 hiR; omega)
          generalize i % R = p at *
          generalize i / R = g at *
          cases hin : insB x (-3) 2
          · rw [hin] at HLI
            have hin2 : decide (-3 ≤ x ∧ x ≤ 2) = false := hin
            have HEF : Hid (entryB xs R = false) := by
              show _ = _
              rw [entryB_eq, List.all_eq_false]
              refine ⟨i, List.mem_range.2 (by rw [L.out]; exact hlt), ?_⟩
              rw [HE.out]
              rw [hin2]; simp
            clear hin hin2 HE
            go_wp2
            clear f0 f1
            (refine walkR_start (fun w' => Ext wr w') 34 (by kernel_rfl) ?_; simp only [numbered, List.take_succ_cons, List.take_zero, Nat.zero_add, Nat.reduceAdd, List.length_cons, List.length_nil])
            (repeat (first | (refine walkR_still (v := ?_) rfl (by decide +kernel) rfl (fun _ _ _ h => h) hE ?_ ?_; rotate_left; (focus (intro w' hw'; obtain ⟨f0, f1, q1, q2⟩ := HW.out w' hw'; obtain ⟨m1, m2⟩ := HMD.out; obtain ⟨z1, z2, z3, z4, z5⟩ := HPF.out; have z6 := HWG.out; go_simp; all_goals (with_reducible rfl))); simp only [Act.put, List.setIfInBounds_toArray, List.set_cons_zero, List.set_cons_succ]) | (refine walkR_skip rfl (by decide +kernel) rfl (fun _ _ _ h => h) hE ?_; simp only [Act.put, List.setIfInBounds_toArray, List.set_cons_zero, List.set_cons_succ])))
            (refine walkR_only (fun w' => Ext wr w') rfl (by decide +kernel) rfl (fun _ h => h) ?_; intro K hK; go_simp; refine (HLI.out _).mono ?_; rintro e w2 ⟨rfl, rfl⟩; refine hK _ _ (hE) ?_; clear hK K; (try simp only [Act.put, List.setIfInBounds_toArray, List.set_cons_zero, List.set_cons_succ]))
            (repeat (first | (refine walkR_still (v := ?_) rfl (by decide +kernel) rfl (fun _ _ _ h => h) hE ?_ ?_; rotate_left; (focus (intro w' hw'; obtain ⟨f0, f1, q1, q2⟩ := HW.out w' hw'; obtain ⟨m1, m2⟩ := HMD.out; obtain ⟨z1, z2, z3, z4, z5⟩ := HPF.out; have z6 := HWG.out; go_simp; all_goals (with_reducible rfl))); simp only [Act.put, List.setIfInBounds_toArray, List.set_cons_zero, List.set_cons_succ]) | (refine walkR_skip rfl (by decide +kernel) rfl (fun _ _ _ h => h) hE ?_; simp only [Act.put, List.setIfInBounds_toArray, List.set_cons_zero, List.set_cons_succ])))
            (refine walkR_tail (by rfl) (by kernel_rfl) ?_; simp only [List.drop_succ_cons, List.drop_zero])
            go_wp2
            exact bodyPost_ret (v := .tuple #[.slice none 0 0, .bool false]) (by simp [results, Tryz.results73, go_sem]) rfl ⟨_, by rw [HT.out, HEF.out, Bool.false_and], HX0.out.trans (HX.out.trans hE)⟩
          · rw [hin] at HLI
            have hin2 : decide (-3 ≤ x ∧ x ≤ 2) = true := hin
            by_cases hx0 : x = 0
            · have hx0' : (x != 0) = false := by simpa using hx0
              have HET : Hid (entryF xs R i = true) := by
                show _ = _
                rw [HE.out, hin2]
                simp [hx0]
              clear hx0 hin hin2 HE
              go_wp2
              clear f0 f1
              (refine walkR_start (fun w' => Ext wr w') 34 (by kernel_rfl) ?_; simp only [numbered, List.take_succ_cons, List.take_zero, Nat.zero_add, Nat.reduceAdd, List.length_cons, List.length_nil])
              (repeat (first | (refine walkR_still (v := ?_) rfl (by decide +kernel) rfl (fun _ _ _ h => h) hE ?_ ?_; rotate_left; (focus (intro w' hw'; obtain ⟨f0, f1, q1, q2⟩ := HW.out w' hw'; obtain ⟨m1, m2⟩ := HMD.out; obtain ⟨z1, z2, z3, z4, z5⟩ := HPF.out; have z6 := HWG.out; go_simp; all_goals (with_reducible rfl))); simp only [Act.put, List.setIfInBounds_toArray, List.set_cons_zero, List.set_cons_succ]) | (refine walkR_skip rfl (by decide +kernel) rfl (fun _ _ _ h => h) hE ?_; simp only [Act.put, List.setIfInBounds_toArray, List.set_cons_zero, List.set_cons_succ])))
              (refine walkR_only (fun w' => Ext wr w') rfl (by decide +kernel) rfl (fun _ h => h) ?_; intro K hK; go_simp; refine (HLI.out _).mono ?_; rintro e w2 ⟨rfl, rfl⟩; refine hK _ _ (hE) ?_; clear hK K; (try simp only [Act.put, List.setIfInBounds_toArray, List.set_cons_zero, List.set_cons_succ]))
              (repeat (first | (refine walkR_still (v := ?_) rfl (by decide +kernel) rfl (fun _ _ _ h => h) hE ?_ ?_; rotate_left; (focus (intro w' hw'; obtain ⟨f0, f1, q1, q2⟩ := HW.out w' hw'; obtain ⟨m1, m2⟩ := HMD.out; obtain ⟨z1, z2, z3, z4, z5⟩ := HPF.out; have z6 := HWG.out; go_simp; all_goals (with_reducible rfl))); simp only [Act.put, List.setIfInBounds_toArray, List.set_cons_zero, List.set_cons_succ]) | (refine walkR_skip rfl (by decide +kernel) rfl (fun _ _ _ h => h) hE ?_; simp only [Act.put, List.setIfInBounds_toArray, List.set_cons_zero, List.set_cons_succ])))
              (refine walkR_tail (by rfl) (by kernel_rfl) ?_; simp only [List.drop_succ_cons, List.drop_zero])
              go_wp2
              go_roundw
              case rel =>
                refine ⟨i + 1, by omega, by go_num, fun q hq => ?_, HX.out.trans hE⟩
                rcases Nat.lt_succ_iff_lt_or_eq.1 hq with h3 | rfl
                · exact HJ.out q h3
                · exact HET.out
              case measure => simp [intOf]; omega
            · have hx0' : (x != 0) = true := by simpa using hx0
              by_cases hy0 : y = 0
              · have hy0' : (y == 0) = true := by simpa using hy0
                have HEF : Hid (entryB xs R = false) := by
                  show _ = _
                  rw [entryB_eq, List.all_eq_false]
                  refine ⟨i, List.mem_range.2 (by rw [L.out]; exact hlt), ?_⟩
                  rw [HE.out]
                  rw [hin2]; simp [hx0, hy0]
                clear hx0 hy0 hin hin2 HE
                go_wp2
                clear f0 f1
                (refine walkR_start (fun w' => Ext wr w') 34 (by kernel_rfl) ?_; simp only [numbered, List.take_succ_cons, List.take_zero, Nat.zero_add, Nat.reduceAdd, List.length_cons, List.length_nil])
                (repeat (first | (refine walkR_still (v := ?_) rfl (by decide +kernel) rfl (fun _ _ _ h => h) hE ?_ ?_; rotate_left; (focus (intro w' hw'; obtain ⟨f0, f1, q1, q2⟩ := HW.out w' hw'; obtain ⟨m1, m2⟩ := HMD.out; obtain ⟨z1, z2, z3, z4, z5⟩ := HPF.out; have z6 := HWG.out; go_simp; all_goals (with_reducible rfl))); simp only [Act.put, List.setIfInBounds_toArray, List.set_cons_zero, List.set_cons_succ]) | (refine walkR_skip rfl (by decide +kernel) rfl (fun _ _ _ h => h) hE ?_; simp only [Act.put, List.setIfInBounds_toArray, List.set_cons_zero, List.set_cons_succ])))
                (refine walkR_only (fun w' => Ext wr w') rfl (by decide +kernel) rfl (fun _ h => h) ?_; intro K hK; go_simp; refine (HLI.out _).mono ?_; rintro e w2 ⟨rfl, rfl⟩; refine hK _ _ (hE) ?_; clear hK K; (try simp only [Act.put, List.setIfInBounds_toArray, List.set_cons_zero, List.set_cons_succ]))
                (repeat (first | (refine walkR_still (v := ?_) rfl (by decide +kernel) rfl (fun _ _ _ h => h) hE ?_ ?_; rotate_left; (focus (intro w' hw'; obtain ⟨f0, f1, q1, q2⟩ := HW.out w' hw'; obtain ⟨m1, m2⟩ := HMD.out; obtain ⟨z1, z2, z3, z4, z5⟩ := HPF.out; have z6 := HWG.out; go_simp; all_goals (with_reducible rfl))); simp only [Act.put, List.setIfInBounds_toArray, List.set_cons_zero, List.set_cons_succ]) | (refine walkR_skip rfl (by decide +kernel) rfl (fun _ _ _ h => h) hE ?_; simp only [Act.put, List.setIfInBounds_toArray, List.set_cons_zero, List.set_cons_succ])))
                (refine walkR_tail (by rfl) (by kernel_rfl) ?_; simp only [List.drop_succ_cons, List.drop_zero])
                go_wp2
                exact bodyPost_ret (v := .tuple #[.slice none 0 0, .bool false]) (by simp [results, Tryz.results73, go_sem]) rfl ⟨_, by rw [HT.out, HEF.out, Bool.false_and], HX0.out.trans (HX.out.trans hE)⟩
              · have hy0' : (y == 0) = false := by simpa using hy0
                have HET : Hid (entryF xs R i = true) := by
                  show _ = _
                  rw [HE.out, hin2]
                  simp [hy0]
                clear hx0 hy0 hin hin2 HE
                go_wp2
                clear f0 f1
                (refine walkR_start (fun w' => Ext wr w') 34 (by kernel_rfl) ?_; simp only [numbered, List.take_succ_cons, List.take_zero, Nat.zero_add, Nat.reduceAdd, List.length_cons, List.length_nil])
                (repeat (first | (refine walkR_still (v := ?_) rfl (by decide +kernel) rfl (fun _ _ _ h => h) hE ?_ ?_; rotate_left; (focus (intro w' hw'; obtain ⟨f0, f1, q1, q2⟩ := HW.out w' hw'; obtain ⟨m1, m2⟩ := HMD.out; obtain ⟨z1, z2, z3, z4, z5⟩ := HPF.out; have z6 := HWG.out; go_simp; all_goals (with_reducible rfl))); simp only [Act.put, List.setIfInBounds_toArray, List.set_cons_zero, List.set_cons_succ]) | (refine walkR_skip rfl (by decide +kernel) rfl (fun _ _ _ h => h) hE ?_; simp only [Act.put, List.setIfInBounds_toArray, List.set_cons_zero, List.set_cons_succ])))
                (refine walkR_only (fun w' => Ext wr w') rfl (by decide +kernel) rfl (fun _ h => h) ?_; intro K hK; go_simp; refine (HLI.out _).mono ?_; rintro e w2 ⟨rfl, rfl⟩; refine hK _ _ (hE) ?_; clear hK K; (try simp only [Act.put, List.setIfInBounds_toArray, List.set_cons_zero, List.set_cons_succ]))
                (repeat (first | (refine walkR_still (v := ?_) rfl (by decide +kernel) rfl (fun _ _ _ h => h) hE ?_ ?_; rotate_left; (focus (intro w' hw'; obtain ⟨f0, f1, q1, q2⟩ := HW.out w' hw'; obtain ⟨m1, m2⟩ := HMD.out; obtain ⟨z1, z2, z3, z4, z5⟩ := HPF.out; have z6 := HWG.out; go_simp; all_goals (with_reducible rfl))); simp only [Act.put, List.setIfInBounds_toArray, List.set_cons_zero, List.set_cons_succ]) | (refine walkR_skip rfl (by decide +kernel) rfl (fun _ _ _ h => h) hE ?_; simp only [Act.put, List.setIfInBounds_toArray, List.set_cons_zero, List.set_cons_succ])))
                (refine walkR_tail (by rfl) (by kernel_rfl) ?_; simp only [List.drop_succ_cons, List.drop_zero])
                go_wp2
                go_roundw
                case rel =>
                  refine ⟨i + 1, by omega, by go_num, fun q hq => ?_, HX.out.trans hE⟩
                  rcases Nat.lt_succ_iff_lt_or_eq.1 hq with h3 | rfl
                  · exact HJ.out q h3
                  · exact HET.out
                case measure => simp [intOf]; omega
        · have HIE : Hid (i = R * R) := by show _ = _; omega
          have HET : Hid (partsB (R : Int) xs = (partsGo (bitsOf xs) R 5 0 []).all fun rows => fitAny xs R rows) := by
            show _ = _
            rw [HT.out, entryB_eq, L.out, ← HIE.out, List.all_eq_true.2 fun m hm => HJ.out m (List.mem_range.1 hm), Bool.true_and]
          clear HJ HT
          obtain ⟨f0, f1⟩ := HC.out.below HX.out
          obtain ⟨wb, hwb⟩ : ∃ wb : World, wb = wr := ⟨_, rfl⟩
          rw [← hwb] at HX f0 f1 ⊢
          have HXS := hidP (Ext.alloc wb (.cells #[] 9))
          have HXI := hidP (Ext.alloc (wb.alloc (.cells #[] 9)) (.cells #[] 3))
          have HOS := hidP ((OwnS.made wb wb.heap.size (Nat.le_refl _)).below HXI.out)
          have hm := OwnI.made (wb.alloc (.cells #[] 9)) wb.heap.size 0 (by simp) (by unfold maxLen; omega)
          rw [show Array.replicate 0 (Value.int .i64 0) = #[] from rfl] at hm
          have HOI := hidP hm
          have HXB := hidP (HXS.out.trans HXI.out)
          clear hwb hm HXS HXI
          go_wp2
          clear f0 f1
          go_loopw [5, 6, 7] (fun u v t wr => ∃ (i f : Nat) (done : List Nat) (ad : Option Addr) (cd : Nat) (ao : Option Addr) (no co : Nat) (so : List ByteArray), i ≤ R ∧ t = .int .i64 i ∧ v = .slice ad done.length cd ∧ u = .slice ao no co ∧ no ≤ i ∧ done.length ≤ 4 * i ∧
            Hid ((partsGo (bitsOf xs) R 5 0 []).all (fun rows => fitAny xs R rows) = (partsGo (bitsOf xs) R f i done).all (fun rows => fitAny xs R rows)) ∧ Hid (R - i < f) ∧ Hid (OwnI wr wb.heap.size ad done.length cd (natI done)) ∧ Hid (OwnS wr wb.heap.size ao no co so) ∧ Hid (Ext wb wr)) (fun _ _ t _ => R - (intOf t).toNat)
          case atStart =>
            exact ⟨0, 5, [], _, 0, _, 0, 0, [], Nat.zero_le _, rfl, rfl, rfl, Nat.le_refl _, by simp, rfl, by show _ < _; omega, (by rw [show wb.heap.size + 1 = (wb.alloc (.cells #[] 9)).heap.size by simp]; exact HOI), HOS, HXB⟩
          case round =>
            clear HOI HOS HXB
            obtain ⟨i1, f, done, ad, cd, ao, no, co, so, hi1, rfl, rfl, rfl, hno, hdl, HP, HF, HO, HS, HXr⟩ := hrel
            have HXa := hidP (HX.out.trans HXr.out)
            obtain ⟨f0, f1⟩ := HC.out.below HXa.out
            by_cases hlt1 : i1 < R
            · obtain ⟨f, rfl⟩ : ∃ f', f = f' + 1 := ⟨f - 1, by have := HF.out; omega⟩
              have HFd := hidP (l1Find_any ad done.length cd (natI done) (i1 : Int) wr HO.out.ints (by omega))
              have HMem : Hid ((i1 : Int) ∈ natI done ↔ i1 ∈ done) := by
                show _ ↔ _
                unfold natI
                rw [List.mem_map]
                exact ⟨fun ⟨a, h, e⟩ => by obtain rfl : a = i1 := by omega
                                           exact h, fun h => ⟨i1, h, rfl⟩⟩
              go_wp2_with fail
              refine HFd.out.mono ?_
              rintro e w2 ⟨v, rfl, hv, hv1, hv2, rfl⟩
              by_cases hm : i1 ∈ done
              · have hv0 : 0 ≤ v := hv.2 (HMem.out.2 hm)
                have HP2 : Hid ((partsGo (bitsOf xs) R 5 0 []).all (fun rows => fitAny xs R rows) = (partsGo (bitsOf xs) R f (i1 + 1) done).all (fun rows => fitAny xs R rows)) := by
                  show _ = _
                  rw [HP.out, partsGo_done _ _ _ _ _ hlt1 hm]
                clear hv hm f0 f1
                go_wp2
                go_roundw
                case rel => exact ⟨i1 + 1, f, done, ad, cd, ao, no, co, so, by omega, by go_num, rfl, rfl, by omega, by omega, HP2, by show _ < _; have := HF.out; omega, HO, HS, HXr⟩
                case measure => simp [intOf]; omega
              · have hvn : ¬ (0 ≤ v) := fun h => hm (HMem.out.1 (hv.1 h))
                have HPt := hidP (l5Part_any R hR4 xs a c i1 hlt1 wr (H.out.below HXa.out))
                have HP2 : Hid ((partsGo (bitsOf xs) R 5 0 []).all (fun rows => fitAny xs R rows) = (fitAny xs R (partL (bitsOf xs) R i1) && (partsGo (bitsOf xs) R f (i1 + 1) (done ++ partL (bitsOf xs) R i1)).all (fun rows => fitAny xs R rows))) := by
                  show _ = _
                  rw [HP.out, partsGo_new _ _ _ _ _ hlt1 hm]
                  rfl
                generalize partL (bitsOf xs) R i1 = P at *
                clear hv hm HFd HMem HP
                go_wp2_with fail
                refine HPt.out.mono ?_
                rintro e w2 ⟨a8, n8, c8, rfl, hr2, hx2, hnd, hrr⟩
                have hl8 := hr2.len
                rw [natI_length] at hl8
                subst hl8
                have hP4 := nodup_le R P hnd hrr
                have HR2 := hidP hr2
                have HRR := hidP hrr
                have HX2 := hidP hx2
                have HO2 := hidP (HO.out.below hx2)
                have HS2 := hidP (HS.out.below hx2)
                have HXw := hidP (HXr.out.trans hx2)
                clear hr2 hx2 hnd hrr f0 f1
                go_wp2_with (at_builtin; refine wpList_append_ints rfl (.tmp 84) (.tmp 85) rfl wb.heap.size ad done.length cd (natI done) rfl HO2.out a8 P.length c8 (natI P) rfl HR2.out.ints HR2.out.nil_cap (by omega) HXw.out.size ?_; intro a5 c5 w5 ho5 hg5)
                have HX5 : Hid (Ext wb w5) := grown_ext hg5 HXw.out HXw.out.size HO2.out.addr_base
                have HR5 := hidP (HR2.out.grown hg5 fun g o e => HO.out.ne_new ((HR2.out.at_base g o e).1))
                have HS5 := hidP (HS2.out.grown hg5 fun g o e => HS2.out.ne_ints HO2.out g o e)
                rw [← natI_append] at ho5
                have HO5 := hidP ho5
                have HP4 := hidP hP4
                clear ho5 hg5
                go_wp2_with fail
                refine (l5Names_any w5).mono ?_
                rintro e w6 ⟨bn, rfl, hs6, hx6⟩
                have HN6 := hidP hs6
                have HX6 := hidP (HX5.out.trans hx6)
                have HR6 := hidP (HR5.out.below hx6)
                have HS6 := hidP (HS5.out.below hx6)
                have HO6 := hidP (HO5.out.below hx6)
                clear hs6 hx6 HO5 HS5 HR5 HX5 HO2 HR2 HS2 HXw
                go_wp2
                go_loopw [9, 11] (fun u t wx => ∃ (k : Nat) (ff : ByteArray), k ≤ 12 ∧ t = .int .i64 k ∧ u = .string ff ∧ Hid (NameIf ((List.range k).any (fitK xs R P)) ff) ∧ Hid (Ext w6 wx)) (fun _ t _ => 12 - (intOf t).toNat)
                case atStart => exact ⟨0, ⟨#[]⟩, Nat.zero_le _, rfl, rfl, NameIf.no rfl, Ext.refl _⟩
                case round =>
                  obtain ⟨k, ff, hk, rfl, rfl, HN, HXx⟩ := hrel
                  have HXb := hidP (HX6.out.trans HXx.out)
                  have HXc := hidP (HX.out.trans HXb.out)
                  by_cases hk12 : k < 12
                  · have HAS : Hid ((List.range (k + 1)).any (fitK xs R P) = ((List.range k).any (fitK xs R P) || fitK xs R P k)) := by
                      show _ = _
                      rw [List.range_succ, List.any_append]
                      simp
                    obtain ⟨bq, oq, e, q⟩ := (HN6.out.below HXx.out).get k hk12
                    simp only [Option.some.injEq, Addr.mk.injEq, and_true] at e
                    obtain ⟨rfl, rfl⟩ := e
                    rw [Nat.zero_add] at q
                    obtain ⟨s, hs⟩ : ∃ s, s = nameS.getD k ByteArray.empty := ⟨_, rfl⟩
                    rw [← hs] at q
                    have hz2 := name_size _ hk12 s hs
                    have hz : 1 < s.size := by omega
                    have hzi : (1 : Int) < (s.size : Int) := by omega
                    have hrk := name_rank _ hk12 s hs hz
                    have hu8 : IntKind.u8.wrap ((s[1].toNat : Int) - 48) = (pRank k : Int) := (u8wrap _).trans hrk
                    have hne := name1_ne k hk12
                    rw [← hs] at hne
                    have HNE := hidP hne
                    have HOne := hidP (fun w' => l5One_any k hk12 s hs w')
                    have HPM := hidP (pRank_pos k hk12).2
                    have HFK : Hid (fitK xs R P k = (decide (pRank k = P.length) && fitsB xs R P k)) := rfl
                    have HW := hidP (fun w' (hx : Ext wr w') => (⟨(HC.out.below (HXc.out.trans hx)).c0, (HC.out.below (HXc.out.trans hx)).c1, (hx.cell (p := ⟨bn, k, none⟩) (World.block_lt_of_cell? wr _ q)).trans q⟩ : _ ∧ _ ∧ _))
                    have hE : Ext wr wr.drew := Ext.drew wr
                    clear q hs hz2 hne
                    by_cases hpk : pRank k = P.length
                    · have HFT : Hid (fitK xs R P k = fitsB xs R P k) := by
                        show _ = _
                        rw [HFK.out, decide_eq_true hpk, Bool.true_and]
                      have HFS : Hid (fitsB xs R P k = searchB P P.length (rowChk xs R (pMat k) P.length) P.length []) := by
                        show _ = _
                        unfold fitsB
                        rw [hpk]
                      rw [hpk] at hu8 HOne HPM
                      have HU := hidP hu8
                      have HWR : Hid (IntKind.i64.wrap (P.length : Int) = (P.length : Int)) := wrap_in (by omega) (by omega)
                      have HRf := hidP (fun w' (hx : Ext wr w') (ad : Option Addr) (cd : Nat) (ho : IntsAt w' ad (P.length * P.length) (pMat k)) => l5Fits_any R hR4 P.length HPM.out xs (pMat k) P rfl HRR.out P.length [] a ad none a8 c cd 0 c8 0 w' ((H.out.below HXc.out).below hx) ho ((HR6.out.ints.below HXx.out).below hx) (IntsAt.nil _ _) (fun _ => rfl) (by omega) (fun x hx => by simp at hx))
                      generalize searchB P P.length (rowChk xs R (pMat k) P.length) P.length [] = sb at *
                      have HPK := hidP hpk
                      clear hpk HFK hrk hu8
                      go_wp2
                      (refine walkR_start (fun w' => Ext wr w') 20 (by kernel_rfl) ?_; simp only [numbered, List.take_succ_cons, List.take_zero, Nat.zero_add, Nat.reduceAdd, List.length_cons, List.length_nil])
                      (repeat (first | (refine walkR_still (v := ?_) rfl (by decide +kernel) rfl (fun _ _ _ h => h) hE ?_ ?_; rotate_left; (focus (intro w' hw'; obtain ⟨f0, f1, q⟩ := HW.out w' hw'; have y1 := HU.out; have y2 := HWR.out; go_simp; all_goals (with_reducible rfl))); simp only [Act.put, List.setIfInBounds_toArray, List.set_cons_zero, List.set_cons_succ]) | (refine walkR_skip rfl (by decide +kernel) rfl (fun _ _ _ h => h) hE ?_; simp only [Act.put, List.setIfInBounds_toArray, List.set_cons_zero, List.set_cons_succ])))
                      (refine walkR_only (fun w' => Ext wr w') rfl (by decide +kernel) rfl (fun _ h => h) ?_; intro K hK; go_simp; refine (HOne.out _).mono ?_; rintro e w7 ⟨a7, rfl, ho7, hx7⟩; refine hK _ _ (hE.trans hx7) ?_; clear hK K; (try simp only [Act.put, List.setIfInBounds_toArray, List.set_cons_zero, List.set_cons_succ]))
                      have hE7 := hE.trans hx7
                      have HRg := hidP (HRf.out _ hE7 a7 (P.length * P.length) ho7.ints)
                      clear hx7 ho7
                      (repeat (first | (refine walkR_still (v := ?_) rfl (by decide +kernel) rfl (fun _ _ _ h => h) hE7 ?_ ?_; rotate_left; (focus (intro w' hw'; obtain ⟨f0, f1, q⟩ := HW.out w' hw'; go_simp; all_goals (with_reducible rfl))); simp only [Act.put, List.setIfInBounds_toArray, List.set_cons_zero, List.set_cons_succ]) | (refine walkR_skip rfl (by decide +kernel) rfl (fun _ _ _ h => h) hE7 ?_; simp only [Act.put, List.setIfInBounds_toArray, List.set_cons_zero, List.set_cons_succ])))
                      (refine walkR_only (fun w' => Ext wr w') rfl (by decide +kernel) rfl (fun _ h => h) ?_; intro K hK; go_simp; refine (HRg.out).mono ?_; rintro e w8 ⟨rfl, hx8⟩; refine hK _ _ (hE7.trans hx8) ?_; clear hK K; (try simp only [Act.put, List.setIfInBounds_toArray, List.set_cons_zero, List.set_cons_succ]))
                      have hE8 := hE7.trans hx8
                      clear hx8 hE7
                      (repeat (first | (refine walkR_still (v := ?_) rfl (by decide +kernel) rfl (fun _ _ _ h => h) hE8 ?_ ?_; rotate_left; (focus (intro w' hw'; obtain ⟨f0, f1, q⟩ := HW.out w' hw'; go_simp; all_goals (with_reducible rfl))); simp only [Act.put, List.setIfInBounds_toArray, List.set_cons_zero, List.set_cons_succ]) | (refine walkR_skip rfl (by decide +kernel) rfl (fun _ _ _ h => h) hE8 ?_; simp only [Act.put, List.setIfInBounds_toArray, List.set_cons_zero, List.set_cons_succ])))
                      (refine walkR_tail (by rfl) (by kernel_rfl) ?_; simp only [List.drop_succ_cons, List.drop_zero])
                      obtain ⟨f0, f1, q⟩ := HW.out _ hE8
                      cases sb
                      · have HN2 : Hid (NameIf ((List.range (k + 1)).any (fitK xs R P)) ff) := HN.out.cast (by rw [HAS.out, HFT.out, HFS.out, Bool.or_false])
                        go_wp2
                        go_roundw
                        case rel => exact ⟨k + 1, ff, by omega, by go_num, rfl, HN2, HXx.out.trans hE8⟩
                        case measure => simp [intOf]; omega
                      · have HN2 : Hid (NameIf ((List.range (k + 1)).any (fitK xs R P)) s) := NameIf.yes (by rw [HAS.out, HFT.out, HFS.out, Bool.or_true]) HNE.out
                        go_wp2
                        go_roundw
                        case rel => exact ⟨k + 1, s, by omega, by go_num, rfl, HN2, HXx.out.trans hE8⟩
                        case measure => simp [intOf]; omega
                    · have HFT : Hid (fitK xs R P k = false) := by
                        show _ = _
                        rw [HFK.out, decide_eq_false hpk, Bool.false_and]
                      have hpk' : ((pRank k : Int) == (P.length : Int)) = false := by simp; omega
                      have hp4 := HPM.out
                      generalize pRank k = pk at *
                      have HU := hidP hu8
                      have HWR : Hid (IntKind.i64.wrap (pk : Int) = (pk : Int)) := wrap_in (by omega) (by omega)
                      have HN2 : Hid (NameIf ((List.range (k + 1)).any (fitK xs R P)) ff) := HN.out.cast (by rw [HAS.out, HFT.out, Bool.or_false])
                      clear hpk HFK hrk hu8
                      go_wp2
                      (refine walkR_start (fun w' => Ext wr w') 20 (by kernel_rfl) ?_; simp only [numbered, List.take_succ_cons, List.take_zero, Nat.zero_add, Nat.reduceAdd, List.length_cons, List.length_nil])
                      (repeat (first | (refine walkR_still (v := ?_) rfl (by decide +kernel) rfl (fun _ _ _ h => h) hE ?_ ?_; rotate_left; (focus (intro w' hw'; obtain ⟨f0, f1, q⟩ := HW.out w' hw'; have y1 := HU.out; have y2 := HWR.out; go_simp; all_goals (with_reducible rfl))); simp only [Act.put, List.setIfInBounds_toArray, List.set_cons_zero, List.set_cons_succ]) | (refine walkR_skip rfl (by decide +kernel) rfl (fun _ _ _ h => h) hE ?_; simp only [Act.put, List.setIfInBounds_toArray, List.set_cons_zero, List.set_cons_succ])))
                      (refine walkR_tail (by rfl) (by kernel_rfl) ?_; simp only [List.drop_succ_cons, List.drop_zero])
                      go_wp2
                      go_roundw
                      case rel => exact ⟨k + 1, ff, by omega, by go_num, rfl, HN2, HXx.out.trans hE⟩
                      case measure => simp [intOf]; omega
                  · obtain rfl : k = 12 := by omega
                    rw [← fitAny_eq] at HN
                    cases hfa : fitAny xs R P
                    · rw [hfa] at HN HP2
                      obtain rfl := HN.out.2 rfl
                      have HB : Hid (partsB (R : Int) xs = false) := by
                        show _ = _
                        rw [HET.out, HP2.out, Bool.false_and]
                      go_wp2
                      exact bodyPost_ret (v := .tuple #[.slice none 0 0, .bool false]) (by simp [results, Tryz.results73, go_sem]) rfl ⟨_, by rw [HB.out], HX0.out.trans HXc.out⟩
                    · rw [hfa, Bool.true_and] at HP2
                      rw [hfa] at HN
                      have hne := HN.out.1 rfl
                      have HSx := hidP (HS6.out.below HXx.out)
                      have HOx := hidP (HO6.out.below HXx.out)
                      obtain ⟨wy, hwy⟩ : ∃ wy : World, wy = wr := ⟨_, rfl⟩
                      rw [← hwy] at HSx HOx HXb HXc ⊢
                      clear hwy HN
                      go_wp2
                      go_loopw [12] (fun t wx => ∃ k : Nat, k ≤ no ∧ t = .int .i64 k ∧ Hid (Ext wy wx)) (fun t _ => (intOf t).toNat)
                      case atStart => exact ⟨no, Nat.le_refl _, rfl, Ext.refl _⟩
                      case round =>
                        obtain ⟨k, hk, rfl, HXz⟩ := hrel
                        obtain ⟨gS, e1, _, _, hnc, hcm, _⟩ := HSx.out.form
                        subst e1
                        by_cases hk0 : 0 < k
                        · obtain ⟨bq, oq, e, q⟩ := (HSx.out.below HXz.out).strsR.get (k - 1) (by omega)
                          simp only [Option.some.injEq, Addr.mk.injEq, and_true] at e
                          obtain ⟨rfl, rfl⟩ := e
                          rw [Nat.zero_add] at q
                          have hk1 : ((k : Int) - 1) = ((k - 1 : Nat) : Int) := by omega
                          have HK1 : Hid (k - 1 ≤ no) := by show _ ≤ _; omega
                          generalize so.getD (k - 1) ByteArray.empty = sq at *
                          go_wp2
                          · refine ⟨⟨k - 1, HK1.out, rfl, HXz⟩, ?_⟩
                            simp [intOf]
                            omega
                          · clear q hk1
                            obtain ⟨wq, hwq⟩ : ∃ wq : World, wq = wr := ⟨_, rfl⟩
                            rw [← hwq] at HXz ⊢
                            clear hwq
                            have HSq := hidP (HSx.out.below HXz.out)
                            have HSl := hidP (HSq.out.strsR.part 0 k (by omega))
                            have hex : ∃ ad, (if co = k then some (⟨gS, 0, none⟩ : Addr) else some ⟨gS, k, none⟩) = some ad ∧ StrsR wq (some ad) (no - k) ((so.drop k).take (no - k)) := by
                              have h3 := HSq.out.strsR.part k (no - k) (by omega)
                              by_cases hck : co = k
                              · rw [if_pos hck]
                                refine ⟨_, rfl, h3.len, fun i hi => by omega⟩
                              · rw [if_neg hck]
                                rw [Nat.zero_add] at h3
                                exact ⟨_, rfl, h3⟩
                            obtain ⟨adS, hadS, hSh⟩ := hex
                            have HSh := hidP hSh
                            have HAD := hidP hadS
                            clear hSh hadS
                            have hE : Ext wq wq.drew := Ext.drew wq
                            have hkc : k ≤ co := by omega
                            have hkn : (no : Int) - k = ((no - k : Nat) : Int) := by omega
                            have hkd : (co : Int) - k = ((co - k : Nat) : Int) := by omega
                            (refine walkR_start (fun w' => Ext wq w') 11 (by kernel_rfl) ?_; simp only [numbered, List.take_succ_cons, List.take_zero, Nat.zero_add, Nat.reduceAdd, List.length_cons, List.length_nil])
                            (refine walkR_later ?_; simp only [List.cons_append, List.nil_append])
                            (repeat (first | (refine walkR_still (v := ?_) rfl (by decide +kernel) rfl (fun _ _ _ h => h) hE ?_ ?_; rotate_left; (focus (intro w' hw'; skip; go_simp; all_goals (with_reducible rfl))); simp only [Act.put, List.setIfInBounds_toArray, List.set_cons_zero, List.set_cons_succ]) | (refine walkR_skip rfl (by decide +kernel) rfl (fun _ _ _ h => h) hE ?_; simp only [Act.put, List.setIfInBounds_toArray, List.set_cons_zero, List.set_cons_succ])))
                            (refine walkR_later ?_; simp only [List.cons_append, List.nil_append])
                            (repeat (first | (refine walkR_still (v := ?_) rfl (by decide +kernel) rfl (fun _ _ _ h => h) hE ?_ ?_; rotate_left; (focus (intro w' hw'; skip; go_simp; all_goals (with_reducible rfl))); simp only [Act.put, List.setIfInBounds_toArray, List.set_cons_zero, List.set_cons_succ]) | (refine walkR_skip rfl (by decide +kernel) rfl (fun _ _ _ h => h) hE ?_; simp only [Act.put, List.setIfInBounds_toArray, List.set_cons_zero, List.set_cons_succ])))
                            (refine walkR_later ?_; simp only [List.cons_append, List.nil_append])
                            (refine walkR_later ?_; simp only [List.cons_append, List.nil_append])
                            (repeat (first | (refine walkR_still (v := ?_) rfl (by decide +kernel) rfl (fun _ _ _ h => h) hE ?_ ?_; rotate_left; (focus (intro w' hw'; skip; go_simp; all_goals (with_reducible rfl))); simp only [Act.put, List.setIfInBounds_toArray, List.set_cons_zero, List.set_cons_succ]) | (refine walkR_skip rfl (by decide +kernel) rfl (fun _ _ _ h => h) hE ?_; simp only [Act.put, List.setIfInBounds_toArray, List.set_cons_zero, List.set_cons_succ])))
                            refine walkR_three (fun v w' => ∃ g, v = .slice (some ⟨g, 0, none⟩) 0 0 ∧ OwnS w' wq.heap.size (some ⟨g, 0, none⟩) 0 0 []) (fun v u w' => ∃ a4 c4, u = .slice a4 k c4 ∧ OwnS w' wq.heap.size a4 k c4 (so.take k)) (fun z w' => ∃ g, z = .slice (some ⟨g, 0, none⟩) 1 1 ∧ w'.cell? ⟨g, 0, none⟩ = some (.string ff)) (fun v z w' => ∃ g g', v = .slice (some ⟨g, 0, none⟩) 0 0 ∧ OwnS w' wq.heap.size (some ⟨g, 0, none⟩) 0 0 [] ∧ z = .slice (some ⟨g', 0, none⟩) 1 1 ∧ w'.cell? ⟨g', 0, none⟩ = some (.string ff) ∧ g' < w'.heap.size ∧ g' ≠ g) (fun v u z w' => ∃ a4 c4 g', u = .slice a4 k c4 ∧ OwnS w' wq.heap.size a4 k c4 (so.take k) ∧ z = .slice (some ⟨g', 0, none⟩) 1 1 ∧ w'.cell? ⟨g', 0, none⟩ = some (.string ff)) rfl rfl rfl (by decide +kernel) rfl rfl rfl (by decide) (by decide) (fun _ => rfl) (fun _ => rfl) (fun _ => rfl) ?_ ?_ ?_ ?_ ?_ ?_ ?_ ?_
                            · intro K hK
                              go_simp
                              exact hK _ _ (hE.trans (Ext.alloc _ _)) ⟨_, rfl, OwnS.made _ _ hE.size⟩
                            · rintro v w' hx ⟨g, rfl, ho⟩ K hK
                              refine wp_append_strs (.tmp 135) (.tmp 138) rfl wq.heap.size (some ⟨g, 0, none⟩) 0 0 [] rfl ho ⟨gS, 0, none⟩ k co (so.take k) rfl (HSl.out.below hx) (by omega) hx.size ?_
                              intro a4 c4 w4 ho4 hg4
                              rw [Nat.zero_add] at ho4 ⊢
                              exact hK _ _ (ho.ext hg4 hx (Nat.le_refl _)) ⟨a4, c4, rfl, ho4⟩
                            · rintro v u w' hx ⟨a4, c4, rfl, ho4⟩ K hK
                              go_simp
                              exact hK _ _ (hx.trans (Ext.alloc _ _)) ⟨a4, c4, _, rfl, ho4.below (Ext.alloc _ _), rfl, (cell_top _ _ _ _ _ rfl).trans rfl⟩
                            · rintro v w' hx ⟨g, rfl, ho⟩ K hK
                              obtain ⟨_, e3, _, hlt3, _⟩ := ho.form
                              simp only [Option.some.injEq, Addr.mk.injEq, and_true] at e3
                              subst e3
                              go_simp
                              exact hK _ _ (hx.trans (Ext.alloc _ _)) ⟨g, _, rfl, ho.below (Ext.alloc _ _), rfl, (cell_top _ _ _ _ _ rfl).trans rfl, by simp, by omega⟩
                            · rintro v z w' hx ⟨g, g', rfl, ho, rfl, hc, hlt', hne'⟩ K hK
                              refine wp_append_strs (.tmp 135) (.tmp 138) rfl wq.heap.size (some ⟨g, 0, none⟩) 0 0 [] rfl ho ⟨gS, 0, none⟩ k co (so.take k) rfl (HSl.out.below hx) (by omega) hx.size ?_
                              intro a4 c4 w4 ho4 hg4
                              rw [Nat.zero_add] at ho4 ⊢
                              exact hK _ _ (ho.ext hg4 hx (Nat.le_refl _)) ⟨a4, c4, g', rfl, ho4, rfl, by rw [World.cell?_of_block (w := w') (hg4.block g' hlt' (by simp [Value.ownBlock]; exact hne'))]; exact hc⟩
                            · intro K hK
                              go_simp
                              exact hK _ _ (hE.trans (Ext.alloc _ _)) ⟨_, rfl, (cell_top _ _ _ _ _ rfl).trans rfl⟩
                            · rintro z w' hx ⟨g', rfl, hc⟩ K hK
                              have hlt' := World.block_lt_of_cell? w' _ hc
                              go_simp
                              exact hK _ _ (hx.trans (Ext.alloc _ _)) ⟨_, g', rfl, OwnS.made _ _ hx.size, rfl, ((Ext.alloc w' _).cell (p := ⟨g', 0, none⟩) hlt').trans hc, by have : g' < w'.heap.size := hlt'; simp; omega, by have : g' < w'.heap.size := hlt'; omega⟩
                            · rintro v u z w3 hx3 ⟨a4, c4, g', rfl, ho4, rfl, hc⟩
                              (try simp only [Act.put, List.setIfInBounds_toArray, List.set_cons_zero, List.set_cons_succ])
                              refine walkR_only (fun w' => Ext wq w') rfl (by decide +kernel) rfl (fun _ h => h) ?_
                              intro K hK
                              refine wp_append_strs (.tmp 139) (.tmp 141) rfl wq.heap.size a4 k c4 (so.take k) rfl ho4 ⟨g', 0, none⟩ 1 1 [ff] rfl (StrsR.one hc) (by omega) hx3.size ?_
                              intro a9 c9 w4 ho9 hg9
                              have hx4 : Ext wq w4 := ho4.ext hg9 hx3 (Nat.le_refl _)
                              refine hK _ _ hx4 ?_
                              clear hK K
                              (try simp only [Act.put, List.setIfInBounds_toArray, List.set_cons_zero, List.set_cons_succ])
                              have HO9 := hidP ho9
                              have HX4 := hidP hx4
                              have HS9 := hidP (HSh.out.below hx4)
                              clear ho9 hg9 hc ho4 hx4 hx3
                              (refine walkR_tail (by rfl) (by kernel_rfl) ?_; simp only [List.drop_succ_cons, List.drop_zero])
                              go_wp2_with (at_builtin; refine wpList_append_strs rfl (.tmp 142) (.tmp 145) rfl wq.heap.size a9 (k + 1) c9 (so.take k ++ [ff]) rfl HO9.out adS (no - k) (co - k) ((so.drop k).take (no - k)) (congrArg (fun x => Value.slice x (no - k) (co - k)) HAD.out) HS9.out (by omega) HX4.out.size ?_; intro a6 c6 w6' ho6 hg6)
                              have HO6b := hidP (ho6.base (B' := wb.heap.size) (HXb.out.trans HXz.out).size)
                              have HX6b : Hid (Ext wb w6') := (HXb.out.trans HXz.out).trans (HO9.out.ext hg6 HX4.out (Nat.le_refl _))
                              have HDy : Hid (OwnI w6' wb.heap.size a5 (done ++ P).length c5 (natI (done ++ P))) := by
                                have h1 := (HOx.out.below HXz.out).below (HO9.out.ext hg6 HX4.out (Nat.le_refl _))
                                rw [List.length_append]
                                exact h1
                              clear ho6 hg6
                              refine ⟨⟨i1 + 1, f, done ++ P, a5, c5, a6, k + 1 + (no - k), c6, _, by omega, by go_num, by rw [List.length_append], rfl, by omega, by rw [List.length_append]; have := HP4.out; omega, HP2, by show _ < _; have := HF.out; omega, HDy, HO6b, HX6b⟩, ?_⟩
                              simp [intOf]
                              omega
                        · have hkz : ¬ (0 < (k : Int)) := by omega
                          go_wp2
                          obtain ⟨wq, hwq⟩ : ∃ wq : World, wq = wr := ⟨_, rfl⟩
                          rw [← hwq] at HXz ⊢
                          clear hwq
                          have HSq := hidP (HSx.out.below HXz.out)
                          have HSl := hidP (HSq.out.strsR.part 0 k (by omega))
                          have hex : ∃ ad, (if co = k then some (⟨gS, 0, none⟩ : Addr) else some ⟨gS, k, none⟩) = some ad ∧ StrsR wq (some ad) (no - k) ((so.drop k).take (no - k)) := by
                            have h3 := HSq.out.strsR.part k (no - k) (by omega)
                            by_cases hck : co = k
                            · rw [if_pos hck]
                              refine ⟨_, rfl, h3.len, fun i hi => by omega⟩
                            · rw [if_neg hck]
                              rw [Nat.zero_add] at h3
                              exact ⟨_, rfl, h3⟩
                          obtain ⟨adS, hadS, hSh⟩ := hex
                          have HSh := hidP hSh
                          have HAD := hidP hadS
                          clear hSh hadS
                          have hE : Ext wq wq.drew := Ext.drew wq
                          have hkc : k ≤ co := by omega
                          have hkn : (no : Int) - k = ((no - k : Nat) : Int) := by omega
                          have hkd : (co : Int) - k = ((co - k : Nat) : Int) := by omega
                          (refine walkR_start (fun w' => Ext wq w') 11 (by kernel_rfl) ?_; simp only [numbered, List.take_succ_cons, List.take_zero, Nat.zero_add, Nat.reduceAdd, List.length_cons, List.length_nil])
                          (refine walkR_later ?_; simp only [List.cons_append, List.nil_append])
                          (repeat (first | (refine walkR_still (v := ?_) rfl (by decide +kernel) rfl (fun _ _ _ h => h) hE ?_ ?_; rotate_left; (focus (intro w' hw'; skip; go_simp; all_goals (with_reducible rfl))); simp only [Act.put, List.setIfInBounds_toArray, List.set_cons_zero, List.set_cons_succ]) | (refine walkR_skip rfl (by decide +kernel) rfl (fun _ _ _ h => h) hE ?_; simp only [Act.put, List.setIfInBounds_toArray, List.set_cons_zero, List.set_cons_succ])))
                          (refine walkR_later ?_; simp only [List.cons_append, List.nil_append])
                          (repeat (first | (refine walkR_still (v := ?_) rfl (by decide +kernel) rfl (fun _ _ _ h => h) hE ?_ ?_; rotate_left; (focus (intro w' hw'; skip; go_simp; all_goals (with_reducible rfl))); simp only [Act.put, List.setIfInBounds_toArray, List.set_cons_zero, List.set_cons_succ]) | (refine walkR_skip rfl (by decide +kernel) rfl (fun _ _ _ h => h) hE ?_; simp only [Act.put, List.setIfInBounds_toArray, List.set_cons_zero, List.set_cons_succ])))
                          (refine walkR_later ?_; simp only [List.cons_append, List.nil_append])
                          (refine walkR_later ?_; simp only [List.cons_append, List.nil_append])
                          (repeat (first | (refine walkR_still (v := ?_) rfl (by decide +kernel) rfl (fun _ _ _ h => h) hE ?_ ?_; rotate_left; (focus (intro w' hw'; skip; go_simp; all_goals (with_reducible rfl))); simp only [Act.put, List.setIfInBounds_toArray, List.set_cons_zero, List.set_cons_succ]) | (refine walkR_skip rfl (by decide +kernel) rfl (fun _ _ _ h => h) hE ?_; simp only [Act.put, List.setIfInBounds_toArray, List.set_cons_zero, List.set_cons_succ])))
                          refine walkR_three (fun v w' => ∃ g, v = .slice (some ⟨g, 0, none⟩) 0 0 ∧ OwnS w' wq.heap.size (some ⟨g, 0, none⟩) 0 0 []) (fun v u w' => ∃ a4 c4, u = .slice a4 k c4 ∧ OwnS w' wq.heap.size a4 k c4 (so.take k)) (fun z w' => ∃ g, z = .slice (some ⟨g, 0, none⟩) 1 1 ∧ w'.cell? ⟨g, 0, none⟩ = some (.string ff)) (fun v z w' => ∃ g g', v = .slice (some ⟨g, 0, none⟩) 0 0 ∧ OwnS w' wq.heap.size (some ⟨g, 0, none⟩) 0 0 [] ∧ z = .slice (some ⟨g', 0, none⟩) 1 1 ∧ w'.cell? ⟨g', 0, none⟩ = some (.string ff) ∧ g' < w'.heap.size ∧ g' ≠ g) (fun v u z w' => ∃ a4 c4 g', u = .slice a4 k c4 ∧ OwnS w' wq.heap.size a4 k c4 (so.take k) ∧ z = .slice (some ⟨g', 0, none⟩) 1 1 ∧ w'.cell? ⟨g', 0, none⟩ = some (.string ff)) rfl rfl rfl (by decide +kernel) rfl rfl rfl (by decide) (by decide) (fun _ => rfl) (fun _ => rfl) (fun _ => rfl) ?_ ?_ ?_ ?_ ?_ ?_ ?_ ?_
                          · intro K hK
                            go_simp
                            exact hK _ _ (hE.trans (Ext.alloc _ _)) ⟨_, rfl, OwnS.made _ _ hE.size⟩
                          · rintro v w' hx ⟨g, rfl, ho⟩ K hK
                            refine wp_append_strs (.tmp 135) (.tmp 138) rfl wq.heap.size (some ⟨g, 0, none⟩) 0 0 [] rfl ho ⟨gS, 0, none⟩ k co (so.take k) rfl (HSl.out.below hx) (by omega) hx.size ?_
                            intro a4 c4 w4 ho4 hg4
                            rw [Nat.zero_add] at ho4 ⊢
                            exact hK _ _ (ho.ext hg4 hx (Nat.le_refl _)) ⟨a4, c4, rfl, ho4⟩
                          · rintro v u w' hx ⟨a4, c4, rfl, ho4⟩ K hK
                            go_simp
                            exact hK _ _ (hx.trans (Ext.alloc _ _)) ⟨a4, c4, _, rfl, ho4.below (Ext.alloc _ _), rfl, (cell_top _ _ _ _ _ rfl).trans rfl⟩
                          · rintro v w' hx ⟨g, rfl, ho⟩ K hK
                            obtain ⟨_, e3, _, hlt3, _⟩ := ho.form
                            simp only [Option.some.injEq, Addr.mk.injEq, and_true] at e3
                            subst e3
                            go_simp
                            exact hK _ _ (hx.trans (Ext.alloc _ _)) ⟨g, _, rfl, ho.below (Ext.alloc _ _), rfl, (cell_top _ _ _ _ _ rfl).trans rfl, by simp, by omega⟩
                          · rintro v z w' hx ⟨g, g', rfl, ho, rfl, hc, hlt', hne'⟩ K hK
                            refine wp_append_strs (.tmp 135) (.tmp 138) rfl wq.heap.size (some ⟨g, 0, none⟩) 0 0 [] rfl ho ⟨gS, 0, none⟩ k co (so.take k) rfl (HSl.out.below hx) (by omega) hx.size ?_
                            intro a4 c4 w4 ho4 hg4
                            rw [Nat.zero_add] at ho4 ⊢
                            exact hK _ _ (ho.ext hg4 hx (Nat.le_refl _)) ⟨a4, c4, g', rfl, ho4, rfl, by rw [World.cell?_of_block (w := w') (hg4.block g' hlt' (by simp [Value.ownBlock]; exact hne'))]; exact hc⟩
                          · intro K hK
                            go_simp
                            exact hK _ _ (hE.trans (Ext.alloc _ _)) ⟨_, rfl, (cell_top _ _ _ _ _ rfl).trans rfl⟩
                          · rintro z w' hx ⟨g', rfl, hc⟩ K hK
                            have hlt' := World.block_lt_of_cell? w' _ hc
                            go_simp
                            exact hK _ _ (hx.trans (Ext.alloc _ _)) ⟨_, g', rfl, OwnS.made _ _ hx.size, rfl, ((Ext.alloc w' _).cell (p := ⟨g', 0, none⟩) hlt').trans hc, by have : g' < w'.heap.size := hlt'; simp; omega, by have : g' < w'.heap.size := hlt'; omega⟩
                          · rintro v u z w3 hx3 ⟨a4, c4, g', rfl, ho4, rfl, hc⟩
                            (try simp only [Act.put, List.setIfInBounds_toArray, List.set_cons_zero, List.set_cons_succ])
                            refine walkR_only (fun w' => Ext wq w') rfl (by decide +kernel) rfl (fun _ h => h) ?_
                            intro K hK
                            refine wp_append_strs (.tmp 139) (.tmp 141) rfl wq.heap.size a4 k c4 (so.take k) rfl ho4 ⟨g', 0, none⟩ 1 1 [ff] rfl (StrsR.one hc) (by omega) hx3.size ?_
                            intro a9 c9 w4 ho9 hg9
                            have hx4 : Ext wq w4 := ho4.ext hg9 hx3 (Nat.le_refl _)
                            refine hK _ _ hx4 ?_
                            clear hK K
                            (try simp only [Act.put, List.setIfInBounds_toArray, List.set_cons_zero, List.set_cons_succ])
                            have HO9 := hidP ho9
                            have HX4 := hidP hx4
                            have HS9 := hidP (HSh.out.below hx4)
                            clear ho9 hg9 hc ho4 hx4 hx3
                            (refine walkR_tail (by rfl) (by kernel_rfl) ?_; simp only [List.drop_succ_cons, List.drop_zero])
                            go_wp2_with (at_builtin; refine wpList_append_strs rfl (.tmp 142) (.tmp 145) rfl wq.heap.size a9 (k + 1) c9 (so.take k ++ [ff]) rfl HO9.out adS (no - k) (co - k) ((so.drop k).take (no - k)) (congrArg (fun x => Value.slice x (no - k) (co - k)) HAD.out) HS9.out (by omega) HX4.out.size ?_; intro a6 c6 w6' ho6 hg6)
                            have HO6b := hidP (ho6.base (B' := wb.heap.size) (HXb.out.trans HXz.out).size)
                            have HX6b : Hid (Ext wb w6') := (HXb.out.trans HXz.out).trans (HO9.out.ext hg6 HX4.out (Nat.le_refl _))
                            have HDy : Hid (OwnI w6' wb.heap.size a5 (done ++ P).length c5 (natI (done ++ P))) := by
                              have h1 := (HOx.out.below HXz.out).below (HO9.out.ext hg6 HX4.out (Nat.le_refl _))
                              rw [List.length_append]
                              exact h1
                            clear ho6 hg6
                            refine ⟨⟨i1 + 1, f, done ++ P, a5, c5, a6, k + 1 + (no - k), c6, _, by omega, by go_num, by rw [List.length_append], rfl, by omega, by rw [List.length_append]; have := HP4.out; omega, HP2, by show _ < _; have := HF.out; omega, HDy, HO6b, HX6b⟩, ?_⟩
                            simp [intOf]
                            omega
            · obtain rfl : i1 = R := by omega
              have HB : Hid (partsB (i1 : Int) xs = true) := by
                show _ = _
                rw [HET.out, HP.out, partsGo_end _ _ _ _ _ (Nat.lt_irrefl _)]
                rfl
              go_wp2
              exact bodyPost_ret (v := .tuple #[.slice ao no co, .bool true]) (by simp [results, Tryz.results73, go_sem]) rfl ⟨_, by rw [HB.out], HX0.out.trans HXa.out⟩
    · have HT : Hid (partsB r xs = false) := by
        show _ = _
        unfold partsB
        rw [decide_eq_false (p := (xs.length : Int) = r * r) (by rw [L.out]; exact hl)]
        simp
      have hlb : ((n : Int) != r * r) = true := by simpa using hl
      have HX0 := hidP hx0
      clear h hi hx0 hl hdi
      go_enter Tryz.func73, Tryz.ntmps73
      go_wp2_with fail
      refine (HI.out _).mono ?_
      rintro e w' ⟨rfl, rfl⟩
      go_wp2
      exact bodyPost_ret (v := .tuple #[.slice none 0 0, .bool false]) (by simp [results, Tryz.results73, go_sem]) rfl ⟨_, by rw [HT.out], HX0.out⟩
theorem sIsCartan_any (r : Int) (a : Option Addr) (n c : Nat) (xs : List Int) (w : World) (h : IntsAt w a n xs) (hn : n ≤ 9223372036854775807) :
    Calls Tryz.prog 43 #[carV r a n c] w fun e w' => e = .returned (.bool (typeB r xs)) ∧ Ext w w' := by
  have hx0 := Ext.alloc w (.cells #[.int .i64 r, .slice a n c] 29)
  have H := hidP (l5Parts_any r a n c xs _ (h.below hx0) hn)
  obtain ⟨f0, f1⟩ := CarAt.new w _ rfl r a n c 29
  have HX0 := hidP hx0
  rw [typeB_eq]
  clear h hx0
  go_enter Tryz.func43, Tryz.ntmps43
  go_wp2_with fail
  refine H.out.mono ?_
  rintro e w1 ⟨s, rfl, hx1⟩
  have HX1 := hidP (HX0.out.trans hx1)
  clear hx1 H
  go_wp2
  go_ret
  exact ⟨rfl, HX1.out⟩
end Go.Proofs.YtdhlapppahkjeaaGreatDoor

namespace Go.Proofs.YtdhlapppahkjeaaGreatDoor
open Go.RowKit

theorem sPathOk_any (r : Int) (ta : Option Addr) (tn tc : Nat) (ts : List Int) (a : Option Addr) (n c : Nat) (xs : List Stp) (w : World) (hc : IntsAt w ta tn ts) (hcn : tn ≤ 9223372036854775807) (h : TermsAt w a n xs) (hn : n ≤ 9223372036854775807) :
    Calls Tryz.prog 45 #[carV r ta tn tc, .slice a n c] w fun e w' => e = .returned (.bool (typeB r ts && pathB r.toNat xs)) ∧ Ext w w' := by
  have hx1 := Ext.alloc w (.cells #[.int .i64 r, .slice ta tn tc] 29)
  have HC := hidP (fun w' (hx : Ext (w.alloc (.cells #[.int .i64 r, .slice ta tn tc] 29)) w') => (CarAt.new w _ rfl r ta tn tc 29).below hx)
  have HX1 := hidP hx1
  have H := hidP (h.below hx1)
  have HIs := hidP (sIsCartan_any r ta tn tc ts _ (hc.below hx1) hcn)
  clear hc h hx1
  obtain ⟨w1, hw1⟩ : ∃ w1, w1 = w.alloc (.cells #[.int .i64 r, .slice ta tn tc] 29) := ⟨_, rfl⟩
  rw [← hw1] at HC HX1 H HIs
  obtain ⟨f0, f1⟩ := HC.out w1 (Ext.refl w1)
  cases hT : typeB r ts
  · rw [hT] at HIs
    clear hT
    go_enter Tryz.func45, Tryz.ntmps45
    go_wp2_with fail
    rw [← hw1]
    clear hw1
    refine HIs.out.mono ?_
    rintro e w2 ⟨rfl, hx⟩
    have HX := hidP hx
    clear hx
    go_wp2
    go_ret
    exact ⟨rfl, HX1.out.trans HX.out⟩
  · obtain ⟨hr1, hr4, _⟩ := typeB_rank hT
    rw [hT] at HIs
    rw [Bool.true_and]
    clear hT
    obtain ⟨R, rfl⟩ : ∃ R : Nat, r = R := ⟨r.toNat, by omega⟩
    rw [Int.toNat_natCast]
    have hR : R ≤ 4 := by omega
    clear hr1 hr4
    have HL := hidP (fun w' (hx : Ext w1 w') => l9Ok_any R ta tn tc a n c xs w' (H.out.below hx) hn (by omega))
    generalize pathB R xs = b at HL ⊢
    go_enter Tryz.func45, Tryz.ntmps45
    go_wp2_with fail
    rw [← hw1]
    clear hw1
    refine HIs.out.mono ?_
    rintro e w2 ⟨rfl, hx⟩
    obtain ⟨g0, g1⟩ := HC.out w2 hx
    have HX := hidP hx
    clear hx f0 f1
    go_wp2_with fail
    refine (HL.out _ HX.out).mono ?_
    rintro e w3 ⟨rfl, hx⟩
    have HX3 := hidP (HX.out.trans hx)
    clear hx
    go_wp2
    go_ret
    exact ⟨rfl, HX1.out.trans HX3.out⟩

set_option maxHeartbeats 2000000 in
theorem sJoinPaths_any (r : Int) (ta : Option Addr) (tn tc : Nat) (ts : List Int) (a : Option Addr) (n c : Nat) (xs : List Stp) (a' : Option Addr) (n' c' : Nat) (ys : List Stp) (w : World) (hc : IntsAt w ta tn ts) (hcn : tn ≤ 9223372036854775807)
    (h : StepsAt w a n xs) (hn : n ≤ 9223372036854775807) (h' : StepsAt w a' n' ys) (hn' : n' ≤ 9223372036854775807) :
    PathRes 32 #[carV r ta tn tc, .slice a n c, .slice a' n' c'] w (joinR r ts xs ys) := by
  unfold PathRes
  have hx1 := Ext.alloc w (.cells #[.int .i64 r, .slice ta tn tc] 29)
  have HC := hidP (fun w' (hx : Ext (w.alloc (.cells #[.int .i64 r, .slice ta tn tc] 29)) w') => (CarAt.new w _ rfl r ta tn tc 29).below hx)
  have HX1 := hidP hx1
  have H := hidP (h.below hx1)
  have H' := hidP (h'.below hx1)
  have HP := hidP (sPathOk_any r ta tn tc ts a n c xs _ (hc.below hx1) hcn (h.below hx1).terms hn)
  have hs1 : w.heap.size ≤ (w.alloc (.cells #[.int .i64 r, .slice ta tn tc] 29)).heap.size := hx1.size
  clear hc h h' hx1
  obtain ⟨w1, hw1⟩ : ∃ w1, w1 = w.alloc (.cells #[.int .i64 r, .slice ta tn tc] 29) := ⟨_, rfl⟩
  rw [← hw1] at HC HX1 H H' HP hs1
  have HS1 := hidP hs1
  clear hs1
  obtain ⟨f0, f1⟩ := HC.out w1 (Ext.refl w1)
  cases hT : (typeB r ts && pathB r.toNat xs)
  · have HR : Hid (joinR r ts xs ys = (false, [])) := by
      show _ = _
      unfold joinR
      rw [hT]
      rfl
    rw [hT] at HP
    clear hT
    go_enter Tryz.func32, Tryz.ntmps32
    go_wp2_with fail
    rw [← hw1]
    clear hw1
    refine HP.out.mono ?_
    rintro e w2 ⟨rfl, hx⟩
    have HX := hidP hx
    clear hx
    go_wp2
    refine bodyPost_ret (v := .tuple #[.slice none 0 0, .bool false]) (by simp [results, Tryz.results32, go_sem]) rfl ⟨none, 0, 0, [], by rw [HR.out], ?_, HX1.out.trans HX.out⟩
    rw [HR.out]
    exact OwnK.nil stepK _ _ _
  · have hT2 : typeB r ts = true := by
      simp only [Bool.and_eq_true] at hT
      exact hT.1
    have hP1 : pathB r.toNat xs = true := by
      simp only [Bool.and_eq_true] at hT
      exact hT.2
    obtain ⟨hr1, hr4, _⟩ := typeB_rank hT2
    obtain ⟨R, rfl⟩ : ∃ R : Nat, r = R := ⟨r.toNat, by omega⟩
    rw [Int.toNat_natCast] at hP1
    have hR : R ≤ 4 := by omega
    have HL := hidP (fun w' (hx : Ext w1 w') => l9Ok_any R ta tn tc a' n' c' ys w' (H'.out.below hx).terms hn' (by omega))
    cases hQ : pathB R ys
    · have HR : Hid (joinR R ts xs ys = (false, [])) := by
        show _ = _
        unfold joinR
        rw [hT, Int.toNat_natCast, hQ]
        rfl
      rw [hT] at HP
      rw [hQ] at HL
      clear hT hT2 hP1 hQ hr1 hr4
      go_enter Tryz.func32, Tryz.ntmps32
      go_wp2_with fail
      rw [← hw1]
      clear hw1
      refine HP.out.mono ?_
      rintro e w2 ⟨rfl, hx⟩
      obtain ⟨g0, g1⟩ := HC.out w2 hx
      have HX := hidP hx
      clear hx f0 f1
      go_wp2_with fail
      refine (HL.out _ HX.out).mono ?_
      rintro e w3 ⟨rfl, hx⟩
      have HX3 := hidP (HX.out.trans hx)
      clear hx g0 g1
      go_wp2
      refine bodyPost_ret (v := .tuple #[.slice none 0 0, .bool false]) (by simp [results, Tryz.results32, go_sem]) rfl ⟨none, 0, 0, [], by rw [HR.out], ?_, HX1.out.trans HX3.out⟩
      rw [HR.out]
      exact OwnK.nil stepK _ _ _
    · have hR2 : joinR R ts xs ys = chk R (xs ++ ys) := by
        unfold joinR
        rw [hT, Int.toNat_natCast, hQ]
        rfl
      obtain ⟨hl1, hk1⟩ := pathB_small hP1
      obtain ⟨hl2, hk2⟩ := pathB_small hQ
      have hnl := H.out.len
      have hnl' := H'.out.len
      have HJ := hidP (fun w' (hx : Ext w1 w') => l9Join_any a n c xs a' n' c' ys w' (H.out.below hx) (H'.out.below hx) (by omega) (fun k hk => by have := hk1 k (by omega); omega) (fun k hk => by have := hk2 k (by omega); omega))
      have HL2 := hidP (fun w' (hx : Ext w1 w') (b : Option Addr) (m d : Nat) (hs : List Hdr) (ho : OwnK stepK w' w1.heap.size w'.heap.size b m d hs (joinS (xs ++ ys))) => l9Ok_any R ta tn tc b m d (joinS (xs ++ ys)) w' ho.termsAt ho.small (by omega))
      rw [hT] at HP
      rw [hQ] at HL
      have HR2 := hidP hR2
      clear hT hT2 hP1 hQ hr1 hr4 hk1 hk2 hR2
      go_enter Tryz.func32, Tryz.ntmps32
      go_wp2_with fail
      rw [← hw1]
      clear hw1
      refine HP.out.mono ?_
      rintro e w2 ⟨rfl, hx⟩
      obtain ⟨g0, g1⟩ := HC.out w2 hx
      have HX := hidP hx
      clear hx f0 f1
      go_wp2_with fail
      refine (HL.out _ HX.out).mono ?_
      rintro e w3 ⟨rfl, hx⟩
      have HX3 := hidP (HX.out.trans hx)
      clear hx g0 g1
      go_wp2_with fail
      refine (HJ.out _ HX3.out).mono ?_
      rintro e w4 ⟨b, m, d, hs, rfl, ho, hx⟩
      have HX4 := hidP (HX3.out.trans hx)
      have HO := hidP (ho.weaken HX3.out.size (Nat.le_refl _))
      obtain ⟨g0, g1⟩ := HC.out w4 HX4.out
      clear hx ho
      have HLL := hidP (HL2.out w4 HX4.out b m d hs HO.out)
      clear HL2 HL HP HJ
      cases hpb : pathB R (joinS (xs ++ ys))
      · rw [hpb] at HLL
        have HR : Hid (joinR R ts xs ys = (false, [])) := by
          show _ = _
          rw [HR2.out]
          unfold chk
          rw [hpb]
          rfl
        clear hpb
        go_wp2_with fail
        refine HLL.out.mono ?_
        rintro e w5 ⟨rfl, hx⟩
        have HX5 := hidP (HX4.out.trans hx)
        clear hx g0 g1
        go_wp2
        refine bodyPost_ret (v := .tuple #[.slice none 0 0, .bool false]) (by simp [results, Tryz.results32, go_sem]) rfl ⟨none, 0, 0, [], by rw [HR.out], ?_, HX1.out.trans HX5.out⟩
        rw [HR.out]
        exact OwnK.nil stepK _ _ _
      · rw [hpb] at HLL
        have HR : Hid (joinR R ts xs ys = (true, joinS (xs ++ ys))) := by
          show _ = _
          rw [HR2.out]
          unfold chk
          rw [hpb]
          rfl
        clear hpb
        go_wp2_with fail
        refine HLL.out.mono ?_
        rintro e w5 ⟨rfl, hx⟩
        have HX5 := hidP (HX4.out.trans hx)
        have HO5 := hidP ((HO.out.below hx).weaken HS1.out hx.size)
        clear hx g0 g1
        go_wp2
        refine bodyPost_ret (v := .tuple #[.slice b m d, .bool true]) (by simp [results, Tryz.results32, go_sem]) rfl ⟨b, m, d, hs, by rw [HR.out], ?_, HX1.out.trans HX5.out⟩
        rw [HR.out]
        exact HO5.out
end Go.Proofs.YtdhlapppahkjeaaGreatDoor
