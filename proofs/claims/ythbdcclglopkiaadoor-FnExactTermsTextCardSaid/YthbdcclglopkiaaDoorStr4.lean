/-
  The text of terms, by the reference and by the program.
-/
import Derived.Test.YthbdcclglopkiaaDoorStr3
import Derived.Test.YthbdcclglopkiaaDoorTermD
import Derived.Test.YthbdcclglopkiaaDoorReg
namespace Go.Proofs.YthbdcclglopkiaaDoor
open Go.RowKit

def SmallT (us : List (List Int × Int)) : Prop := ∀ i, i < us.length → Small (us.getD i ([], 0)).1 ∧ -9223372036854775808 ≤ (us.getD i ([], 0)).2 ∧ (us.getD i ([], 0)).2 ≤ 9223372036854775807 ∧ (us.getD i ([], 0)).1.length ≤ 1048576
def textT (u : List Int × Int) : List UInt8 := intsT u.1 ++ [58] ++ Lib.itoa u.2
def termsT (us : List (List Int × Int)) : List UInt8 := Lib.join (us.map textT) [44, 32]
theorem intsT_len (xs : List Int) (h : Small xs) : (intsT xs).length ≤ xs.length * 22 := by
  have := intsT_length xs h xs.length
  rwa [List.take_length] at this
theorem textT_length (us : List (List Int × Int)) (h : SmallT us) (i : Nat) (hi : i < us.length) : (textT (us.getD i ([], 0))).length ≤ 23068700 := by
  obtain ⟨h1, h2, h3, h4⟩ := h i hi
  have a1 := intsT_len _ h1
  have a2 := itoa_length _ h2 h3
  unfold textT
  simp only [List.length_append, List.length_cons, List.length_nil]
  omega
theorem termsT_length (us : List (List Int × Int)) (h : SmallT us) (k : Nat) : (termsT (us.take k)).length ≤ k * 23068702 := by
  refine Nat.le_trans (join_length _ [44, 32] 23068702 ?_) ?_
  · intro x hx
    simp only [List.mem_map] at hx
    obtain ⟨y, hy, rfl⟩ := hx
    obtain ⟨i, hi, rfl⟩ := List.mem_iff_getElem.1 (List.mem_of_mem_take hy)
    have := textT_length us h i hi
    rw [List.getD_eq_getElem?_getD, List.getElem?_eq_getElem hi] at this
    simp at this ⊢
    omega
  · simp only [List.length_map, List.length_take]
    exact Nat.mul_le_mul_right _ (Nat.min_le_left _ _)
theorem termsT_succ (us : List (List Int × Int)) (k : Nat) (hk : k < us.length) : termsT (us.take (k + 1)) = if k = 0 then textT (us.getD k ([], 0)) else termsT (us.take k) ++ [44, 32] ++ textT (us.getD k ([], 0)) := by
  unfold termsT
  have e : us.getD k ([], 0) = us[k] := by simp [hk]
  rw [List.take_succ_eq_append_getElem hk, List.map_append, e]
  split
  · rename_i h; subst h; simp [Lib.join_one]
  · rename_i h
    exact join_snoc _ _ _ (by intro e; have := congrArg List.length e; simp at this; rcases this with h1 | h1; exact h h1; subst h1; simp at hk)

set_option maxRecDepth 100000 in
set_option maxHeartbeats 2000000 in
theorem sTermsText_any (a : Option Addr) (n c : Nat) (us : List (List Int × Int)) (w : World) (h : TermsAt w a n us) (hs : SmallT us) (hn : n ≤ 1048576) :
    Calls Tryd.prog 6 #[.slice a n c] w fun e w' => e = .returned (.string (str (termsT us))) ∧ Ext w w' := by
  have G := hidP h
  have L := hidP h.len
  have HS := hidP hs
  clear h hs
  go_enter Tryd.func6, Tryd.ntmps6
  go_wp2
  go_loopw [3, 4] (fun a b wr => ∃ k : Nat, k ≤ n ∧ a = .string (str (termsT (us.take k))) ∧ b = .int .i64 k ∧ Hid (Ext w wr)) (fun _ b _ => n - (intOf b).toNat)
  case atStart => exact ⟨0, Nat.zero_le _, rfl, rfl, Ext.refl _⟩
  case round =>
    obtain ⟨k, hk, rfl, rfl, HX⟩ := hrel
    obtain ⟨wo, rfl⟩ : ∃ wo : World, wo = wr := ⟨_, rfl⟩
    by_cases hlt : k < n
    · obtain ⟨b, o, aw, cw, rfl, q0, q1, hI, _⟩ := (G.out.below HX.out).get k hlt
      obtain ⟨s1, s2, s3, s4⟩ := HS.out k (by rw [L.out]; exact hlt)
      have hlen := termsT_length us HS.out k
      have hl1 := intsT_len _ s1
      have hl2 := itoa_length _ s2 s3
      have HT := hidP (termsT_succ us k (by rw [L.out]; exact hlt))
      have HF := hidP (fun w' (hx : Ext wo w') => sFormatInts_any aw _ cw (us.getD k ([], 0)).1 w' (hI.below hx) s1 s4)
      have HG := hidP (fun w' => sFormatInt_any (us.getD k ([], 0)).2 w' s2 s3)
      have HQ := hidP (fun w' (hx : Ext wo w') => (⟨(hx.cell (p := ⟨b, o + k * 2, none⟩) (World.block_lt_of_cell? wo _ q0)).trans q0, (hx.cell (p := ⟨b, o + k * 2 + 1, none⟩) (World.block_lt_of_cell? wo _ q1)).trans q1⟩ : _ ∧ _))
      have HTT : Hid (textT (us.getD k ([], 0)) = intsT (us.getD k ([], 0)).1 ++ [58] ++ Lib.itoa (us.getD k ([], 0)).2) := rfl
      have hE : Ext wo wo.drew := Ext.drew wo
      generalize textT (us.getD k ([], 0)) = tx at *
      generalize hU : (us.getD k ([], 0)) = U at *
      clear hU q0 q1 hI s1 s2 s3
      obtain ⟨t1, ht1⟩ : ∃ t, t = intsT U.1 := ⟨_, rfl⟩
      obtain ⟨t2, ht2⟩ : ∃ t, t = Lib.itoa U.2 := ⟨_, rfl⟩
      rw [← ht1] at HF HTT hl1
      rw [← ht2] at HG HTT hl2
      clear ht1 ht2
      obtain ⟨acc, hacc⟩ : ∃ t, t = termsT (us.take k) := ⟨_, rfl⟩
      rw [← hacc] at hlen HT ⊢
      have HZ0 : Hid (k = 0 → acc = []) := by rintro rfl; rw [hacc]; rfl
      clear hacc
      have z1 : (str acc).size ≤ 30000000000000 := by rw [str_size]; omega
      have z2 : (str t1).size ≤ 23068700 := by rw [str_size]; omega
      have z3 : (str t2).size ≤ 21 := by rw [str_size]; omega
      have g1 : ¬ (9223372036854775807 < (str acc).size + 2) := by omega
      have g2 : ¬ (9223372036854775807 < (str acc).size + (str t1).size) := by omega
      have g3 : ¬ (9223372036854775807 < (str acc).size + (str t1).size + 1) := by omega
      have g4 : ¬ (9223372036854775807 < (str acc).size + (str t1).size + 1 + (str t2).size) := by omega
      have g5 : ¬ (9223372036854775807 < (str acc).size + 2 + (str t1).size) := by omega
      have g6 : ¬ (9223372036854775807 < (str acc).size + 2 + (str t1).size + 1) := by omega
      have g7 : ¬ (9223372036854775807 < (str acc).size + 2 + (str t1).size + 1 + (str t2).size) := by omega
      clear z1 z2 z3 hlen hl1 hl2
      by_cases hk0 : k = 0
      · have hT := HT.out
        rw [if_pos hk0, HTT.out] at hT
        have HT2 : Hid (str acc ++ str t1 ++ ⟨#[58]⟩ ++ str t2 = str (termsT (us.take (k + 1)))) := by
          show _ = _
          rw [hT, HZ0.out hk0, ← str_append, ← str_append]
          show str [] ++ str t1 ++ str [58] ++ str t2 = _
          rw [str_append [] t1]
          rfl
        have hkn : ¬ (0 < k) := by omega
        clear hk0 hT HT HZ0 HTT
        go_wp2
        (refine walkR_start (fun w' => Ext wo w') 16 (by kernel_rfl) ?_; simp only [numbered, List.take_succ_cons, List.take_zero, Nat.zero_add, Nat.reduceAdd, List.length_cons, List.length_nil])
        (repeat (first | (refine walkR_still (v := ?_) rfl (by decide +kernel) rfl (fun _ _ _ h => h) hE ?_ ?_; rotate_left; (focus (intro w' hw'; obtain ⟨f0, f1⟩ := HQ.out w' hw'; go_simp; all_goals (with_reducible rfl))); simp only [Act.put, List.setIfInBounds_toArray, List.set_cons_zero, List.set_cons_succ]) | (refine walkR_skip rfl (by decide +kernel) rfl (fun _ _ _ h => h) hE ?_; simp only [Act.put, List.setIfInBounds_toArray, List.set_cons_zero, List.set_cons_succ])))
        (refine walkR_later ?_; simp only [List.cons_append, List.nil_append]); (refine walkR_later ?_; simp only [List.cons_append, List.nil_append]); (refine walkR_later ?_; simp only [List.cons_append, List.nil_append])
        (repeat (first | (refine walkR_still (v := ?_) rfl (by decide +kernel) rfl (fun _ _ _ h => h) hE ?_ ?_; rotate_left; (focus (intro w' hw'; obtain ⟨f0, f1⟩ := HQ.out w' hw'; go_simp; all_goals (with_reducible rfl))); simp only [Act.put, List.setIfInBounds_toArray, List.set_cons_zero, List.set_cons_succ]) | (refine walkR_skip rfl (by decide +kernel) rfl (fun _ _ _ h => h) hE ?_; simp only [Act.put, List.setIfInBounds_toArray, List.set_cons_zero, List.set_cons_succ])))
        (refine walkR_later ?_; simp only [List.cons_append, List.nil_append]); (refine walkR_later ?_; simp only [List.cons_append, List.nil_append])
        (refine walkR_only (fun w' => Ext wo w') rfl (by decide +kernel) rfl (fun _ h => h) ?_; intro K hK; go_simp; refine (HF.out _ hE).mono ?_; rintro e w1 ⟨rfl, hx1⟩; refine hK _ _ (hE.trans hx1) ?_; clear hK K; (try simp only [Act.put, List.setIfInBounds_toArray, List.set_cons_zero, List.set_cons_succ]))
        have hE1 := hE.trans hx1
        (repeat (first | (refine walkR_still (v := ?_) rfl (by decide +kernel) rfl (fun _ _ _ h => h) hE1 ?_ ?_; rotate_left; (focus (intro w' hw'; skip; go_simp; all_goals (with_reducible rfl))); simp only [Act.put, List.setIfInBounds_toArray, List.set_cons_zero, List.set_cons_succ]) | (refine walkR_skip rfl (by decide +kernel) rfl (fun _ _ _ h => h) hE1 ?_; simp only [Act.put, List.setIfInBounds_toArray, List.set_cons_zero, List.set_cons_succ])))
        (refine walkR_only (fun w' => Ext wo w') rfl (by decide +kernel) rfl (fun _ h => h) ?_; intro K hK; go_simp; refine (HG.out _).mono ?_; rintro e w2 ⟨rfl, hx2⟩; refine hK _ _ (hE1.trans hx2) ?_; clear hK K; (try simp only [Act.put, List.setIfInBounds_toArray, List.set_cons_zero, List.set_cons_succ]))
        have hE2 := hE1.trans hx2
        (repeat (first | (refine walkR_still (v := ?_) rfl (by decide +kernel) rfl (fun _ _ _ h => h) hE2 ?_ ?_; rotate_left; (focus (intro w' hw'; skip; go_simp; all_goals (with_reducible rfl))); simp only [Act.put, List.setIfInBounds_toArray, List.set_cons_zero, List.set_cons_succ]) | (refine walkR_skip rfl (by decide +kernel) rfl (fun _ _ _ h => h) hE2 ?_; simp only [Act.put, List.setIfInBounds_toArray, List.set_cons_zero, List.set_cons_succ])))
        (refine walkR_tail (by rfl) (by kernel_rfl) ?_; simp only [List.drop_succ_cons, List.drop_zero])
        have HE2 := hidP (HX.out.trans hE2)
        clear hx1 hx2 hE1 hE hE2
        go_wp2
        go_roundw
        case rel => exact ⟨k + 1, by omega, by rw [← HT2.out], by go_num, HE2⟩
        case measure => simp [intOf]; omega
      · have hT := HT.out
        rw [if_neg hk0, HTT.out] at hT
        have HT2 : Hid (str acc ++ ⟨#[44, 32]⟩ ++ str t1 ++ ⟨#[58]⟩ ++ str t2 = str (termsT (us.take (k + 1)))) := by
          show _ = _
          rw [hT, ← str_append, ← str_append, ← str_append, ← str_append, ← ByteArray.append_assoc, ← ByteArray.append_assoc]
          rfl
        have hkp : 0 < k := by omega
        clear hk0 hT HT HZ0 HTT
        go_wp2
        (refine walkR_start (fun w' => Ext wo w') 16 (by kernel_rfl) ?_; simp only [numbered, List.take_succ_cons, List.take_zero, Nat.zero_add, Nat.reduceAdd, List.length_cons, List.length_nil])
        (repeat (first | (refine walkR_still (v := ?_) rfl (by decide +kernel) rfl (fun _ _ _ h => h) hE ?_ ?_; rotate_left; (focus (intro w' hw'; obtain ⟨f0, f1⟩ := HQ.out w' hw'; go_simp; all_goals (with_reducible rfl))); simp only [Act.put, List.setIfInBounds_toArray, List.set_cons_zero, List.set_cons_succ]) | (refine walkR_skip rfl (by decide +kernel) rfl (fun _ _ _ h => h) hE ?_; simp only [Act.put, List.setIfInBounds_toArray, List.set_cons_zero, List.set_cons_succ])))
        (refine walkR_later ?_; simp only [List.cons_append, List.nil_append]); (refine walkR_later ?_; simp only [List.cons_append, List.nil_append]); (refine walkR_later ?_; simp only [List.cons_append, List.nil_append])
        (repeat (first | (refine walkR_still (v := ?_) rfl (by decide +kernel) rfl (fun _ _ _ h => h) hE ?_ ?_; rotate_left; (focus (intro w' hw'; obtain ⟨f0, f1⟩ := HQ.out w' hw'; go_simp; all_goals (with_reducible rfl))); simp only [Act.put, List.setIfInBounds_toArray, List.set_cons_zero, List.set_cons_succ]) | (refine walkR_skip rfl (by decide +kernel) rfl (fun _ _ _ h => h) hE ?_; simp only [Act.put, List.setIfInBounds_toArray, List.set_cons_zero, List.set_cons_succ])))
        (refine walkR_later ?_; simp only [List.cons_append, List.nil_append]); (refine walkR_later ?_; simp only [List.cons_append, List.nil_append])
        (refine walkR_only (fun w' => Ext wo w') rfl (by decide +kernel) rfl (fun _ h => h) ?_; intro K hK; go_simp; refine (HF.out _ hE).mono ?_; rintro e w1 ⟨rfl, hx1⟩; refine hK _ _ (hE.trans hx1) ?_; clear hK K; (try simp only [Act.put, List.setIfInBounds_toArray, List.set_cons_zero, List.set_cons_succ]))
        have hE1 := hE.trans hx1
        (repeat (first | (refine walkR_still (v := ?_) rfl (by decide +kernel) rfl (fun _ _ _ h => h) hE1 ?_ ?_; rotate_left; (focus (intro w' hw'; skip; go_simp; all_goals (with_reducible rfl))); simp only [Act.put, List.setIfInBounds_toArray, List.set_cons_zero, List.set_cons_succ]) | (refine walkR_skip rfl (by decide +kernel) rfl (fun _ _ _ h => h) hE1 ?_; simp only [Act.put, List.setIfInBounds_toArray, List.set_cons_zero, List.set_cons_succ])))
        (refine walkR_only (fun w' => Ext wo w') rfl (by decide +kernel) rfl (fun _ h => h) ?_; intro K hK; go_simp; refine (HG.out _).mono ?_; rintro e w2 ⟨rfl, hx2⟩; refine hK _ _ (hE1.trans hx2) ?_; clear hK K; (try simp only [Act.put, List.setIfInBounds_toArray, List.set_cons_zero, List.set_cons_succ]))
        have hE2 := hE1.trans hx2
        (repeat (first | (refine walkR_still (v := ?_) rfl (by decide +kernel) rfl (fun _ _ _ h => h) hE2 ?_ ?_; rotate_left; (focus (intro w' hw'; skip; go_simp; all_goals (with_reducible rfl))); simp only [Act.put, List.setIfInBounds_toArray, List.set_cons_zero, List.set_cons_succ]) | (refine walkR_skip rfl (by decide +kernel) rfl (fun _ _ _ h => h) hE2 ?_; simp only [Act.put, List.setIfInBounds_toArray, List.set_cons_zero, List.set_cons_succ])))
        (refine walkR_tail (by rfl) (by kernel_rfl) ?_; simp only [List.drop_succ_cons, List.drop_zero])
        have HE2 := hidP (HX.out.trans hE2)
        clear hx1 hx2 hE1 hE hE2
        go_wp2
        go_roundw
        case rel => exact ⟨k + 1, by omega, by rw [← HT2.out], by go_num, HE2⟩
        case measure => simp [intOf]; omega
    · obtain rfl : k = n := by omega
      have HE : Hid (us.take k = us) := List.take_of_length_le (by rw [L.out]; exact Nat.le_refl _)
      rw [HE.out]
      go_wp2
      go_ret
      exact ⟨rfl, HX.out⟩
def termsS (us : List (List Int × Int)) : List ByteArray := us.map fun u => str (textT u)
theorem termsS_join (us : List (List Int × Int)) (sep : List UInt8) : Lib.join ((termsS us).map (·.data.toList)) sep = Lib.join (us.map textT) sep := by
  congr 1
  simp [termsS, str, Function.comp_def]
theorem termsS_snoc (us : List (List Int × Int)) (k : Nat) (hk : k < us.length) : termsS (us.take (k + 1)) = termsS (us.take k) ++ [str (textT (us.getD k ([], 0)))] := by
  unfold termsS
  have e : us.getD k ([], 0) = us[k] := by simp [hk]
  rw [List.take_succ_eq_append_getElem hk, List.map_append, e]
  rfl
set_option maxRecDepth 100000 in
set_option maxHeartbeats 2000000 in
theorem termsText_any (a : Option Addr) (n c : Nat) (us : List (List Int × Int)) (w : World) (h : TermsAt w a n us) (hs : SmallT us) (hn : n ≤ 1048576) (ht : Tab w) :
    Calls Tryd.prog 8 #[.slice a n c] w fun e w' => e = .returned (.string (str (termsT us))) ∧ Ext w w' := by
  have G := hidP h
  have L := hidP h.len
  have HS := hidP hs
  have HTb := hidP ht
  have HM := hidP (OwnS.made w w.heap.size (Nat.le_refl _))
  have HX0 := hidP (Ext.alloc w (.cells #[] 9))
  clear h hs ht
  go_enter Tryd.func8, Tryd.ntmps8
  go_wp2
  go_loopw [3, 9] (fun a b wr => ∃ (k : Nat) (av : Option Addr) (cv : Nat), k ≤ n ∧ a = .slice av k cv ∧ b = .int .i64 k ∧ Hid (OwnS wr w.heap.size av k cv (termsS (us.take k))) ∧ Hid (Ext w wr)) (fun _ b _ => n - (intOf b).toNat)
  case atStart => exact ⟨0, _, 0, Nat.zero_le _, rfl, rfl, HM, HX0⟩
  case round =>
    clear HM HX0
    obtain ⟨k, av, cv, hk, rfl, rfl, HO, HX⟩ := hrel
    by_cases hlt : k < n
    · obtain ⟨b, o, aw, cw, rfl, q0, q1, hI, _⟩ := (G.out.below HX.out).get k hlt
      obtain ⟨s1, s2, s3, s4⟩ := HS.out k (by rw [L.out]; exact hlt)
      have hl1 := intsT_len _ s1
      have hl2 := itoa_length _ s2 s3
      have HN := hidP (termsS_snoc us k (by rw [L.out]; exact hlt))
      have HTT : Hid (str (intsT (us.getD k ([], 0)).1) ++ ⟨#[58]⟩ ++ str (Lib.itoa (us.getD k ([], 0)).2) = str (textT (us.getD k ([], 0)))) := by
        show _ = _
        unfold textT
        rw [← str_append, ← str_append]
        rfl
      have HI := hidP hI
      generalize textT (us.getD k ([], 0)) = tx at *
      generalize hU : (us.getD k ([], 0)) = U at *
      clear hU hI
      go_wp2
      have hxa := Ext.alloc wr (.cells #[.slice aw U.1.length cw, .int .i64 U.2] 46)
      have HV := hidP (fun w' (hx : Ext (wr.alloc (.cells #[.slice aw U.1.length cw, .int .i64 U.2] 46)) w') => (⟨(new_cell (w' := w') (b := wr.heap.size) rfl hx 0).1.trans rfl, (new_cell (w' := w') (b := wr.heap.size) rfl hx 1).1.trans rfl⟩ : w'.cell? ⟨wr.heap.size, 0, none⟩ = some (.slice aw U.1.length cw) ∧ w'.cell? ⟨wr.heap.size, 1, none⟩ = some (.int .i64 U.2)))
      obtain ⟨wo, hwo⟩ : ∃ wo, wo = wr.alloc (.cells #[.slice aw U.1.length cw, .int .i64 U.2] 46) := ⟨_, rfl⟩
      rw [← hwo] at hxa HV ⊢
      clear hwo
      have HXo := hidP (HX.out.trans hxa)
      have HOo := hidP (HO.out.below hxa)
      have HF := hidP (fun w' (hx : Ext wo w') => formatInts_any aw _ cw U.1 w' ((HI.out.below hxa).below hx) s1 s4 (HTb.out.below (HXo.out.trans hx)))
      have HG := hidP (fun w' (hx : Ext wo w') => formatInt_any U.2 w' s2 s3 (HTb.out.below (HXo.out.trans hx)))
      have hE : Ext wo wo.drew := Ext.drew wo
      clear q0 q1 s1 s2 s3 hxa HI
      obtain ⟨t1, ht1⟩ : ∃ t, t = intsT U.1 := ⟨_, rfl⟩
      obtain ⟨t2, ht2⟩ : ∃ t, t = Lib.itoa U.2 := ⟨_, rfl⟩
      rw [← ht1] at HF HTT hl1
      rw [← ht2] at HG HTT hl2
      clear ht1 ht2
      have z2 : (str t1).size ≤ 23068700 := by rw [str_size]; omega
      have z3 : (str t2).size ≤ 21 := by rw [str_size]; omega
      have g2 : ¬ (9223372036854775807 < (str t1).size + 1) := by omega
      have g3 : ¬ (9223372036854775807 < (str t1).size + 1 + (str t2).size) := by omega
      clear z2 z3 hl1 hl2
      (refine walkR_start (fun w' => Ext wo w') 10 (by kernel_rfl) ?_; simp only [numbered, List.take_succ_cons, List.take_zero, Nat.zero_add, Nat.reduceAdd, List.length_cons, List.length_nil])
      (repeat (first | (refine walkR_still (v := ?_) rfl (by decide +kernel) rfl (fun _ _ _ h => h) hE ?_ ?_; rotate_left; (focus (intro w' hw'; obtain ⟨f0, f1⟩ := HV.out w' hw'; go_simp; all_goals (with_reducible rfl))); simp only [Act.put, List.setIfInBounds_toArray, List.set_cons_zero, List.set_cons_succ]) | (refine walkR_skip rfl (by decide +kernel) rfl (fun _ _ _ h => h) hE ?_; simp only [Act.put, List.setIfInBounds_toArray, List.set_cons_zero, List.set_cons_succ])))
      (refine walkR_later ?_; simp only [List.cons_append, List.nil_append]); (refine walkR_later ?_; simp only [List.cons_append, List.nil_append])
      (repeat (first | (refine walkR_still (v := ?_) rfl (by decide +kernel) rfl (fun _ _ _ h => h) hE ?_ ?_; rotate_left; (focus (intro w' hw'; obtain ⟨f0, f1⟩ := HV.out w' hw'; go_simp; all_goals (with_reducible rfl))); simp only [Act.put, List.setIfInBounds_toArray, List.set_cons_zero, List.set_cons_succ]) | (refine walkR_skip rfl (by decide +kernel) rfl (fun _ _ _ h => h) hE ?_; simp only [Act.put, List.setIfInBounds_toArray, List.set_cons_zero, List.set_cons_succ])))
      (refine walkR_later ?_; simp only [List.cons_append, List.nil_append]); (refine walkR_later ?_; simp only [List.cons_append, List.nil_append]); (refine walkR_later ?_; simp only [List.cons_append, List.nil_append])
      (refine walkR_only (fun w' => Ext wo w') rfl (by decide +kernel) rfl (fun _ h => h) ?_; intro K hK; go_simp; refine (HF.out _ hE).mono ?_; rintro e w1 ⟨rfl, hx1⟩; refine hK _ _ (hE.trans hx1) ?_; clear hK K; (try simp only [Act.put, List.setIfInBounds_toArray, List.set_cons_zero, List.set_cons_succ]))
      have hE1 := hE.trans hx1
      (repeat (first | (refine walkR_still (v := ?_) rfl (by decide +kernel) rfl (fun _ _ _ h => h) hE1 ?_ ?_; rotate_left; (focus (intro w' hw'; skip; go_simp; all_goals (with_reducible rfl))); simp only [Act.put, List.setIfInBounds_toArray, List.set_cons_zero, List.set_cons_succ]) | (refine walkR_skip rfl (by decide +kernel) rfl (fun _ _ _ h => h) hE1 ?_; simp only [Act.put, List.setIfInBounds_toArray, List.set_cons_zero, List.set_cons_succ])))
      (refine walkR_only (fun w' => Ext wo w') rfl (by decide +kernel) rfl (fun _ h => h) ?_; intro K hK; go_simp; refine (HG.out _ hE1).mono ?_; rintro e w2 ⟨rfl, hx2⟩; refine hK _ _ (hE1.trans hx2) ?_; clear hK K; (try simp only [Act.put, List.setIfInBounds_toArray, List.set_cons_zero, List.set_cons_succ]))
      have hE2 := hE1.trans hx2
      (repeat (first | (refine walkR_still (v := ?_) rfl (by decide +kernel) rfl (fun _ _ _ h => h) hE2 ?_ ?_; rotate_left; (focus (intro w' hw'; skip; go_simp; all_goals (with_reducible rfl))); simp only [Act.put, List.setIfInBounds_toArray, List.set_cons_zero, List.set_cons_succ]) | (refine walkR_skip rfl (by decide +kernel) rfl (fun _ _ _ h => h) hE2 ?_; simp only [Act.put, List.setIfInBounds_toArray, List.set_cons_zero, List.set_cons_succ])))
      have hx3 := Ext.alloc w2 (.cells #[.string (str t1 ++ ⟨#[58]⟩ ++ str t2)] 9)
      have HX3 := hidP (HXo.out.trans (hE2.trans hx3))
      have HO3 := hidP (HOo.out.below (hE2.trans hx3))
      have HC3 := hidP ((cell_top w2 #[.string (str t1 ++ ⟨#[58]⟩ ++ str t2)] 9 w2.heap.size 0 rfl).trans (show _ = some (Value.string (str t1 ++ ⟨#[58]⟩ ++ str t2)) from rfl))
      have hE3 := hE2.trans hx3
      clear hx1 hx2 hE hE1 hx3
      (refine walkR_only (fun w' => Ext wo w') rfl (by decide +kernel) rfl ?_ ?_)
      · exact fun _ h => h
      intro K hK
      go_simp
      refine hK _ _ hE3 ?_
      clear hK K hE2 hE3
      (try simp only [Act.put, List.setIfInBounds_toArray, List.set_cons_zero, List.set_cons_succ])
      (refine walkR_tail (by rfl) (by kernel_rfl) ?_; simp only [List.drop_succ_cons, List.drop_zero])
      go_wp2_with (at_builtin; refine wpList_append_str rfl (.tmp 13) (.tmp 22) rfl w.heap.size av k cv _ rfl HO3.out w2.heap.size 1 _ rfl HC3.out (by omega) HX3.out.size ?_; intro a4 c4 w4 ho4 hg4; have HX4 := hidP (HO3.out.ext hg4 HX3.out (Nat.le_refl _)); have HO4 := hidP ho4; clear ho4 hg4)
      rw [HTT.out, ← HN.out] at HO4
      go_roundw
      case rel => exact ⟨k + 1, a4, c4, by omega, rfl, by go_num, HO4, HX4⟩
      case measure => simp [intOf]; omega
    · obtain rfl : k = n := by omega
      have ho := HO.out
      rw [List.take_of_length_le (by rw [L.out]; exact Nat.le_refl _)] at ho
      have hl := ho.len
      obtain ⟨g, rfl, _, hgl, hnc, _, hcl⟩ := ho.form
      have hjl : (Lib.join (us.map textT) [44, 32]).length ≤ k * 23068702 := by
        have := termsT_length us HS.out k
        rw [List.take_of_length_le (by rw [L.out]; exact Nat.le_refl _)] at this
        exact this
      have hJ := Tryd.strings_Join g 0 cv (termsS us) ⟨#[44, 32]⟩ wr hcl hgl (by omega) (by omega) (by rw [termsS_join]; exact Nat.le_trans hjl (by omega))
      rw [hl, termsS_join] at hJ
      have HJ := hidP hJ
      clear hJ hjl hcl ho
      go_wp2_with fail
      refine HJ.out.mono ?_
      rintro e w1 ⟨rfl, hx1⟩
      have HX1 := hidP (HX.out.trans hx1)
      clear hx1
      go_wp2
      go_ret
      exact ⟨rfl, HX1.out⟩
end Go.Proofs.YthbdcclglopkiaaDoor
