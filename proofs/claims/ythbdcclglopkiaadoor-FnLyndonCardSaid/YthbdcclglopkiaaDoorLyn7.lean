/-
  The text of a bracketed word, by the program.
-/
import Derived.Test.YthbdcclglopkiaaDoorLyn6
import Derived.Test.YthbdcclglopkiaaDoorLyn3
namespace Go.Proofs.YthbdcclglopkiaaDoor
open Go.RowKit

/-- the text of one letter -/
def letT (x : Int) : ByteArray := ⟨#[(48 + x.toNat).toUInt8]⟩
theorem small_any (x : Int) (w : World) (h0 : 0 ≤ x) (h3 : x ≤ 3) : Calls Tryd.prog 58 #[.int .i64 x] w fun e w' => e = .returned (.string (letT x)) ∧ w = w' := by
  have hc : x = 0 ∨ x = 1 ∨ x = 2 ∨ x = 3 := by omega
  clear h0 h3
  rcases hc with rfl | rfl | rfl | rfl
  all_goals
    go_enter Tryd.func58, Tryd.ntmps58
    go_wp2
    go_ret
    exact ⟨rfl, rfl⟩
theorem formatInt64_any (x : Int) (w : World) (h0 : 0 ≤ x) (h3 : x ≤ 3) : Calls Tryd.prog 54 #[.int .i64 x, .int .i64 10] w fun e w' => e = .returned (.string (letT x)) ∧ w = w' := by
  have HS := hidP (small_any x w h0 h3)
  go_enter Tryd.func54, Tryd.ntmps54
  go_wp2_with (go_at_call 58; refine HS.out.mono ?_; rintro e w' ⟨rfl, rfl⟩)
  go_ret
  exact ⟨rfl, rfl⟩
theorem itoa1_any (x : Int) (w : World) (h0 : 0 ≤ x) (h3 : x ≤ 3) : Calls Tryd.prog 49 #[.int .i64 x] w fun e w' => e = .returned (.string (letT x)) ∧ w = w' := by
  have HS := hidP (formatInt64_any x w h0 h3)
  go_enter Tryd.func49, Tryd.ntmps49
  go_wp2_with (go_at_call 54; refine HS.out.mono ?_; rintro e w' ⟨rfl, rfl⟩)
  go_ret
  exact ⟨rfl, rfl⟩
theorem itoa_any (x : Int) (w : World) (h0 : 0 ≤ x) (h3 : x ≤ 3) : Calls Tryd.prog 40 #[.int .i64 x] w fun e w' => e = .returned (.string (letT x)) ∧ w = w' := by
  have HS := hidP (itoa1_any x w h0 h3)
  go_enter Tryd.func40, Tryd.ntmps40
  go_wp2_with (go_at_call 49; refine HS.out.mono ?_; rintro e w' ⟨rfl, rfl⟩)
  go_ret
  exact ⟨rfl, rfl⟩
theorem formatLetter_any (x : Int) (w : World) (h0 : 0 ≤ x) (h3 : x ≤ 3) : Calls Tryd.prog 26 #[.int .i64 x] w fun e w' => e = .returned (.string (letT x)) ∧ w = w' := by
  have HS := hidP (itoa_any x w h0 h3)
  go_enter Tryd.func26, Tryd.ntmps26
  go_wp2_with (go_at_call 40; refine HS.out.mono ?_; rintro e w' ⟨rfl, rfl⟩)
  go_ret
  exact ⟨rfl, rfl⟩

/-- the text of a word -/
def bra (u v : ByteArray) : ByteArray := (⟨#[91]⟩ : ByteArray) ++ u ++ (⟨#[44]⟩ : ByteArray) ++ v ++ (⟨#[93]⟩ : ByteArray)
def txt : Nat → List Int → ByteArray
  | 0, _ => ⟨#[]⟩
  | f + 1, w => if lynOk w = true then (if w.length = 1 then letT (w.getD 0 0) else bra (txt f (w.take (cutL w))) (txt f (w.drop (cutL w)))) else ⟨#[]⟩
theorem txt_no {f : Nat} {w : List Int} (h : lynOk w = false) : txt f w = ⟨#[]⟩ := by
  cases f with
  | zero => rfl
  | succ f => simp [txt, h]
theorem letT_size (x : Int) : (letT x).size = 1 := rfl
theorem bra_size (u v : ByteArray) : (bra u v).size = u.size + v.size + 3 := by
  unfold bra
  simp only [ByteArray.size_append]
  have h1 : ByteArray.size ⟨#[91]⟩ = 1 := rfl
  have h2 : ByteArray.size ⟨#[44]⟩ = 1 := rfl
  have h3 : ByteArray.size ⟨#[93]⟩ = 1 := rfl
  omega
theorem txt_size (f : Nat) (w : List Int) (h : 1 ≤ w.length) : (txt f w).size + 3 ≤ 4 * w.length := by
  induction f generalizing w with
  | zero => show 0 + 3 ≤ _; omega
  | succ f ih =>
    unfold txt
    split
    · split
      · rw [letT_size]; omega
      · obtain ⟨h1, h2⟩ := cutL_le w (by omega)
        have a1 := ih (w.take (cutL w)) (by rw [List.length_take]; omega)
        have a2 := ih (w.drop (cutL w)) (by rw [List.length_drop]; omega)
        rw [List.length_take] at a1
        rw [List.length_drop] at a2
        rw [bra_size]
        omega
    · show 0 + 3 ≤ _; omega
set_option maxRecDepth 100000 in
set_option maxHeartbeats 2000000 in
theorem bracketText_any (n : Nat) : ∀ (f : Nat) (a : Option Addr) (c : Nat) (xs : List Int) (w : World), n ≤ f → IntsAt w a n xs → n ≤ c → c ≤ maxLen → n ≤ 8 →
    Calls Tryd.prog 20 #[.slice a n c] w fun e w' => e = .returned (.string (txt f xs)) ∧ Ext w w' := by
  induction n using Nat.strongRecOn with
  | _ n ih =>
    intro f a c xs w hnf h hnc hc hn
    have HI := hidP ih
    clear ih
    have HF := hidP (isFreeWord_any a n c xs w h (by omega))
    have HL := hidP (isLyndon_any a n c xs w h hnc hc (by omega))
    have L := hidP h.len
    have HO : lynOk xs = (freeB xs && lynB xs) := rfl
    cases hb : freeB xs
    · have HT := hidP (txt_no (f := f) (show lynOk xs = false by rw [HO, hb]; rfl))
      rw [hb] at HF
      clear HO hb h
      go_enter Tryd.func20, Tryd.ntmps20
      go_wp2_with (go_at_call 31; refine HF.out.mono ?_; rintro e w' ⟨rfl, rfl⟩)
      go_ret
      exact ⟨by rw [HT.out]; rfl, Ext.refl _⟩
    · cases hl : lynB xs
      · have HT := hidP (txt_no (f := f) (show lynOk xs = false by rw [HO, hb, hl]; rfl))
        rw [hb] at HF
        rw [hl] at HL
        clear HO hb hl h
        go_enter Tryd.func20, Tryd.ntmps20
        go_wp2_with (first | (go_at_call 31; refine HF.out.mono ?_; rintro e w' ⟨rfl, rfl⟩) | (go_at_call 32; refine HL.out.mono ?_; rintro e w' ⟨rfl, rfl⟩))
        go_ret
        exact ⟨by rw [HT.out]; rfl, Ext.refl _⟩
      · have hok : lynOk xs = true := by rw [HO, hb, hl]; rfl
        have hlet : letB xs = true := by unfold freeB at hb; simp only [Bool.and_eq_true] at hb; exact hb.2
        have hn1 : 1 ≤ n := by
          unfold freeB at hb
          simp only [Bool.and_eq_true] at hb
          have := insB_true.1 hb.1
          rw [L.out] at this
          omega
        obtain ⟨f, rfl⟩ : ∃ g, f = g + 1 := ⟨f - 1, by omega⟩
        rw [hb] at HF
        rw [hl] at HL
        obtain ⟨b, o, rfl, q⟩ := h.get 0 hn1
        have H := hidP h
        have HK := hidP hok
        clear HO hb hl h hok
        by_cases h1 : n = 1
        · have HT : Hid (txt (f + 1) xs = letT (xs.getD 0 0)) := by show _ = _; rw [txt, if_pos HK.out, if_pos (by rw [L.out]; exact h1)]
          have hx0 : 0 ≤ xs.getD 0 0 ∧ xs.getD 0 0 ≤ 3 := by
            unfold letB at hlet
            simp only [Bool.not_eq_true', List.any_eq_false, Bool.not_eq_true', Bool.not_eq_false] at hlet
            have := hlet (xs.getD 0 0) (by rw [getD_lt _ (by rw [L.out]; omega)]; exact List.getElem_mem _)
            exact insB_true.1 (by simpa using this)
          rw [Nat.add_zero] at q
          subst h1
          rw [HT.out]
          generalize xs.getD 0 0 = x at *
          obtain ⟨x0, x3⟩ := hx0
          have HFL := hidP (formatLetter_any x w x0 x3)
          clear hlet
          go_enter Tryd.func20, Tryd.ntmps20
          go_wp2_with (first | (go_at_call 31; refine HF.out.mono ?_; rintro e w' ⟨rfl, rfl⟩) | (go_at_call 32; refine HL.out.mono ?_; rintro e w' ⟨rfl, rfl⟩) | (go_at_call 26; refine HFL.out.mono ?_; rintro e w' ⟨rfl, rfl⟩))
          go_ret
          exact ⟨rfl, Ext.refl _⟩
        · have HT : Hid (txt (f + 1) xs = bra (txt f (xs.take (cutL xs))) (txt f (xs.drop (cutL xs)))) := by show _ = _; rw [txt, if_pos HK.out, if_neg (by rw [L.out]; exact h1)]
          have hcl := cutL_le xs (by rw [L.out]; omega)
          rw [L.out] at hcl
          obtain ⟨hc1, hc2⟩ := hcl
          have HA := hidP (cutAt_any (some ⟨b, o, none⟩) n c xs w H.out (by omega) hnc hc (by omega))
          have hn1e : ((n : Int) == 1) = false := by rw [beq_eq_false_iff_ne]; omega
          rw [HT.out]
          unfold maxLen at hc
          clear h1 hlet q
          generalize cutL xs = m at *
          have HB1 := hidP (fun w' (hx : Ext w w') => HI.out m hc2 f (some ⟨b, o, none⟩) c (xs.take m) w' (by omega) ((H.out.below hx).first m (by omega)) (by omega) (by unfold maxLen; omega) (by omega))
          have HB2 := hidP (fun w' (hx : Ext w w') => HI.out (n - m) (by omega) f (some ⟨b, o + m, none⟩) (c - m) (xs.drop m) w' (by omega) ((H.out.below hx).dropped m (by omega)) (by omega) (by unfold maxLen; omega) (by omega))
          have hs1 := txt_size f (xs.take m) (by rw [List.length_take, L.out]; omega)
          have hs2 := txt_size f (xs.drop m) (by rw [List.length_drop, L.out]; omega)
          rw [List.length_take, L.out] at hs1
          rw [List.length_drop, L.out] at hs2
          generalize txt f (xs.take m) = t1 at *
          generalize txt f (xs.drop m) = t2 at *
          have hz1 : t1.size ≤ 32 := by omega
          have hz2 : t2.size ≤ 32 := by omega
          clear hs1 hs2
          have hg1 : ¬ (9223372036854775807 < 1 + t1.size) := by omega
          have hg2 : ¬ (9223372036854775807 < 1 + t1.size + 1) := by omega
          have hg3 : ¬ (9223372036854775807 < 1 + t1.size + 1 + t2.size) := by omega
          have hg4 : ¬ (9223372036854775807 < 1 + t1.size + 1 + t2.size + 1) := by omega
          have hE : Ext w w.drew := Ext.drew w
          have hmc : m ≤ c := by omega
          have hmn : m ≤ n := by omega
          have hne1 : ¬ c = m := by omega
          have hne2 : ¬ m = c := by omega
          clear HI HT
          go_enter Tryd.func20, Tryd.ntmps20
          go_wp2_with (first | (go_at_call 31; refine HF.out.mono ?_; rintro e w' ⟨rfl, rfl⟩) | (go_at_call 32; refine HL.out.mono ?_; rintro e w' ⟨rfl, rfl⟩) | (go_at_call 37; refine HA.out.mono ?_; rintro e w' ⟨rfl, rfl⟩))
          (refine walkR_start (fun w' => Ext w w') 12 (by kernel_rfl) ?_; simp only [numbered, List.take_succ_cons, List.take_zero, Nat.zero_add, Nat.reduceAdd, List.length_cons, List.length_nil])
          (repeat (first | (refine walkR_still (v := ?_) rfl (by decide +kernel) rfl (fun _ _ _ h => h) hE ?_ ?_; rotate_left; (focus (intro w' hw'; skip; go_simp; all_goals (with_reducible rfl))); simp only [Act.put, List.setIfInBounds_toArray, List.set_cons_zero, List.set_cons_succ]) | (refine walkR_skip rfl (by decide +kernel) rfl (fun _ _ _ h => h) hE ?_; simp only [Act.put, List.setIfInBounds_toArray, List.set_cons_zero, List.set_cons_succ])))
          (refine walkR_later ?_; simp only [List.cons_append, List.nil_append]); (refine walkR_later ?_; simp only [List.cons_append, List.nil_append]); (refine walkR_later ?_; simp only [List.cons_append, List.nil_append])
          (repeat (first | (refine walkR_still (v := ?_) rfl (by decide +kernel) rfl (fun _ _ _ h => h) hE ?_ ?_; rotate_left; (focus (intro w' hw'; skip; go_simp; all_goals (with_reducible rfl))); simp only [Act.put, List.setIfInBounds_toArray, List.set_cons_zero, List.set_cons_succ]) | (refine walkR_skip rfl (by decide +kernel) rfl (fun _ _ _ h => h) hE ?_; simp only [Act.put, List.setIfInBounds_toArray, List.set_cons_zero, List.set_cons_succ])))
          (refine walkR_later ?_; simp only [List.cons_append, List.nil_append]); (refine walkR_later ?_; simp only [List.cons_append, List.nil_append]); (refine walkR_later ?_; simp only [List.cons_append, List.nil_append])
          (refine walkR_only (fun w' => Ext w w') rfl (by decide +kernel) rfl (fun _ h => h) ?_; intro K hK; go_simp; refine (HB1.out _ hE).mono ?_; rintro e w1 ⟨rfl, hx1⟩; refine hK _ _ (hE.trans hx1) ?_; clear hK K; (try simp only [Act.put, List.setIfInBounds_toArray, List.set_cons_zero, List.set_cons_succ]))
          have HE1 := hidP (hE.trans hx1)
          clear hx1 hE
          (repeat (first | (refine walkR_still (v := ?_) rfl (by decide +kernel) rfl (fun _ _ _ h => h) HE1.out ?_ ?_; rotate_left; (focus (intro w' hw'; skip; go_simp; all_goals (with_reducible rfl))); simp only [Act.put, List.setIfInBounds_toArray, List.set_cons_zero, List.set_cons_succ]) | (refine walkR_skip rfl (by decide +kernel) rfl (fun _ _ _ h => h) HE1.out ?_; simp only [Act.put, List.setIfInBounds_toArray, List.set_cons_zero, List.set_cons_succ])))
          (refine walkR_only (fun w' => Ext w w') rfl (by decide +kernel) rfl (fun _ h => h) ?_; intro K hK; go_simp; refine (HB2.out _ HE1.out).mono ?_; rintro e w2 ⟨rfl, hx2⟩; refine hK _ _ (HE1.out.trans hx2) ?_; clear hK K; (try simp only [Act.put, List.setIfInBounds_toArray, List.set_cons_zero, List.set_cons_succ]))
          have HE2 := hidP (HE1.out.trans hx2)
          clear hx2
          (repeat (first | (refine walkR_still (v := ?_) rfl (by decide +kernel) rfl (fun _ _ _ h => h) HE2.out ?_ ?_; rotate_left; (focus (intro w' hw'; skip; go_simp; all_goals (with_reducible rfl))); simp only [Act.put, List.setIfInBounds_toArray, List.set_cons_zero, List.set_cons_succ]) | (refine walkR_skip rfl (by decide +kernel) rfl (fun _ _ _ h => h) HE2.out ?_; simp only [Act.put, List.setIfInBounds_toArray, List.set_cons_zero, List.set_cons_succ])))
          (refine walkR_tail (by rfl) (by kernel_rfl) ?_; simp only [List.drop_succ_cons, List.drop_zero])
          go_wp2
          go_ret
          exact ⟨rfl, HE2.out⟩
end Go.Proofs.YthbdcclglopkiaaDoor
