/-
  Words cut and factored by the program: CutWord, FactorWord.
-/
import Derived.Test.YthbdcclglopkiaaDoorLyn1
namespace Go.Proofs.YthbdcclglopkiaaDoor
open Go.RowKit

def cutW (xs : List Int) : List Int × List Int := if lynOk xs = true ∧ 2 ≤ xs.length then (xs.take (cutL xs), xs.drop (cutL xs)) else ([], [])
def CutRes (xs : List Int) (w : World) (e : Ending) (w' : World) : Prop := ∃ a1 n1 c1 a2 n2 c2, e = .returned (.tuple #[.slice a1 n1 c1, .slice a2 n2 c2]) ∧ OwnI w' w.heap.size a1 n1 c1 (cutW xs).1 ∧ OwnI w' w.heap.size a2 n2 c2 (cutW xs).2 ∧ Ext w w'
set_option maxHeartbeats 2000000 in
theorem cutWord_any (a : Option Addr) (n c : Nat) (xs : List Int) (w : World) (h : IntsAt w a n xs) (hnc : n ≤ c) (hc : c ≤ maxLen) (hn : n ≤ 1000000000000) :
    Calls Tryd.prog 19 #[.slice a n c] w (CutRes xs w) := by
  have HF := hidP (isFreeWord_any a n c xs w h (by omega))
  have HL := hidP (isLyndon_any a n c xs w h hnc hc hn)
  have L := hidP h.len
  have HN : (¬ (lynOk xs = true ∧ 2 ≤ n)) → CutRes xs w (.returned (.tuple #[.slice none 0 0, .slice none 0 0])) w := by
    intro hn
    have : cutW xs = ([], []) := by unfold cutW; rw [L.out, if_neg hn]
    exact ⟨none, 0, 0, none, 0, 0, rfl, by rw [this]; exact OwnI.nil _ _, by rw [this]; exact OwnI.nil _ _, Ext.refl _⟩
  have HO : lynOk xs = (freeB xs && lynB xs) := rfl
  cases hb : freeB xs
  · have HR := hidP (HN (by rw [HO, hb]; simp))
    rw [hb] at HF
    clear HN HO h hb
    go_enter Tryd.func19, Tryd.ntmps19
    go_wp2_with (go_at_call 31; refine HF.out.mono ?_; rintro e w' ⟨rfl, rfl⟩)
    go_ret2
    exact HR.out
  · by_cases h2 : n < 2
    · have HR := hidP (HN (by omega))
      rw [hb] at HF
      clear HN HO h hb
      go_enter Tryd.func19, Tryd.ntmps19
      go_wp2_with (go_at_call 31; refine HF.out.mono ?_; rintro e w' ⟨rfl, rfl⟩)
      go_ret2
      exact HR.out
    · cases hl : lynB xs
      · have HR := hidP (HN (by rw [HO, hb, hl]; simp))
        rw [hb] at HF
        rw [hl] at HL
        clear HN HO h hb hl
        go_enter Tryd.func19, Tryd.ntmps19
        go_wp2_with (first | (go_at_call 31; refine HF.out.mono ?_; rintro e w' ⟨rfl, rfl⟩) | (go_at_call 32; refine HL.out.mono ?_; rintro e w' ⟨rfl, rfl⟩))
        go_ret2
        exact HR.out
      · have HW : Hid (cutW xs = (xs.take (cutL xs), xs.drop (cutL xs))) := by
          show _ = _
          unfold cutW
          rw [if_pos ⟨by rw [HO, hb, hl]; rfl, by rw [L.out]; omega⟩]
        obtain ⟨b, o, rfl, _⟩ := h.get 0 (by omega)
        have hcl := cutL_le xs (by rw [L.out]; omega)
        rw [L.out] at hcl
        obtain ⟨hc1, hc2⟩ := hcl
        have HA := hidP (cutAt_any (some ⟨b, o, none⟩) n c xs w h (by omega) hnc hc hn)
        have H := hidP h
        rw [hb] at HF
        rw [hl] at HL
        clear HN HO h hb hl
        unfold maxLen at hc
        generalize cutL xs = m at *
        have HC1 := hidP (fun w' (hx : Ext w w') => clone_any (some ⟨b, o, none⟩) m c (xs.take m) w' ((H.out.below hx).first m (by omega)) (fun e => by cases e) (by omega))
        have HC2 := hidP (fun w' (hx : Ext w w') => clone_any (some ⟨b, o + m, none⟩) (n - m) (c - m) (xs.drop m) w' ((H.out.below hx).dropped m (by omega)) (fun e => by cases e) (by omega))
        have hE : Ext w w.drew := Ext.drew w
        have hmc : m ≤ c := by omega
        have hmn : m ≤ n := by omega
        have hne1 : ¬ c = m := by omega
        have hne2 : ¬ m = c := by omega
        go_enter Tryd.func19, Tryd.ntmps19
        go_wp2_with (first | (go_at_call 31; refine HF.out.mono ?_; rintro e w' ⟨rfl, rfl⟩) | (go_at_call 32; refine HL.out.mono ?_; rintro e w' ⟨rfl, rfl⟩) | (go_at_call 37; refine HA.out.mono ?_; rintro e w' ⟨rfl, rfl⟩))
        (refine walkR_start (fun w' => Ext w w') 8 (by kernel_rfl) ?_; simp only [numbered, List.take_succ_cons, List.take_zero, Nat.zero_add, Nat.reduceAdd, List.length_cons, List.length_nil])
        (repeat (first | (refine walkR_still (v := ?_) rfl (by decide +kernel) rfl (fun _ _ _ h => h) hE ?_ ?_; rotate_left; (focus (intro w' hw'; skip; go_simp; all_goals (with_reducible rfl))); simp only [Act.put, List.setIfInBounds_toArray, List.set_cons_zero, List.set_cons_succ]) | (refine walkR_skip rfl (by decide +kernel) rfl (fun _ _ _ h => h) hE ?_; simp only [Act.put, List.setIfInBounds_toArray, List.set_cons_zero, List.set_cons_succ])))
        (refine walkR_later ?_; simp only [List.cons_append, List.nil_append])
        (repeat (first | (refine walkR_still (v := ?_) rfl (by decide +kernel) rfl (fun _ _ _ h => h) hE ?_ ?_; rotate_left; (focus (intro w' hw'; skip; go_simp; all_goals (with_reducible rfl))); simp only [Act.put, List.setIfInBounds_toArray, List.set_cons_zero, List.set_cons_succ]) | (refine walkR_skip rfl (by decide +kernel) rfl (fun _ _ _ h => h) hE ?_; simp only [Act.put, List.setIfInBounds_toArray, List.set_cons_zero, List.set_cons_succ])))
        (refine walkR_later ?_; simp only [List.cons_append, List.nil_append])
        (refine walkR_only (fun w' => Ext w w') rfl (by decide +kernel) rfl (fun _ h => h) ?_; intro K hK; go_simp; refine (HC1.out _ hE).mono ?_; rintro e w1 ⟨a1, c1, rfl, ho1, hx1⟩; refine hK _ _ (hE.trans hx1) ?_; clear hK K; (try simp only [Act.put, List.setIfInBounds_toArray, List.set_cons_zero, List.set_cons_succ]))
        have HE1 := hidP (hE.trans hx1)
        have HO1 := hidP (ho1.base (B' := w.heap.size) (Nat.le_refl _))
        clear ho1 hx1 hE
        (refine walkR_only (fun w' => Ext w w') rfl (by decide +kernel) rfl (fun _ h => h) ?_; intro K hK; go_simp; refine (HC2.out _ HE1.out).mono ?_; rintro e w2 ⟨a2, c2, rfl, ho2, hx2⟩; refine hK _ _ (HE1.out.trans hx2) ?_; clear hK K; (try simp only [Act.put, List.setIfInBounds_toArray, List.set_cons_zero, List.set_cons_succ]))
        have HE2 := hidP (HE1.out.trans hx2)
        have HO2 := hidP (ho2.base (B' := w.heap.size) HE1.out.size)
        have HO1' := hidP (HO1.out.below hx2)
        clear ho2 hx2
        (refine walkR_tail (by rfl) (by kernel_rfl) ?_; simp only [List.drop_succ_cons, List.drop_zero])
        go_wp2
        go_ret2
        exact ⟨a1, m, c1, a2, n - m, c2, rfl, by rw [HW.out]; exact HO1'.out, by rw [HW.out]; exact HO2.out, HE2.out⟩
def slLen : Value → Nat | .slice _ n _ => n | _ => 0
def slCap : Value → Nat | .slice _ _ c => c | _ => 0
set_option maxRecDepth 100000 in
set_option maxHeartbeats 4000000 in
theorem factorWord_any (a : Option Addr) (n c : Nat) (xs : List Int) (w : World) (h : IntsAt w a n xs) (hnc : n ≤ c) (hc : c ≤ maxLen) (hn : n ≤ 1000000000) (hf : freeB xs = true) :
    Calls Tryd.prog 12 #[.slice a n c] w fun e w' => ∃ a' k c' hs, e = .returned (.slice a' k c') ∧ OwnK rowK w' w.heap.size w'.heap.size a' k c' hs (facL n xs) ∧ Ext w w' := by
  have HF := hidP (isFreeWord_any a n c xs w h (by omega))
  have L := hidP h.len
  have H := hidP h
  rw [hf] at HF
  have hn1 : 1 ≤ n := by
    unfold freeB at hf
    simp only [Bool.and_eq_true] at hf
    have := insB_true.1 hf.1
    rw [L.out] at this
    omega
  obtain ⟨b, o, rfl, _⟩ := h.get 0 hn1
  unfold maxLen at hc
  clear h hf
  go_enter Tryd.func12, Tryd.ntmps12
  go_wp2_with (go_at_call 31; refine HF.out.mono ?_; rintro e w' ⟨rfl, rfl⟩)
  have HO := hidP (OwnK.made0 rowK w)
  have hE : rowK.E = 31 := rfl
  rw [hE] at HO
  have HX0 := hidP (Ext.alloc w (.cells #[] 31))
  clear hE
  go_loopw [0, 3] (fun v u wr => ∃ (i f k : Nat) (a0 av : Option Addr) (c0 cv : Nat) (hv : List Hdr) (acc : List (List Int)), i ≤ n ∧ k ≤ i ∧ v = .slice a0 (n - i) c0 ∧ u = .slice av k cv ∧ (i < n → a0 = some ⟨b, o + i, none⟩) ∧ n - i ≤ c0 ∧ c0 ≤ c ∧ n - i ≤ f ∧ Hid (acc ++ facL f (xs.drop i) = facL n xs) ∧ Hid (OwnK rowK wr w.heap.size wr.heap.size av k cv hv acc) ∧ Hid (Ext w wr)) (fun v _ _ => slLen v)
  case atStart => exact ⟨0, n, 0, _, _, _, 0, [], [], Nat.zero_le _, Nat.le_refl _, rfl, rfl, fun _ => rfl, hnc, Nat.le_refl _, Nat.le_refl _, by show _ = _; simp, HO, HX0⟩
  case round =>
    clear HO HX0
    obtain ⟨i, f, k, a0, av, c0, cv, hv, acc, hi, hki, rfl, rfl, ha0, hc0, hc1, hif, HA, HL, HX⟩ := hrel
    obtain ⟨wo, rfl⟩ : ∃ wo : World, wo = wr := ⟨_, rfl⟩
    by_cases hlt : i < n
    · obtain rfl := ha0 hlt
      clear ha0
      obtain ⟨l, hl⟩ : ∃ l, l = n - i := ⟨_, rfl⟩
      rw [← hl] at hc0 hif ⊢
      have hl0 : 0 < l := by omega
      have HLN := hidP hl
      have HY := hidP (show IntsAt w (some ⟨b, o + i, none⟩) l (xs.drop i) from by rw [hl]; exact H.out.dropped i (by omega))
      obtain ⟨f, rfl⟩ : ∃ f', f = f' + 1 := ⟨f - 1, by omega⟩
      have hlen : (xs.drop i).length = l := HY.out.len
      have HFA : Hid (facL (f + 1) (xs.drop i) = (xs.drop i).take (lpre (xs.drop i) l) :: facL f (xs.drop (i + lpre (xs.drop i) l))) := by
        show _ = _
        rw [facL, if_neg (by omega), hlen, List.drop_drop]
      have hp1 := lpre_pos (xs.drop i) l hl0
      have hp2 := lpre_le (xs.drop i) l
      obtain ⟨p, hp⟩ : ∃ p, p = lpre (xs.drop i) l := ⟨_, rfl⟩
      rw [← hp] at HFA hp1 hp2
      have HP := hidP hp
      have hln : l ≤ n := by omega
      clear hl hlen hp
      go_wp2
      go_loop [4] (fun v => ∃ m : Nat, 1 ≤ m ∧ m ≤ l ∧ p ≤ m ∧ Hid (lpre (xs.drop i) m = p) ∧ v = .int .i64 m) (fun v => (intOf v).toNat)
      case atStart => exact ⟨l, hl0, Nat.le_refl _, hp2, HP.out.symm, rfl⟩
      case round =>
        obtain ⟨m, hm1, hml, hpm, HM, rfl⟩ := hrel
        have HC := hidP (isLyndon_any (some ⟨b, o + i, none⟩) m c0 ((xs.drop i).take m) wo ((HY.out.below HX.out).first m hml) (by omega) (by unfold maxLen; omega) (by omega))
        have hmc : m ≤ c0 := by omega
        cases hb : lynB ((xs.drop i).take m)
        · rw [hb] at HC
          have hm2 : 2 ≤ m := by
            rcases Nat.lt_or_ge m 2 with h1 | h1
            · rw [lynB_short (by rw [List.length_take]; omega)] at hb; cases hb
            · exact h1
          have HM2 : Hid (lpre (xs.drop i) (m - 1) = p) := by show _ = _; rw [← HM.out, lpre_no hb]
          have hpm2 : p ≤ m - 1 := by rw [← HM2.out]; exact lpre_le _ _
          clear hb
          go_wp2_with fail
          refine HC.out.mono ?_
          rintro e w' ⟨rfl, rfl⟩
          go_wp2
          go_round
          case rel => exact ⟨m - 1, by omega, by omega, hpm2, HM2, by go_num⟩
          case measure => simp [intOf]; omega
        · rw [hb] at HC
          obtain rfl : m = p := by rw [← HM.out, lpre_yes hm1 hb]
          clear hb
          have HCl := hidP (clone_any (some ⟨b, o + i, none⟩) m c0 ((xs.drop i).take m) wo ((HY.out.below HX.out).first m hml) (fun e => by cases e) (by omega))
          go_wp2_with fail
          refine HC.out.mono ?_
          rintro e w' ⟨rfl, rfl⟩
          go_wp2_with fail
          refine HCl.out.mono ?_
          rintro e w1 ⟨a1, c1, rfl, ho1, hx1⟩
          have HL1 := hidP (HL.out.below hx1)
          have HO1 := hidP ho1
          have HX1 := hidP (HX.out.trans hx1)
          clear ho1 hx1 HC HCl
          have hx2 := Ext.alloc w1 (.cells #[.slice a1 m c1] 31)
          have HLR : Hid (((xs.drop i).take m).length = m) := by show _ = _; rw [List.length_take, HY.out.len]; omega
          have HAC : Hid ((acc ++ [(xs.drop i).take m]) ++ facL f (xs.drop (i + m)) = facL n xs) := by
            show _ = _
            rw [List.append_assoc, List.singleton_append, ← HFA.out, HA.out]
          clear HA HFA HM HP
          have HYN : Hid (n - i - m = n - (i + m)) := by show _ = _; omega
          generalize (xs.drop i).take m = row at *
          have HL2 := hidP (HL1.out.below hx2)
          have HO2 := hidP (HO1.out.below hx2)
          have HX2 := hidP (HX1.out.trans hx2)
          have HAp : Hid (∀ q, q < k → Apart (hv.getD q (none, 0)).1 a1) := fun q hq b o b' o' e e' => by
            have := HL.out.lt q hq b o e
            have := (HO1.out.at_base b' o' e').1
            omega
          have HFr : Hid (Apart av a1) := fun b o b' o' e e' => by
            have := HL.out.olt b o e
            have := (HO1.out.at_base b' o' e').1
            omega
          have HCe : Hid (∀ q, q < rowK.size → (w1.alloc (.cells #[.slice a1 m c1] 31)).cell? ⟨w1.heap.size, q, none⟩ = (rowK.cells a1 c1 row)[q]?) := fun q hq => by
            rw [cell_top _ _ _ _ _ rfl]
            show _ = ([Value.slice a1 row.length c1])[q]?
            rw [HLR.out]
            simp
          have HR3 : Hid (OwnI (w1.alloc (.cells #[.slice a1 m c1] 31)) w.heap.size a1 row.length c1 row) := by show OwnI _ _ _ _ _ _; rw [HLR.out]; exact HO2.out.base HX.out.size
          have hlm : l - m = n - (i + m) := by have := HLN.out; omega
          have HLM := hidP hlm
          clear hx2 HL1 HO1 HX1 HO2 hlm
          by_cases hcm : c0 = m
          · subst hcm
            go_wp2_with (at_builtin; refine wpList_append_elem2 rowK 33 (.slice none 0 0) 24 rfl (.tmp 21) (.tmp 26) rfl Tryd.underlying33 Tryd.info31 rfl (by omega) w.heap.size _ av k cv hv _ rfl HL2.out w1.heap.size 1 (a1, c1) row rfl HCe.out HR3.out HAp.out HFr.out (by omega) HX2.out.size ?_; intro a3 c3 w3 ho3 hg3 _; have HX3 := hidP (HL2.out.below_grown hg3 HX2.out HX2.out.size); have HO3 := hidP ho3; clear ho3 hg3)
            go_roundw
            case rel =>
              have hl := HLN.out
              have h0 : n - (i + c0) = 0 := by omega
              exact ⟨i + c0, f, k + 1, _, a3, 0, c3, hv ++ [(a1, c1)], acc ++ [row], by omega, by omega, by rw [h0], rfl, fun h => by omega, by omega, by omega, by omega, HAC, HO3, HX3⟩
            case measure => simp [slLen]; omega
          · have hcm' : ¬ m = c0 := fun e => hcm e.symm
            go_wp2_with (at_builtin; refine wpList_append_elem2 rowK 33 (.slice none 0 0) 24 rfl (.tmp 21) (.tmp 26) rfl Tryd.underlying33 Tryd.info31 rfl (by omega) w.heap.size _ av k cv hv _ rfl HL2.out w1.heap.size 1 (a1, c1) row rfl HCe.out HR3.out HAp.out HFr.out (by omega) HX2.out.size ?_; intro a3 c3 w3 ho3 hg3 _; have HX3 := hidP (HL2.out.below_grown hg3 HX2.out HX2.out.size); have HO3 := hidP ho3; clear ho3 hg3)
            go_roundw
            case rel =>
              have hl := HLN.out
              exact ⟨i + m, f, k + 1, _, a3, c0 - m, c3, hv ++ [(a1, c1)], acc ++ [row], by omega, by omega, by rw [HLM.out], rfl, fun h => by rw [Nat.add_assoc], by omega, by omega, by omega, HAC, HO3, HX3⟩
            case measure => simp [slLen]; omega
    · obtain rfl : i = n := by omega
      have hz : i - i = 0 := Nat.sub_self _
      rw [hz]
      have HAC : Hid (acc = facL i xs) := by
        show _ = _
        rw [← HA.out, List.drop_eq_nil_of_le (by rw [L.out]; exact Nat.le_refl _)]
        cases f <;> simp [facL]
      clear HA hz ha0
      go_wp2
      go_ret
      have hk : OwnK rowK wo w.heap.size wo.heap.size av k cv hv (facL i xs) := by rw [← HAC.out]; exact HL.out
      exact ⟨av, k, cv, hv, rfl, hk, HX.out⟩
end Go.Proofs.YthbdcclglopkiaaDoor
