/-
  FnLyndon: for every code, the drawn word's factors are Lyndon words that do not rise, and make the word; the Lyndon words of a length are as many as counted; a word's cut and its bracketed text fit.
  No condition.
-/
import Derived.Test.YthbdcclglopkiaaDoorLyn7
import Derived.Test.YthbdcclglopkiaaDoorLyn8
import Derived.Test.YthbdcclglopkiaaDoorTie
import Derived.Test.YthbdcclglopkiaaDoorCards
import Derived.ChangeVars
import Derived.JoinedOf
import Derived.LaidLaws
import Derived.LaidHandle
import Derived.SevenTiedAt
import Derived.Deep.DeepLaidRun
namespace Go.Proofs.YthbdcclglopkiaaDoor.fnLyndon
open Go.ChangeShapes Go.WideShapes Go.ChangeAt Go.RowKit
set_option linter.unusedVariables false

/-- what is read of a slice of rows that a call owns, in every later world -/
theorem row_at {w w' : World} {B U : Nat} {a : Option Addr} {n c : Nat} {hs : List Hdr} {xs : List (List Int)} (h : OwnK rowK w B U a n c hs xs) (hx : Ext w w') (i : Nat) (hi : i < n) :
    ∃ g, a = some ⟨g, 0, none⟩ ∧ w'.cell? ⟨g, i, none⟩ = some (.slice (hs.getD i (none, 0)).1 (xs.getD i []).length (hs.getD i (none, 0)).2) ∧ OwnI w' B (hs.getD i (none, 0)).1 (xs.getD i []).length (hs.getD i (none, 0)).2 (xs.getD i []) := by
  obtain ⟨g, rfl, hc, _⟩ := (h.below hx).cell i 0 hi (by decide)
  rw [show i * rowK.size + 0 = i from by show i * 1 + 0 = i; omega] at hc
  exact ⟨g, rfl, hc, (h.below hx).each i hi⟩

theorem flat_ge (l : List (List Int)) (h : ∀ x ∈ l, 1 ≤ x.length) : l.length ≤ l.flatten.length := by
  induction l with
  | nil => simp
  | cons x l ih =>
    rw [List.flatten_cons, List.length_append, List.length_cons]
    have := h x (by simp)
    have := ih fun y hy => h y (by simp [hy])
    omega
theorem wpList_unguard {P : Program} {ops : Array Oper} {Q : Exit → Act → World → Prop} {a : Act} {w : World} {rest : List Oper} {o : Oper} (hw : Region.wanted o (yielded ops a.tmps) = true)
    (h : wpList P ops Q ({ o with guard := none } :: rest) a w) : wpList P ops Q (o :: rest) a w := by
  have hw2 : Region.wanted { o with guard := none } (yielded ops a.tmps) = true := rfl
  unfold wpList at *
  rw [if_pos hw]
  rw [if_pos hw2] at h
  exact h
theorem facts (xs : List Int) (n : Nat) (hf : freeB xs = true) (hl : xs.length = n) : (∀ k, k < (facL n xs).length → lynOk ((facL n xs).getD k []) = true ∧ 1 ≤ ((facL n xs).getD k []).length ∧ ((facL n xs).getD k []).length ≤ 8) ∧
    (facL n xs).flatten = xs ∧ (∀ k, k + 1 < (facL n xs).length → ¬ lexC ((facL n xs).getD k []) ((facL n xs).getD (k + 1) []) < 0) ∧ lynOk xs = decide ((facL n xs).length = 1) ∧ (1 ≤ n ∧ n ≤ 8) ∧ (facL n xs).length ≤ 8 := by
  have hf' := hf
  unfold freeB at hf
  simp only [Bool.and_eq_true] at hf
  obtain ⟨h1, h2⟩ := hf
  have h3 := insB_true.1 h1
  rw [hl] at h3
  refine ⟨fun k hk => ?_, facL_join n xs (by omega), fun k hk h => facL_down n xs (by omega) k hk ((lexC_lt _ _).1 h), ?_, by omega, ?_⟩
  · have hm : (facL n xs).getD k [] ∈ facL n xs := by
      rw [List.getD_eq_getElem?_getD, List.getElem?_eq_getElem hk]
      exact List.getElem_mem hk
    obtain ⟨a1, a2⟩ := facL_lyn n xs _ hm
    obtain ⟨i, a3⟩ := facL_sub n xs _ hm
    have hpos := List.length_pos_iff.2 a2
    have hle : ((facL n xs).getD k []).length ≤ 8 := by
      have := congrArg List.length a3
      rw [List.length_take, List.length_drop] at this
      omega
    refine ⟨?_, by omega, hle⟩
    unfold lynOk freeB
    rw [a1, insB_true.2 (by omega)]
    have := letB_sub h2 i ((facL n xs).getD k []).length
    rw [← a3] at this
    rw [this]
    rfl
  · unfold lynOk
    rw [hf']
    exact facL_one n xs (by omega) (by rintro rfl; simp at hl; omega)
  · have h4 := flat_ge (facL n xs) fun x hx => List.length_pos_iff.2 (facL_lyn n xs x hx).2
    rw [facL_join n xs (by omega)] at h4
    omega
theorem facts2 (L n : Nat) (hL : 1 ≤ L) (hL4 : L ≤ 4) (hn1 : 1 ≤ n) (hn : n ≤ 8) : (∀ k, k < (lynTo L n (L ^ n)).length → lynOk ((lynTo L n (L ^ n)).getD k []) = true ∧ ((lynTo L n (L ^ n)).getD k []).length = n) ∧
    (∀ k, k + 1 < (lynTo L n (L ^ n)).length → lexC ((lynTo L n (L ^ n)).getD k []) ((lynTo L n (L ^ n)).getD (k + 1) []) < 0) := by
  refine ⟨fun k hk => ?_, fun k hk => (lexC_lt _ _).2 (lynTo_up hL (Nat.le_refl _) k hk)⟩
  have hm : (lynTo L n (L ^ n)).getD k [] ∈ lynTo L n (L ^ n) := by
    rw [List.getD_eq_getElem?_getD, List.getElem?_eq_getElem hk]
    exact List.getElem_mem hk
  obtain ⟨h1, h2, h3⟩ := lynTo_mem hL _ hm
  refine ⟨?_, h2⟩
  unfold lynOk freeB letB
  rw [h1, h2, insB_true.2 (by omega)]
  simp only [Bool.true_and, Bool.and_true, Bool.not_eq_true', List.any_eq_false, Bool.not_eq_true', Bool.not_eq_false]
  intro x hx
  have := h3 x hx
  simpa using insB_true.2 (show (0 : Int) ≤ x ∧ x ≤ 3 by omega)
theorem facts3 (xs : List Int) (n : Nat) (hf : freeB xs = true) (hl : xs.length = n) (h : lynB xs = true) (h2 : 2 ≤ n) : lynOk (xs.take (cutL xs)) = true ∧ lynOk (xs.drop (cutL xs)) = true ∧ lexC (xs.take (cutL xs)) (xs.drop (cutL xs)) < 0 ∧
    cutW xs = (xs.take (cutL xs), xs.drop (cutL xs)) ∧ xs.take (cutL xs) ++ xs.drop (cutL xs) = xs ∧ txt 9 xs = bra (txt 8 (xs.take (cutL xs))) (txt 8 (xs.drop (cutL xs))) ∧ 1 ≤ cutL xs ∧ cutL xs < n := by
  have hok : lynOk xs = true := by unfold lynOk; rw [hf, h]; rfl
  unfold freeB at hf
  simp only [Bool.and_eq_true] at hf
  obtain ⟨g1, g2⟩ := hf
  have h3 := insB_true.1 g1
  obtain ⟨c1, c2⟩ := cutL_le xs (by omega)
  obtain ⟨s1, s2, s3⟩ := cutL_spec h (by omega)
  refine ⟨?_, ?_, (lexC_lt _ _).2 s3, ?_, List.take_append_drop _ _, ?_, c1, by omega⟩
  · unfold lynOk freeB
    have := letB_sub g2 0 (cutL xs)
    rw [List.drop_zero] at this
    rw [this, s1, insB_true.2 (by rw [List.length_take]; omega)]
    rfl
  · unfold lynOk freeB
    have := letB_sub g2 (cutL xs) xs.length
    rw [List.take_of_length_le (by rw [List.length_drop]; omega)] at this
    rw [this, s2, insB_true.2 (by rw [List.length_drop]; omega)]
    rfl
  · unfold cutW
    rw [if_pos ⟨hok, by omega⟩]
  · rw [txt, if_pos hok, if_neg (by omega)]
set_option maxRecDepth 100000 in
set_option maxHeartbeats 20000000 in
theorem walk (a : Option Addr) (n c : Nat) (bs : List Int) (w : World) (h : BytesAt w a n bs) (hnn : n ≤ 9223372036854775807) :
    Calls Tryd.prog 4 #[.slice a n c] w fun e w' => e = .returned (.bool true) ∧ Ext w w' := by
  by_cases hbig : 1048576 < n
  · have hb : decide (1048576 < n) = true := by simpa using hbig
    have HB := hidP (big_any a n c w)
    rw [hb] at HB
    clear h hb
    go_enter Tryd.func4, Tryd.ntmps4
    go_wp2_with (go_at_call 10; refine HB.out.mono ?_; rintro e w' ⟨rfl, rfl⟩)
    go_ret
    exact ⟨rfl, Ext.refl _⟩
  · have hb : decide (1048576 < n) = false := by simpa using hbig
    have HB := hidP (big_any a n c w)
    rw [hb] at HB
    have HC := hidP h
    have HD := hidP (drawLetters_any a n c bs w h (by omega))
    clear h hb
    go_enter Tryd.func4, Tryd.ntmps4
    go_wp2_with fail
    refine HB.out.mono ?_
    rintro e w' ⟨rfl, rfl⟩
    go_wp2_with fail
    refine HD.out.mono ?_
    rintro e w1 ⟨a1, n1, c1, xs, rfl, ho1, hf1, hx1⟩
    have HO1 := hidP ho1
    have HX1 := hidP hx1
    have hr1 := ho1.room
    obtain ⟨hnc1, hcm1⟩ := hr1
    obtain ⟨p1, p2, p3, p4, ⟨p5, p6⟩, p7⟩ := facts xs n1 hf1 ho1.len
    have P1 := hidP p1
    have P2 := hidP p2
    have P3 := hidP p3
    have P4 := hidP p4
    have HF1 := hidP hf1
    have HFW := hidP (factorWord_any a1 n1 c1 xs w1 ho1.ints hnc1 hcm1 (by omega) hf1)
    clear ho1 hx1 p1 p2 p3 p4 hf1 HB HD
    go_wp2_with fail
    refine HFW.out.mono ?_
    rintro e w2 ⟨a2, k2, c2, hs2, rfl, ho2, hx2⟩
    have hk2 : (facL n1 xs).length = k2 := ho2.xl
    have HO2 := hidP ho2
    have HX2 := hidP hx2
    clear ho2 hx2 HFW
    rw [hk2] at P1 P3 P4 p7
    have HK2 := hidP hk2
    clear hk2
    go_wp2
    generalize facL n1 xs = F at *
    have HM := hidP (OwnI.made w2 w2.heap.size 0 (Nat.le_refl _) (by unfold maxLen; omega))
    rw [show Array.replicate 0 (Value.int .i64 0) = #[] from rfl] at HM
    have HX3 := hidP (Ext.alloc w2 (.cells #[] 3))
    have HFL : Hid (∀ k, (F.take k).flatten.length ≤ 8) := fun k => by
      have h1 := flatten_take_le F k
      rw [P2.out, HO1.out.len] at h1
      omega
    go_loopw [5, 6] (fun v u wr => ∃ (k m : Nat) (av : Option Addr) (cv : Nat), k ≤ k2 ∧ u = .int .i64 k ∧ v = .slice av m cv ∧ Hid (OwnI wr w2.heap.size av m cv (F.take k).flatten) ∧ Hid (Ext w2 wr)) (fun _ u _ => k2 - (intOf u).toNat)
    case atStart => exact ⟨0, 0, _, _, Nat.zero_le _, rfl, rfl, HM, HX3⟩
    case round =>
      clear HM HX3
      obtain ⟨k, m, av, cv, hk, rfl, rfl, HO, HX⟩ := hrel
      obtain ⟨wo, rfl⟩ : ∃ wo : World, wo = wr := ⟨_, rfl⟩
      by_cases hlt : k < k2
      · have HRW := hidP (fun w' (hx : Ext wo w') i (hi : i < k2) => row_at HO2.out (HX.out.trans hx) i hi)
        obtain ⟨g, rfl, q, hI⟩ := HRW.out wo (Ext.refl _) k hlt
        have HCE : Hid (∀ w' (hx : Ext wo w') i (hi : i < k2), w'.cell? ⟨g, i, none⟩ = some (.slice (hs2.getD i (none, 0)).1 (F.getD i []).length (hs2.getD i (none, 0)).2)) := fun w' hx i hi => by
          obtain ⟨g', e, h2, _⟩ := HRW.out w' hx i hi
          simp only [Option.some.injEq, Addr.mk.injEq, and_true] at e
          obtain rfl := e
          exact h2
        have HIT : Hid (∀ w' (hx : Ext wo w') i (hi : i < k2), OwnI w' w1.heap.size (hs2.getD i (none, 0)).1 (F.getD i []).length (hs2.getD i (none, 0)).2 (F.getD i [])) := fun w' hx i hi => by
          obtain ⟨g', e, _, h2⟩ := HRW.out w' hx i hi
          exact h2
        have HL := hidP (fun w' (hx : Ext wo w') i (hi : i < k2) => isLyndonP_any _ _ _ _ w' (HIT.out w' hx i hi).ints (HIT.out w' hx i hi).room.1 (HIT.out w' hx i hi).room.2 (by have := (P1.out i hi).2.2; omega))
        have HLX := hidP (fun w' (hx : Ext wo w') i (hi : i + 1 < k2) => lexLess_any (hs2.getD i (none, 0)).1 (hs2.getD (i + 1) (none, 0)).1 _ _ (hs2.getD i (none, 0)).2 (hs2.getD (i + 1) (none, 0)).2 _ _ w' (HIT.out w' hx i (by omega)).ints (HIT.out w' hx (i + 1) hi).ints (by have := (P1.out i (by omega)).2.2; omega) (by have := (P1.out (i + 1) hi).2.2; omega))
        have hE : Ext wo wo.drew := Ext.drew wo
        clear q hI HRW
        go_wp2
        by_cases hk0 : k = 0
        case' pos =>
          subst hk0
          have HL0 := hidP (fun w' hx => HL.out w' hx 0 hlt)
          simp only [(P1.out 0 hlt).1] at HL0
          (refine walkR_start (fun w' => Ext wo w') 22 (by kernel_rfl) ?_; simp only [numbered, List.take_succ_cons, List.take_zero, Nat.zero_add, Nat.reduceAdd, List.length_cons, List.length_nil])
          (repeat (first | (refine walkR_still (v := ?_) rfl (by decide +kernel) rfl (fun _ _ _ h => h) hE ?_ ?_; rotate_left; (focus (intro w' hw'; have f0 := HCE.out w' hw' 0 hlt; go_simp; all_goals (with_reducible rfl))); simp only [Act.put, List.setIfInBounds_toArray, List.set_cons_zero, List.set_cons_succ]) | (refine walkR_skip rfl (by decide +kernel) rfl (fun _ _ _ h => h) hE ?_; simp only [Act.put, List.setIfInBounds_toArray, List.set_cons_zero, List.set_cons_succ])))
          (refine walkR_only (fun w' => Ext wo w') rfl (by decide +kernel) rfl (fun _ h => h) ?_; intro K hK; go_simp; refine (HL0.out _ hE).mono ?_; rintro e w' ⟨rfl, rfl⟩; refine hK _ _ (hE) ?_; clear hK K; (try simp only [Act.put, List.setIfInBounds_toArray, List.set_cons_zero, List.set_cons_succ]))
          (repeat (first | (refine walkR_still (v := ?_) rfl (by decide +kernel) rfl (fun _ _ _ h => h) hE ?_ ?_; rotate_left; (focus (intro w' hw'; have f0 := HCE.out w' hw' 0 hlt; go_simp; all_goals (with_reducible rfl))); simp only [Act.put, List.setIfInBounds_toArray, List.set_cons_zero, List.set_cons_succ]) | (refine walkR_skip rfl (by decide +kernel) rfl (fun _ _ _ h => h) hE ?_; simp only [Act.put, List.setIfInBounds_toArray, List.set_cons_zero, List.set_cons_succ])))
          (refine walkR_tail (by rfl) (by kernel_rfl) ?_; simp only [List.drop_succ_cons, List.drop_zero])
          obtain ⟨wq, hwq⟩ : ∃ wq, wq = wo.drew := ⟨_, rfl⟩
          rw [← hwq] at hE ⊢
          clear hwq
          have HEq := hidP hE
          have HOq := hidP (HO.out.below hE)
          have HIq := hidP (HIT.out wq hE 0 hlt)
          have hcq := HCE.out wq hE 0 hlt
          have HSN : Hid ((F.take (0 + 1)).flatten = (F.take 0).flatten ++ F.getD 0 []) := flatten_take_succ F 0 (by rw [HK2.out]; exact hlt)
          clear hE HL HLX HL0 HO
          obtain ⟨h1, h2⟩ : ∃ h1, h1 = hs2.getD 0 (none, 0) := ⟨_, rfl⟩
          rw [← h2] at hcq HIq
          clear h2
          have hlq := HFL.out (0 + 1)
          rw [HSN.out, List.length_append, HOq.out.len] at hlq
          generalize (F.take 0).flatten = acc at *
          have HSN2 := hidP (show acc ++ F.getD 0 [] = (F.take (0 + 1)).flatten from HSN.out.symm)
          clear HSN
          generalize F.getD 0 [] = row at *
        case' neg =>
          obtain ⟨j, rfl⟩ : ∃ j, k = j + 1 := ⟨k - 1, by omega⟩
          have HL0 := hidP (fun w' hx => HL.out w' hx (j + 1) hlt)
          simp only [(P1.out (j + 1) hlt).1] at HL0
          have HLX0 := hidP (fun w' hx => HLX.out w' hx j hlt)
          have hnl : decide (lexC (F.getD j []) (F.getD (j + 1) []) < 0) = false := by rw [decide_eq_false_iff_not]; have := P3.out j hlt; omega
          simp only [hnl] at HLX0
          have hw1 : IntKind.i64.wrap (j : Int) = (j : Int) := wrap_in (by omega) (by omega)
          have hjk : j < k2 := by omega
          have hi0 : (0 : Int) ≤ (j : Int) + 1 := by omega
          have hi1 : (j : Int) + 1 < (k2 : Int) := by omega
          have hi2 : (j : Int) < (k2 : Int) := by omega
          clear hnl hk0
          (refine walkR_start (fun w' => Ext wo w') 22 (by kernel_rfl) ?_; simp only [numbered, List.take_succ_cons, List.take_zero, Nat.zero_add, Nat.reduceAdd, List.length_cons, List.length_nil])
          (repeat (first | (refine walkR_still (v := ?_) rfl (by decide +kernel) rfl (fun _ _ _ h => h) hE ?_ ?_; rotate_left; (focus (intro w' hw'; have f0 := HCE.out w' hw' (j + 1) hlt; have f1 := HCE.out w' hw' j hjk; go_simp; all_goals (with_reducible rfl))); simp only [Act.put, List.setIfInBounds_toArray, List.set_cons_zero, List.set_cons_succ]) | (refine walkR_skip rfl (by decide +kernel) rfl (fun _ _ _ h => h) hE ?_; simp only [Act.put, List.setIfInBounds_toArray, List.set_cons_zero, List.set_cons_succ])))
          (refine walkR_only (fun w' => Ext wo w') rfl (by decide +kernel) rfl (fun _ h => h) ?_; intro K hK; go_simp; refine (HL0.out _ hE).mono ?_; rintro e w' ⟨rfl, rfl⟩; refine hK _ _ (hE) ?_; clear hK K; (try simp only [Act.put, List.setIfInBounds_toArray, List.set_cons_zero, List.set_cons_succ]))
          (repeat (first | (refine walkR_still (v := ?_) rfl (by decide +kernel) rfl (fun _ _ _ h => h) hE ?_ ?_; rotate_left; (focus (intro w' hw'; have f0 := HCE.out w' hw' (j + 1) hlt; have f1 := HCE.out w' hw' j hjk; go_simp; all_goals (with_reducible rfl))); simp only [Act.put, List.setIfInBounds_toArray, List.set_cons_zero, List.set_cons_succ]) | (refine walkR_skip rfl (by decide +kernel) rfl (fun _ _ _ h => h) hE ?_; simp only [Act.put, List.setIfInBounds_toArray, List.set_cons_zero, List.set_cons_succ])))
          (refine walkR_only (fun w' => Ext wo w') rfl (by decide +kernel) rfl (fun _ h => h) ?_; intro K hK; go_simp; refine (HLX0.out _ hE).mono ?_; rintro e wq ⟨rfl, hxq⟩; refine hK _ _ (hE.trans hxq) ?_; clear hK K; (try simp only [Act.put, List.setIfInBounds_toArray, List.set_cons_zero, List.set_cons_succ]))
          have hEq := hE.trans hxq
          (repeat (first | (refine walkR_still (v := ?_) rfl (by decide +kernel) rfl (fun _ _ _ h => h) hEq ?_ ?_; rotate_left; (focus (intro w' hw'; skip; go_simp; all_goals (with_reducible rfl))); simp only [Act.put, List.setIfInBounds_toArray, List.set_cons_zero, List.set_cons_succ]) | (refine walkR_skip rfl (by decide +kernel) rfl (fun _ _ _ h => h) hEq ?_; simp only [Act.put, List.setIfInBounds_toArray, List.set_cons_zero, List.set_cons_succ])))
          (refine walkR_tail (by rfl) (by kernel_rfl) ?_; simp only [List.drop_succ_cons, List.drop_zero])
          have HEq := hidP hEq
          have HOq := hidP (HO.out.below hEq)
          have HIq := hidP (HIT.out wq hEq (j + 1) hlt)
          have hcq := HCE.out wq hEq (j + 1) hlt
          have HSN : Hid ((F.take (j + 1 + 1)).flatten = (F.take (j + 1)).flatten ++ F.getD (j + 1) []) := flatten_take_succ F (j + 1) (by rw [HK2.out]; exact hlt)
          clear hE hEq hxq HL HLX HL0 HLX0 HO hw1
          obtain ⟨h1, h2⟩ : ∃ h1, h1 = hs2.getD (j + 1) (none, 0) := ⟨_, rfl⟩
          rw [← h2] at hcq HIq
          clear h2
          have hlq := HFL.out (j + 1 + 1)
          rw [HSN.out, List.length_append, HOq.out.len] at hlq
          generalize (F.take (j + 1)).flatten = acc at *
          have HSN2 := hidP (show acc ++ F.getD (j + 1) [] = (F.take (j + 1 + 1)).flatten from HSN.out.symm)
          clear HSN
          generalize F.getD (j + 1) [] = row at *
        all_goals
          go_wp2_with (at_builtin; refine wpList_append_ints rfl (.tmp 48) (.tmp 52) rfl w2.heap.size av m cv acc rfl HOq.out h1.1 row.length h1.2 row rfl HIq.out.ints HIq.out.nil_cap (by omega) (HX.out.trans HEq.out).size ?_; intro a7 c7 w7 ho7 hg7; have HX7 := hidP (show Ext w2 w7 from grown_ext hg7 (HX.out.trans HEq.out) (HX.out.trans HEq.out).size HOq.out.addr_base); have HO7 := hidP ho7; clear ho7 hg7)
          rw [HSN2.out] at HO7
          go_roundw
          case rel => first | exact ⟨1, _, a7, c7, by omega, by go_num, rfl, HO7, HX7⟩ | exact ⟨j + 2, _, a7, c7, by omega, by go_num, rfl, HO7, HX7⟩
          case measure => simp [intOf]; omega
      · obtain rfl : k = k2 := by omega
        have hfl : (F.take k).flatten = xs := by rw [List.take_of_length_le (by rw [HK2.out]; exact Nat.le_refl _), P2.out]
        have hoe := HO.out
        rw [hfl] at hoe
        have HO3 := hidP hoe
        have HXo := hidP ((HX2.out.trans HX.out))
        clear hoe hfl HO HX
        have HOW := hidP (HO1.out.below HXo.out)
        have HXW := hidP (HX1.out.trans HXo.out)
        have hmn : m = n1 := HO3.out.len.symm.trans HO1.out.len
        subst hmn
        have HIE := hidP (intsEq_any av a1 m m cv c1 xs xs wo HO3.out.ints HOW.out.ints (by omega) (by omega))
        simp only [beq_self_eq_true] at HIE
        have HIL := hidP (fun w' (hx : Ext wo w') => isLyndonP_any a1 m c1 xs w' (HOW.out.below hx).ints hnc1 hcm1 (by omega))
        obtain ⟨lb, hlb⟩ : ∃ lb, lb = lynOk xs := ⟨_, rfl⟩
        rw [← hlb] at HIL P4
        have HLB := hidP hlb
        have hbe : lb = ((k : Int) == 1) := by
          have := P4.out
          rw [this]
          by_cases h1 : k = 1
          · subst h1; rfl
          · have : ((k : Int) == 1) = false := by rw [beq_eq_false_iff_ne]; omega
            rw [this]
            simp [h1]
        rw [hbe] at HIL
        clear hbe
        clear hlb
        have HA0 := hidP (fun w' i (hx : Ext w w') hi => at0_any a n c i bs w' (HC.out.below hx) (by omega) hi)
        go_wp2_with fail
        refine HIE.out.mono ?_
        rintro e w3 ⟨rfl, hx3⟩
        have HX3 := hidP hx3
        clear hx3
        go_wp2_with fail
        refine (HIL.out _ HX3.out).mono ?_
        rintro e w' ⟨rfl, rfl⟩
        have HXW3 := hidP (HXW.out.trans HX3.out)
        go_wp2_with fail
        refine (HA0.out _ 0 HXW3.out (by omega)).mono ?_
        rintro e w' ⟨v1, hv1, rfl, rfl⟩
        have hL : (1 : Int) + (v1 : Int) % 4 = ((1 + v1 % 4 : Nat) : Int) := by simp
        have hL4 : 1 + v1 % 4 ≤ 4 := by omega
        have hL1 : 1 ≤ 1 + v1 % 4 := by omega
        generalize 1 + v1 % 4 = L at *
        go_wp2_with fail
        refine (HA0.out _ 1 HXW3.out (by omega)).mono ?_
        rintro e w' ⟨v2, hv2, rfl, rfl⟩
        have hN : (1 : Int) + (v2 : Int) % 6 = ((1 + v2 % 6 : Nat) : Int) := by simp
        have hN6 : 1 + v2 % 6 ≤ 6 := by omega
        have hN1 : 1 ≤ 1 + v2 % 6 := by omega
        generalize 1 + v2 % 6 = N at *
        obtain ⟨g1, g2⟩ := facts2 L N hL1 hL4 hN1 (by omega)
        have G1 := hidP g1
        have G2 := hidP g2
        have HLW := hidP (lyndonWords_any L N w3 hL1 hL4 hN1 (by omega))
        have HCN := hidP (lyndonCount_any L N)
        have HCA : Hid (((lynTo L N (L ^ N)).length : Int) = cntL L N) := by
          obtain ⟨L', rfl⟩ : ∃ q, L = q + 1 := ⟨L - 1, by omega⟩
          obtain ⟨N', rfl⟩ : ∃ q, N = q + 1 := ⟨N - 1, by omega⟩
          exact cnt_all L' (by omega) N' (by omega)
        clear g1 g2
        go_wp2_with fail
        refine HLW.out.mono ?_
        rintro e w4 ⟨a4, k4, c4, hs4, rfl, ho4, hx4⟩
        have hk4 : (lynTo L N (L ^ N)).length = k4 := ho4.xl
        have HO4 := hidP ho4
        have HX4 := hidP hx4
        rw [hk4] at G1 G2 HCA
        have HK4 := hidP hk4
        have hk4b : k4 ≤ 65536 := by
          rw [← hk4]
          refine Nat.le_trans (lynTo_length L N (L ^ N)) ?_
          exact Nat.le_trans (Nat.pow_le_pow_left hL4 N) (Nat.le_trans (Nat.pow_le_pow_right (by omega) (by omega : N ≤ 8)) (by decide))
        clear ho4 hx4 HLW hk4 hL hN
        generalize lynTo L N (L ^ N) = E at *
        have HXW4 := hidP (HXW3.out.trans HX4.out)
        go_wp2
        go_loopw [10] (fun u wr => ∃ i : Nat, i ≤ k4 ∧ u = .int .i64 i ∧ Hid (Ext w4 wr)) (fun u _ => k4 - (intOf u).toNat)
        case atStart => exact ⟨0, Nat.zero_le _, rfl, Ext.refl _⟩
        case round =>
          obtain ⟨i, hi, rfl, HX⟩ := hrel
          obtain ⟨wo, rfl⟩ : ∃ wo : World, wo = wr := ⟨_, rfl⟩
          by_cases hlt : i < k4
          · have HRW := hidP (fun w' (hx : Ext wo w') j (hj : j < k4) => row_at HO4.out (HX.out.trans hx) j hj)
            obtain ⟨g, rfl, q, hI⟩ := HRW.out wo (Ext.refl _) i hlt
            have HCE : Hid (∀ w' (hx : Ext wo w') j (hj : j < k4), w'.cell? ⟨g, j, none⟩ = some (.slice (hs4.getD j (none, 0)).1 N (hs4.getD j (none, 0)).2)) := fun w' hx j hj => by
              obtain ⟨g', e, h2, _⟩ := HRW.out w' hx j hj
              simp only [Option.some.injEq, Addr.mk.injEq, and_true] at e
              obtain rfl := e
              rw [(G1.out j hj).2] at h2
              exact h2
            have HIT : Hid (∀ w' (hx : Ext wo w') j (hj : j < k4), OwnI w' w3.heap.size (hs4.getD j (none, 0)).1 N (hs4.getD j (none, 0)).2 (E.getD j [])) := fun w' hx j hj => by
              obtain ⟨g', e, _, h2⟩ := HRW.out w' hx j hj
              rw [(G1.out j hj).2] at h2
              exact h2
            have HL := hidP (fun w' (hx : Ext wo w') j (hj : j < k4) => isLyndonP_any _ _ _ _ w' (HIT.out w' hx j hj).ints (HIT.out w' hx j hj).room.1 (HIT.out w' hx j hj).room.2 (by omega))
            have HLX := hidP (fun w' (hx : Ext wo w') j (hj : j + 1 < k4) => lexLess_any (hs4.getD j (none, 0)).1 (hs4.getD (j + 1) (none, 0)).1 _ _ (hs4.getD j (none, 0)).2 (hs4.getD (j + 1) (none, 0)).2 _ _ w' (HIT.out w' hx j (by omega)).ints (HIT.out w' hx (j + 1) hj).ints (by omega) (by omega))
            have hE : Ext wo wo.drew := Ext.drew wo
            clear q hI HRW
            go_wp2
            by_cases hk0 : i = 0
            · subst hk0
              have HL0 := hidP (fun w' hx => HL.out w' hx 0 hlt)
              simp only [(G1.out 0 hlt).1] at HL0
              (refine walkR_start (fun w' => Ext wo w') 32 (by kernel_rfl) ?_; simp only [numbered, List.take_succ_cons, List.take_zero, Nat.zero_add, Nat.reduceAdd, List.length_cons, List.length_nil])
              (repeat (first | (refine walkR_still (v := ?_) rfl (by decide +kernel) rfl (fun _ _ _ h => h) hE ?_ ?_; rotate_left; (focus (intro w' hw'; have f0 := HCE.out w' hw' 0 hlt; go_simp; all_goals (with_reducible rfl))); simp only [Act.put, List.setIfInBounds_toArray, List.set_cons_zero, List.set_cons_succ]) | (refine walkR_skip rfl (by decide +kernel) rfl (fun _ _ _ h => h) hE ?_; simp only [Act.put, List.setIfInBounds_toArray, List.set_cons_zero, List.set_cons_succ])))
              (refine walkR_only (fun w' => Ext wo w') rfl (by decide +kernel) rfl (fun _ h => h) ?_; intro K hK; go_simp; refine (HL0.out _ hE).mono ?_; rintro e w' ⟨rfl, rfl⟩; refine hK _ _ (hE) ?_; clear hK K; (try simp only [Act.put, List.setIfInBounds_toArray, List.set_cons_zero, List.set_cons_succ]))
              (repeat (first | (refine walkR_still (v := ?_) rfl (by decide +kernel) rfl (fun _ _ _ h => h) hE ?_ ?_; rotate_left; (focus (intro w' hw'; have f0 := HCE.out w' hw' 0 hlt; go_simp; all_goals (with_reducible rfl))); simp only [Act.put, List.setIfInBounds_toArray, List.set_cons_zero, List.set_cons_succ]) | (refine walkR_skip rfl (by decide +kernel) rfl (fun _ _ _ h => h) hE ?_; simp only [Act.put, List.setIfInBounds_toArray, List.set_cons_zero, List.set_cons_succ])))
              (refine walkR_tail (by rfl) (by kernel_rfl) ?_; simp only [List.drop_succ_cons, List.drop_zero])
              have HEq := hidP (HX.out.trans hE)
              clear hE HL HLX HL0
              go_wp2
              go_roundw
              case rel => exact ⟨1, by omega, by go_num, HEq⟩
              case measure => simp [intOf]; omega
            · obtain ⟨j, rfl⟩ : ∃ j, i = j + 1 := ⟨i - 1, by omega⟩
              have HL0 := hidP (fun w' hx => HL.out w' hx (j + 1) hlt)
              simp only [(G1.out (j + 1) hlt).1] at HL0
              have HLX0 := hidP (fun w' hx => HLX.out w' hx j hlt)
              have hnl : decide (lexC (E.getD j []) (E.getD (j + 1) []) < 0) = true := by rw [decide_eq_true_iff]; exact G2.out j hlt
              simp only [hnl] at HLX0
              have hw1 : IntKind.i64.wrap (j : Int) = (j : Int) := wrap_in (by omega) (by omega)
              have hjk : j < k4 := by omega
              have hi0 : (0 : Int) ≤ (j : Int) + 1 := by omega
              have hi1 : (j : Int) + 1 < (k4 : Int) := by omega
              have hi2 : (j : Int) < (k4 : Int) := by omega
              clear hnl hk0
              (refine walkR_start (fun w' => Ext wo w') 32 (by kernel_rfl) ?_; simp only [numbered, List.take_succ_cons, List.take_zero, Nat.zero_add, Nat.reduceAdd, List.length_cons, List.length_nil])
              (repeat (first | (refine walkR_still (v := ?_) rfl (by decide +kernel) rfl (fun _ _ _ h => h) hE ?_ ?_; rotate_left; (focus (intro w' hw'; have f0 := HCE.out w' hw' (j + 1) hlt; have f1 := HCE.out w' hw' j hjk; go_simp; all_goals (with_reducible rfl))); simp only [Act.put, List.setIfInBounds_toArray, List.set_cons_zero, List.set_cons_succ]) | (refine walkR_skip rfl (by decide +kernel) rfl (fun _ _ _ h => h) hE ?_; simp only [Act.put, List.setIfInBounds_toArray, List.set_cons_zero, List.set_cons_succ])))
              (refine walkR_only (fun w' => Ext wo w') rfl (by decide +kernel) rfl (fun _ h => h) ?_; intro K hK; go_simp; refine (HL0.out _ hE).mono ?_; rintro e w' ⟨rfl, rfl⟩; refine hK _ _ (hE) ?_; clear hK K; (try simp only [Act.put, List.setIfInBounds_toArray, List.set_cons_zero, List.set_cons_succ]))
              (repeat (first | (refine walkR_still (v := ?_) rfl (by decide +kernel) rfl (fun _ _ _ h => h) hE ?_ ?_; rotate_left; (focus (intro w' hw'; have f0 := HCE.out w' hw' (j + 1) hlt; have f1 := HCE.out w' hw' j hjk; go_simp; all_goals (with_reducible rfl))); simp only [Act.put, List.setIfInBounds_toArray, List.set_cons_zero, List.set_cons_succ]) | (refine walkR_skip rfl (by decide +kernel) rfl (fun _ _ _ h => h) hE ?_; simp only [Act.put, List.setIfInBounds_toArray, List.set_cons_zero, List.set_cons_succ])))
              (refine walkR_only (fun w' => Ext wo w') rfl (by decide +kernel) rfl (fun _ h => h) ?_; intro K hK; go_simp; refine (HLX0.out _ hE).mono ?_; rintro e wq ⟨rfl, hxq⟩; refine hK _ _ (hE.trans hxq) ?_; clear hK K; (try simp only [Act.put, List.setIfInBounds_toArray, List.set_cons_zero, List.set_cons_succ]))
              have hEq := hE.trans hxq
              (repeat (first | (refine walkR_still (v := ?_) rfl (by decide +kernel) rfl (fun _ _ _ h => h) hEq ?_ ?_; rotate_left; (focus (intro w' hw'; skip; go_simp; all_goals (with_reducible rfl))); simp only [Act.put, List.setIfInBounds_toArray, List.set_cons_zero, List.set_cons_succ]) | (refine walkR_skip rfl (by decide +kernel) rfl (fun _ _ _ h => h) hEq ?_; simp only [Act.put, List.setIfInBounds_toArray, List.set_cons_zero, List.set_cons_succ])))
              (refine walkR_tail (by rfl) (by kernel_rfl) ?_; simp only [List.drop_succ_cons, List.drop_zero])
              have HEq := hidP (HX.out.trans hEq)
              clear hE hEq hxq HL HLX HL0 HLX0 hw1
              go_wp2
              go_roundw
              case rel => exact ⟨j + 2, by omega, by go_num, HEq⟩
              case measure => simp [intOf]; omega
          · obtain rfl : i = k4 := by omega
            have HXo4 := hidP (HXW4.out.trans HX.out)
            have HCN2 := hidP (HCN.out wo hL1 hL4 hN1 (by omega))
            rw [← HCA.out] at HCN2
            have HOW2 := hidP (HOW.out.below ((HX3.out.trans HX4.out).trans HX.out))
            have HCW := hidP (cutWord_any a1 m c1 xs wo HOW2.out.ints hnc1 hcm1 (by omega))
            clear HCN HCA
            go_wp2_with fail
            refine HCN2.out.mono ?_
            rintro e w' ⟨rfl, rfl⟩
            go_wp2_with fail
            refine HCW.out.mono ?_
            rintro e w5 ⟨a5, n5, c5, a6, n6, c6, rfl, ho5, ho6, hx5⟩
            have HO5 := hidP ho5
            have HO6 := hidP ho6
            have HX5 := hidP (HXo4.out.trans hx5)
            have HXA := hidP (((HX3.out.trans HX4.out).trans HX.out).trans hx5)
            have HOW5 := hidP (HOW2.out.below hx5)
            clear ho5 ho6 hx5 HCW HCN2
            have HIL5 := hidP (HIL.out w5 HXA.out)
            by_cases hk1 : k = 1
            · have hok : lynOk xs = true := by
                have h1 := HLB.out
                have h2 := P4.out
                rw [← h1, h2, hk1]
                rfl
              subst hk1
              by_cases hm1 : m = 1
              · have hcw : cutW xs = ([], []) := by unfold cutW; rw [if_neg (by rw [HO1.out.len]; omega)]
                have h5 := HO5.out.len
                have h6 := HO6.out.len
                rw [hcw] at h5 h6
                simp at h5 h6
                subst h5 h6 hm1
                clear hok hcw
                go_wp2_with fail
                refine HIL5.out.mono ?_
                rintro e w' ⟨rfl, rfl⟩
                go_wp2
                go_ret
                exact ⟨rfl, HX5.out⟩
              · have hm2 : ((m : Int) == 1) = false := by rw [beq_eq_false_iff_ne]; omega
                have hlb : lynB xs = true := by
                  have := hok
                  unfold lynOk at this
                  simp only [Bool.and_eq_true] at this
                  exact this.2
                obtain ⟨q1, q2, q3, q4, q5, q6, q7, q8⟩ := facts3 xs m HF1.out HO1.out.len hlb (by omega)
                rw [q4] at HO5 HO6
                have hn5 : n5 ≤ 8 := by have := HO5.out.len; simp only [List.length_take] at this; omega
                have hn6 : n6 ≤ 8 := by have := HO6.out.len; have h2 := HO1.out.len; simp only [List.length_drop] at this; omega
                have ht5 := txt_size 8 (xs.take (cutL xs)) (by rw [List.length_take, HO1.out.len]; omega)
                have ht6 := txt_size 8 (xs.drop (cutL xs)) (by rw [List.length_drop, HO1.out.len]; omega)
                have hl5 := HO5.out.len
                have hl6 := HO6.out.len
                simp only at hl5 hl6
                rw [hl5] at ht5
                rw [hl6] at ht6
                clear hl5 hl6 hok hlb q7 q8 hm1 p7
                generalize xs.take (cutL xs) = u at *
                generalize xs.drop (cutL xs) = v at *
                simp only at HO5 HO6
                have HI5 := hidP (isLyndonP_any a5 n5 c5 u w5 HO5.out.ints HO5.out.room.1 HO5.out.room.2 (by omega))
                have HI6 := hidP (isLyndonP_any a6 n6 c6 v w5 HO6.out.ints HO6.out.room.1 HO6.out.room.2 (by omega))
                rw [q1] at HI5
                rw [q2] at HI6
                have HLX := hidP (lexLess_any a5 a6 n5 n6 c5 c6 u v w5 HO5.out.ints HO6.out.ints (by omega) (by omega))
                rw [decide_eq_true q3] at HLX
                have HBW := hidP (fun w' (hx : Ext w5 w') => bracketText_any m 9 a1 c1 xs w' (by omega) (HOW5.out.below hx).ints hnc1 hcm1 (by omega))
                have HBU := hidP (fun w' (hx : Ext w5 w') => bracketText_any n5 8 a5 c5 u w' (by omega) (HO5.out.below hx).ints HO5.out.room.1 HO5.out.room.2 (by omega))
                have HBV := hidP (fun w' (hx : Ext w5 w') => bracketText_any n6 8 a6 c6 v w' (by omega) (HO6.out.below hx).ints HO6.out.room.1 HO6.out.room.2 (by omega))
                rw [q6] at HBW
                have HUV := hidP q5
                clear q1 q2 q3 q4 q5 q6
                generalize txt 8 u = t1 at *
                generalize txt 8 v = t2 at *
                have hz1 : t1.size ≤ 32 := by omega
                have hz2 : t2.size ≤ 32 := by omega
                have hg1 : ¬ (9223372036854775807 < 1 + t1.size) := by omega
                have hg2 : ¬ (9223372036854775807 < 1 + t1.size + 1) := by omega
                have hg3 : ¬ (9223372036854775807 < 1 + t1.size + 1 + t2.size) := by omega
                have hg4 : ¬ (9223372036854775807 < 1 + t1.size + 1 + t2.size + 1) := by omega
                clear ht5 ht6
                go_wp2_with fail
                refine HIL5.out.mono ?_
                rintro e w' ⟨rfl, rfl⟩
                go_wp2_with fail
                refine HI5.out.mono ?_
                rintro e w' ⟨rfl, rfl⟩
                go_wp2_with fail
                refine HI6.out.mono ?_
                rintro e w' ⟨rfl, rfl⟩
                go_wp2_with fail
                refine HLX.out.mono ?_
                rintro e w6 ⟨rfl, hx6⟩
                have hx7 := Ext.alloc w6 (.cells #[] 3)
                have hm7 := OwnI.made w6 w6.heap.size 0 (Nat.le_refl _) (by unfold maxLen; omega)
                rw [show Array.replicate 0 (Value.int .i64 0) = #[] from rfl] at hm7
                have HM7 := hidP hm7
                have HU7 := hidP (HO5.out.below (hx6.trans hx7))
                have HV7 := hidP (HO6.out.below (hx6.trans hx7))
                have HX56 := hidP hx6
                have HX7 := hidP hx7
                clear hx6 hx7 hm7
                have HV8 := hidP (fun w' (hx : Ext w5 w') => HO6.out.below hx)
                have HW8 := hidP (fun w' (hx : Ext w5 w') => HOW5.out.below hx)
                go_wp2_with (first | (at_builtin; refine wpList_unguard rfl ?_; refine wpList_append_ints rfl (.tmp 154) (.tmp 155) rfl w6.heap.size (some ⟨w6.heap.size, 0, none⟩) 0 0 [] rfl HM7.out a5 n5 c5 u rfl HU7.out.ints HU7.out.nil_cap (by omega) HX7.out.size ?_; intro a8 d8 w8 ho8 hg8; have HX8 := hidP (show Ext w6 w8 from grown_ext hg8 HX7.out HX7.out.size HM7.out.addr_base); have HX58 := hidP (HX56.out.trans HX8.out); rw [Nat.zero_add, List.nil_append] at ho8; have HO8 := hidP ho8; clear ho8 hg8) | (at_builtin; refine wpList_unguard rfl ?_; refine wpList_append_ints rfl (.tmp 156) (.tmp 157) rfl w6.heap.size a8 n5 d8 u rfl HO8.out a6 n6 c6 v rfl (HV8.out _ HX58.out).ints (HV8.out _ HX58.out).nil_cap (by omega) HX8.out.size ?_; intro a9 d9 w9 ho9 hg9; have HX9 := hidP (show Ext w6 w9 from grown_ext hg9 HX8.out HX8.out.size HO8.out.addr_base); have HO9 := hidP ho9; clear ho9 hg9))
                rw [HUV.out] at HO9
                have HX59 := hidP (HX56.out.trans HX9.out)
                have hlm : n5 + n6 = m := HO9.out.len.symm.trans HO1.out.len
                have HIE9 := hidP (intsEq_any a9 a1 (n5 + n6) m d9 c1 xs xs w9 HO9.out.ints (HW8.out _ HX59.out).ints (by omega) (by omega))
                simp only [beq_self_eq_true] at HIE9
                clear hlm
                refine HIE9.out.mono ?_
                rintro e w10 ⟨rfl, hx10⟩
                have HXb := hidP (HX59.out.trans hx10)
                clear hx10
                go_wp2_with fail
                refine (HBW.out _ HXb.out).mono ?_
                rintro e w11 ⟨rfl, hx11⟩
                have HXc := hidP (HXb.out.trans hx11)
                clear hx11
                go_wp2_with fail
                refine (HBU.out _ HXc.out).mono ?_
                rintro e w12 ⟨rfl, hx12⟩
                have HXd := hidP (HXc.out.trans hx12)
                clear hx12
                go_wp2_with fail
                refine (HBV.out _ HXd.out).mono ?_
                rintro e w13 ⟨rfl, hx13⟩
                have HXe := hidP (HX5.out.trans (HXd.out.trans hx13))
                clear hx13
                go_wp2
                go_ret
                exact ⟨ret_bool (show ((bra t1 t2).toList == (bra t1 t2).toList) = true from beq_self_eq_true _), HXe.out⟩
            · have hok : lynOk xs = false := by
                have h1 := HLB.out
                have h2 := P4.out
                rw [← h1, h2]
                simp [hk1]
              have hcw : cutW xs = ([], []) := by unfold cutW; rw [if_neg (by rw [hok]; simp)]
              have h5 := HO5.out.len
              have h6 := HO6.out.len
              rw [hcw] at h5 h6
              simp at h5 h6
              subst h5 h6
              have hkf : ((k : Int) == 1) = false := by rw [beq_eq_false_iff_ne]; omega
              clear hok hcw hk1
              go_wp2_with fail
              refine HIL5.out.mono ?_
              rintro e w' ⟨rfl, rfl⟩
              go_wp2
              go_ret
              exact ⟨rfl, HX5.out⟩

theorem own : ownKnob Tryd.prog.godebug = none := by kernel_rfl
theorem laidOut : laidOutB Tryd.prog = true := by kernel_rfl
/-! ### One start that fits: the tables as their initialisers lay them -/
def litVals : DataW Unit → List Value
  | .agg l => l.map fun x => match x with | .lit (.int k n) => Value.int k n | _ => undef
  | _ => []
noncomputable def laidWorld (os : Os) : World :=
  let w0 := World.holding Tryd.prog os ⟨#[], #[], []⟩
  let put (h : Array Obj) (g : Nat) (cs : Array Value) : Array Obj := h.modify g fun
    | .cells _ t frozen => .cells cs t frozen
    | o => o
  { w0 with heap := put (put (put (w0.heap) 2 (litVals Rows.laid_math_bits_deBruijn32tab).toArray) 3 (litVals Rows.laid_math_bits_deBruijn64tab).toArray) 1 (litVals Rows.laid_internal_strconv_uint64pow10).toArray }
theorem laid_met (os : Os) (args : Array Value) : laidMetH Tryd.prog Rows.fnLyndonRow.laid ((laidWorld os).forCall (fun _ _ => 0) ⟨#[], args, []⟩).memory :=
  laidMet_of_run3 10 (by kernel_rfl) (by kernel_rfl) (by kernel_rfl)
/-! ### THE ROW's STEP -/
set_option maxRecDepth 100000 in
theorem lifted (os : Os) (started : os.Started) (H : Type) (enc : TypeId × Value → H) :
    ReturnsInHanded {} Tryd.checked os 4 .any (fun w args => (Rows.fnLyndonSpec.pre enc Tryd.prog Tryd.f4 [] false w args ∧ laidMetH Tryd.prog Rows.fnLyndonRow.laid w) ∧ sizedMet enc Tryd.prog Tryd.f4 (OpenSpec.ofChange Rows.fnLyndonSpec) false w args)
      (Rows.fnLyndonSpec.post enc Tryd.prog Tryd.f4 false true false false) := by
  refine returnsInHanded_of_change_and (C := Tryd.checked) (X := fun w _ => laidMetH Tryd.prog Rows.fnLyndonRow.laid w) (fun _ _ _ hh h => h.of_heap hh) own started (by kernel_rfl) Tryd.func4
    (ChangeSpec.witness_at (enc := enc) (C := Tryd.checked) (os := os) (X := fun w _ => laidMetH Tryd.prog Rows.fnLyndonRow.laid w) false (laidWorld os) #[.slice none 0 0] 8 rfl (by kernel_rfl) (by kernel_rfl) (by kernel_rfl) (by kernel_rfl) (by kernel_rfl) (laid_met os _)) ?_
  intro W base args ds gs before hval0 hW _ _ hL _
  have hval : ∀ (j : Nat) t v, Tryd.f4.params[j]? = some t → args[j]? = some v → Value.okWide Tryd.prog W .any base t v := hval0
  have hW' := hW
  obtain ⟨p, q, hA0, hV, rfl, hfz, hnd⟩ := hW
  have hA : DataW.TrodAll enc Tryd.prog W 0 (fun _ => true) true Tryd.f4.params.toList args.toList ds p := hA0
  rw [Tryd.params4] at hA hval
  obtain ⟨v0, vs0, d0, ds0, p0, q0, hargs, rfl, rfl, h0, r0⟩ := trodAll_cons hA
  obtain ⟨rfl, rfl, rfl⟩ := trodAll_nil r0
  obtain rfl : args = #[v0] := by cases args; simp_all
  obtain ⟨rfl, rfl⟩ := trodVars_none hV
  have lt0 : ∀ x ∈ p0, x.block < W.heap.size := fun x hx => hW'.lt x (by simp [hx])
  obtain ⟨z0, l0, m0, rfl⟩ := okWide_slice Tryd.underlying29 (hval 0 29 v0 rfl rfl)
  obtain ⟨fuel0, hf0⟩ := id h0
  obtain ⟨e0, n0, k0, xs0, q0, i0, s0⟩ := bytes_in Tryd.underlying29 Tryd.underlying5 (by kernel_rfl) hf0
  simp only [Value.cells, List.cons.injEq, and_true, Value.slice.injEq] at q0
  obtain ⟨rfl, rfl, rfl⟩ := q0
  clear hA0 hval0
  refine (walk z0 l0 m0 xs0 W i0 s0).mono fun e W' ⟨he, bel⟩ => ?_
  subst he
  exact ⟨_, rfl, _, _, _, [], _, [], hW', trodAll_mk1 (shut_bool Tryd.underlying4 _), (trodAll_cons_mk (Below.trod laidOut (by kernel_rfl) (of_decide_eq_true (by kernel_rfl)) h0 bel lt0) trodAll_mk0), rfl, bel.frame _, fun h => by cases h⟩

theorem over : Rows.FnLyndonSaid :=
  OpenClaim.holds_of_wide 4 Tryd.f4 rfl rfl rfl rfl rfl rfl rfl ⟨rfl, rfl, rfl, rfl, rfl⟩ rfl rfl rfl rfl rfl (by kernel_rfl) Tryd.func4 (by kernel_rfl)
    (of_decide_eq_true (by kernel_rfl)) (by unfold Func.isWrapper; first | (rw [if_pos (by decide +kernel)]; kernel_rfl) | (rw [if_neg (by decide +kernel)]; exact ⟨rfl, rfl⟩))
    (fun os started H enc _ => lifted os started H enc)

/-- THE STATEMENT: the tied card -/
theorem proved : Rows.FnLyndonCardSaid :=
  Claim7.holds_tied_plain_at .later [] [.data, .data, .data] true _ false
    over (fun _ h => by cases h) (by kernel_rfl) (fun _ h => by cases h) fnLyndon_row_tie rfl ⟨rfl, rfl⟩ (by kernel_rfl) rfl
    (fun f fn hf hfn => by
      obtain rfl : f = 4 := Option.some.inj ((show Tryd.prog.funcNamed Rows.fnLyndonRow.func = some 4 by kernel_rfl).symm.trans hf) |>.symm
      obtain rfl : fn = Tryd.f4 := (Option.some.inj (Tryd.func4.symm.trans hfn)).symm
      refine ⟨by kernel_rfl, fun j t ht => ?_⟩
      have hall : (Tryd.f4.params.toList.all fun t => !Tryd.prog.wantsStandIn t) = true := by kernel_rfl
      have hm : t ∈ Tryd.f4.params.toList := by rw [Array.mem_toList_iff]; exact Array.mem_of_getElem? ht
      have := List.all_eq_true.1 hall t hm
      exact (show Tryd.prog.wantsStandIn t = false by simpa using this))
    (by kernel_rfl)
#print axioms proved

end Go.Proofs.YthbdcclglopkiaaDoor.fnLyndon
