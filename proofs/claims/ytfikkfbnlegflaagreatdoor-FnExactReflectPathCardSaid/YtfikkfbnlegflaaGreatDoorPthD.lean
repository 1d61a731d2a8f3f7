/-
  Paths put together by the program: copySteps, checked.
-/
import Derived.Test.YtfikkfbnlegflaaGreatDoorPthT
namespace Go.Proofs.YtfikkfbnlegflaaGreatDoor
open Go.RowKit

theorem take_succ_at (p : List Stp) {k : Nat} (h : k < p.length) : p.take (k + 1) = p.take k ++ [(wayAt p k, lenAt p k)] := by
  rw [List.take_succ_eq_append_getElem h, show p[k] = (wayAt p k, lenAt p k) by simp [wayAt, lenAt, List.getD_eq_getElem?_getD, h]]
theorem set_self_at (p : List Stp) (k : Nat) : p.set k (wayAt p k, lenAt p k) = p := by
  apply List.ext_getElem?
  intro j
  rw [List.getElem?_set]
  split
  · rename_i e
    subst e
    split
    · rename_i h
      simp [wayAt, lenAt, List.getD_eq_getElem?_getD, h]
    · rename_i h
      rw [List.getElem?_eq_none (by omega)]
  · rfl
theorem addS_ways {P : List Int → Prop} {o : List Stp} {s : Stp} (ho : ∀ i, i < o.length → P (wayAt o i)) (hs : P s.1) : ∀ i, i < (addS o s).length → P (wayAt (addS o s) i) := by
  by_cases h : s.2 = 0
  · rw [addS_zero _ _ h]
    exact ho
  · rcases Nat.eq_zero_or_pos o.length with h0 | h0
    · rw [addS_first h0 _ h]
      obtain rfl := List.eq_nil_of_length_eq_zero h0
      intro i hi
      obtain rfl : i = 0 := by simp at hi; omega
      exact hs
    · obtain ⟨m, hm⟩ : ∃ m, o.length = m + 1 := ⟨o.length - 1, by omega⟩
      rw [addS_at hm _ h]
      intro i hi
      split at hi <;> split
      · rw [List.length_set] at hi
        unfold wayAt
        rw [OwnK.getD_set _ _ _ _ _ (by omega)]
        split
        · exact ho m (by omega)
        · exact ho i hi
      · contradiction
      · contradiction
      · rw [List.length_append, List.length_cons, List.length_nil] at hi
        by_cases hi2 : i < o.length
        · rw [wayAt_app _ _ _ hi2]
          exact ho i hi2
        · obtain rfl : i = o.length := by omega
          rw [wayAt_snoc]
          exact hs
theorem joinTo_ways {P : List Int → Prop} {p : List Stp} (hp : ∀ i, i < p.length → P (wayAt p i)) : ∀ k, k ≤ p.length → ∀ i, i < (joinTo [] p k).length → P (wayAt (joinTo [] p k) i)
  | 0, _, i, hi => by simp [joinTo] at hi
  | k + 1, hk, i, hi => by
    rw [joinTo_succ _ _ (by omega)] at hi ⊢
    exact addS_ways (s := (wayAt p k, lenAt p k)) (joinTo_ways hp k (by omega)) (hp k (by omega)) i hi
theorem Below.own {w0 w w' : World} {N n c : Nat} {a : Option Addr} (hb : Below N w0 w) (hg : w.grownBy w' (Value.slice a n c).ownBlock) (hB : N ≤ w.heap.size) (ha : ∀ b o, a = some ⟨b, o, none⟩ → N ≤ b) (h0 : ∀ p, a = some p → ∃ b, p = ⟨b, 0, none⟩) : Below N w0 w' := by
  refine Below.grown hb hg hB fun k hk => ?_
  cases a with
  | none => simp [Value.ownBlock] at hk
  | some p =>
    obtain ⟨b, rfl⟩ := h0 p rfl
    simp only [Value.ownBlock, Option.some.injEq] at hk
    rw [← hk]
    exact ha b 0 rfl
theorem OwnK.addr {α : Type} {K : Knd α} {w : World} {B U : Nat} {a : Option Addr} {n c : Nat} {hs : List Hdr} {xs : List α} (h : OwnK K w B U a n c hs xs) : ∀ p, a = some p → ∃ b, p = ⟨b, 0, none⟩ := by
  intro p e
  rcases h.form with ⟨rfl, _⟩ | ⟨g, cur, rfl, _⟩
  · cases e
  · cases e; exact ⟨g, rfl⟩

set_option maxRecDepth 100000 in
set_option maxHeartbeats 4000000 in
theorem copySteps_any (ap : Option Addr) (np cp : Nat) (ps : List Stp) (w : World) (hp : StepsAt w ap np ps) (hN : np ≤ 100000) (hbp : ∀ k, k < np → (wayAt ps k).length ≤ 1000000) :
    Calls Tryz.prog 64 #[.slice ap np cp] w fun e w' => ∃ g c' hs', e = .returned (.slice (some ⟨g, 0, none⟩) np c') ∧ OwnK stepK w' w.heap.size w'.heap.size (some ⟨g, 0, none⟩) np c' hs' ps ∧ Ext w w' := by
  have GP := hidP hp
  have BP := hidP hbp
  clear hp hbp
  have HM0 := hidP (OwnK.made0 stepK w)
  have HX0 := hidP (Ext.alloc w (.cells #[] 69))
  go_enter Tryz.func64, Tryz.ntmps64
  go_wp2
  go_loopw [3, 9] (fun out i wr => ∃ (k g co : Nat) (hs : List Hdr), k ≤ np ∧ out = .slice (some ⟨g, 0, none⟩) k co ∧ i = .int .i64 k ∧ Hid (OwnK stepK wr w.heap.size wr.heap.size (some ⟨g, 0, none⟩) k co hs (ps.take k)) ∧ Hid (Ext w wr)) (fun _ i _ => np - (intOf i).toNat)
  case atStart => exact ⟨0, _, _, [], Nat.zero_le _, rfl, rfl, HM0, HX0⟩
  case round =>
    obtain ⟨k, g, co, hs, hk, rfl, rfl, HO, HX⟩ := hrel
    by_cases hlt : k < np
    · obtain ⟨b, o, aw, cw, W, L, rfl, HW, HL, hwl, HNl, hq⟩ := (GP.out.below HX.out).way k hlt
      have HQ := hidP hq
      obtain ⟨q1, q2, _⟩ := hq wr (Ext.refl wr)
      have hbw : Hid (W.length ≤ 1000000) := by
        show _ ≤ _
        rw [← HW.out]
        exact BP.out k hlt
      have HA2 := hidP (Ext.alloc wr (.cells #[.slice aw W.length cw, .int .i64 L] 69))
      have HS := hidP (fun w' (hx : Ext (wr.alloc (.cells #[.slice aw W.length cw, .int .i64 L] 69)) w') => (StpAt.new wr _ rfl aw W.length cw L 69).below hx)
      obtain ⟨w2, hw2⟩ : ∃ w2, w2 = wr.alloc (.cells #[.slice aw W.length cw, .int .i64 L] 69) := ⟨_, rfl⟩
      rw [← hw2] at HA2 HS
      have HCl := hidP (fun w' (hx : Ext w2 w') => clone_any aw W.length cw W w' (HQ.out w' (HA2.out.trans hx)).2.2 HNl.out (by have := hbw.out; omega))
      have HTk : Hid (ps.take (k + 1) = ps.take k ++ [(W, L)]) := by
        show _ = _
        rw [take_succ_at _ (by have := GP.out.len; omega), HW.out, HL.out]
      clear hq
      go_wp2
      rw [← hw2]
      clear hw2 q1 q2
      have hE : Ext w2 w2.drew := Ext.drew w2
      (refine walkR_start (fun w' => Ext w2 w') 8 (by kernel_rfl) ?_; simp only [numbered, List.take_succ_cons, List.take_zero, Nat.zero_add, Nat.reduceAdd, List.length_cons, List.length_nil])
      (repeat (first | (refine walkR_still (v := ?_) rfl (by decide +kernel) rfl (fun _ _ _ h => h) hE ?_ ?_; rotate_left; (focus (intro w' hw'; obtain ⟨q1, q2⟩ := HS.out w' hw'; go_simp; all_goals (with_reducible rfl))); simp only [Act.put, List.setIfInBounds_toArray, List.set_cons_zero, List.set_cons_succ]) | (refine walkR_skip rfl (by decide +kernel) rfl (fun _ _ _ h => h) hE ?_; simp only [Act.put, List.setIfInBounds_toArray, List.set_cons_zero, List.set_cons_succ])))
      (refine walkR_later ?_; simp only [List.cons_append, List.nil_append])
      (repeat (first | (refine walkR_still (v := ?_) rfl (by decide +kernel) rfl (fun _ _ _ h => h) hE ?_ ?_; rotate_left; (focus (intro w' hw'; obtain ⟨q1, q2⟩ := HS.out w' hw'; go_simp; all_goals (with_reducible rfl))); simp only [Act.put, List.setIfInBounds_toArray, List.set_cons_zero, List.set_cons_succ]) | (refine walkR_skip rfl (by decide +kernel) rfl (fun _ _ _ h => h) hE ?_; simp only [Act.put, List.setIfInBounds_toArray, List.set_cons_zero, List.set_cons_succ])))
      (refine walkR_later ?_; simp only [List.cons_append, List.nil_append]); (refine walkR_later ?_; simp only [List.cons_append, List.nil_append])
      (refine walkR_only (fun w' => Ext w2 w') rfl (by decide +kernel) rfl (fun _ h => h) ?_; intro K hK; go_simp; refine (HCl.out _ hE).mono ?_; rintro e w3 ⟨a1, c1, rfl, ho1, hx1⟩; refine hK _ _ (hE.trans hx1) ?_; clear hK K; (try simp only [Act.put, List.setIfInBounds_toArray, List.set_cons_zero, List.set_cons_succ]))
      have HE3 := hidP (HA2.out.trans ((hE.trans hx1).trans (Ext.alloc w3 (.cells #[.slice a1 W.length c1, .int .i64 L] 69))))
      have HO3 := hidP (HO.out.below HE3.out)
      have HI3 := hidP (ho1.below (Ext.alloc w3 (.cells #[.slice a1 W.length c1, .int .i64 L] 69)))
      have HAp := hidP (HO.out.new_apart ho1 (by have := HA2.out.size; simpa using this))
      have HB3 : Hid (w.heap.size ≤ w2.drew.heap.size) := Nat.le_trans HX.out.size (HA2.out.trans hE).size
      have HCe : Hid (∀ j, j < stepK.size → (w3.alloc (.cells #[.slice a1 W.length c1, .int .i64 L] 69)).cell? ⟨w3.heap.size, j, none⟩ = (stepK.cells a1 c1 (W, L))[j]?) := fun j _ => (cell_top _ _ _ _ _ rfl).trans (by simp [stepK])
      have hE3 := hE.trans hx1
      clear ho1 hx1 hE
      (repeat (first | (refine walkR_still (v := ?_) rfl (by decide +kernel) rfl (fun _ _ _ h => h) hE3 ?_ ?_; rotate_left; (focus (intro w' hw'; skip; go_simp; all_goals (with_reducible rfl))); simp only [Act.put, List.setIfInBounds_toArray, List.set_cons_zero, List.set_cons_succ]) | (refine walkR_skip rfl (by decide +kernel) rfl (fun _ _ _ h => h) hE3 ?_; simp only [Act.put, List.setIfInBounds_toArray, List.set_cons_zero, List.set_cons_succ])))
      (refine walkR_only (fun w' => Ext w2 w') rfl (by decide +kernel) rfl ?_ ?_)
      · exact fun _ h => h
      intro K hK
      go_simp
      refine hK _ _ (hE3.trans (Ext.alloc w3 (.cells #[.slice a1 W.length c1, .int .i64 L] 69))) ?_
      clear hK K
      (try simp only [Act.put, List.setIfInBounds_toArray, List.set_cons_zero, List.set_cons_succ])
      (refine walkR_tail (by rfl) (by kernel_rfl) ?_; simp only [List.drop_succ_cons, List.drop_zero])
      go_wp2_with (at_builtin; refine wpList_append_elem2 stepK 28 (.agg #[.slice none 0 0, .int .i64 0]) 32 rfl (.tmp 13) (.tmp 20) rfl Tryz.underlying28 Tryz.info69 rfl (by omega) w.heap.size _ (some ⟨g, 0, none⟩) k co hs _ rfl HO3.out w3.heap.size 1 (a1, c1) (W, L) rfl HCe.out (HI3.out.base HB3.out) HAp.out.1 HAp.out.2 (by omega) (Nat.le_trans HX.out.size HE3.out.size) ?_; intro a4 c4 w4 ho4 hg4 hn4; have HX4 := hidP (HO3.out.below_grown hg4 (HX.out.trans HE3.out) (HX.out.trans HE3.out).size); have HO4 := hidP ho4; clear ho4 hg4 hn4)
      obtain ⟨g4, rfl⟩ : ∃ g4, a4 = some ⟨g4, 0, none⟩ := by
        rcases HO4.out.form with ⟨_, h0, _⟩ | ⟨g4, _, e4, _⟩
        · omega
        · exact ⟨g4, e4⟩
      go_roundw
      case rel => exact ⟨k + 1, g4, c4, hs ++ [(a1, c1)], by omega, rfl, by go_num, by rw [HTk.out]; exact HO4.out, HX4.out⟩
      case measure => simp [intOf]; omega
    · obtain rfl : np = k := by omega
      have HT : Hid (ps.take np = ps) := List.take_of_length_le (by have := GP.out.len; omega)
      go_wp2
      go_ret
      exact ⟨g, co, hs, rfl, by rw [← HT.out]; exact HO.out, HX.out⟩

/-- the way of a place -/
def V0 (p : List Stp) (m : Nat) : List Int := wayAt p m

set_option maxRecDepth 100000 in
set_option maxHeartbeats 8000000 in
theorem checked_of (R : Nat) (ta : Option Addr) (tn tc : Nat) (ts : List Int) (B U : Nat) (ap : Option Addr) (np cp : Nat) (hs : List Hdr) (ps : List Stp) (w : World) (hp : OwnK stepK w B U ap np cp hs ps) (hB : B ≤ w.heap.size) (hN : np ≤ 100000)
    (hbp : ∀ k, k < np → (wayAt ps k).length ≤ 1000000 ∧ 0 ≤ lenAt ps k ∧ lenAt ps k ≤ 1000000) (hT : typeB R ts = true)
    (HIs : ∀ w', Ext w w' → Calls Tryz.prog 77 #[carV R ta tn tc] w' fun e w'' => e = .returned (.bool (typeB R ts)) ∧ Ext w' w'') :
    Calls Tryz.prog 92 #[carV R ta tn tc, .slice ap np cp] w fun e w' => ∃ a' n' c' hs', e = .returned (.tuple #[.slice a' n' c', .bool (chk R ps).1]) ∧ OwnK stepK w' B w'.heap.size a' n' c' hs' (chk R ps).2 ∧ Ext w w' := by
  have GP := hidP hp
  have BP := hidP hbp
  have HHs := hidP HIs
  have HT := hidP hT
  have hx1 := Ext.alloc w (.cells #[.int .i64 R, .slice ta tn tc] 31)
  have HC := hidP (fun w' (hx : Ext (w.alloc (.cells #[.int .i64 R, .slice ta tn tc] 31)) w') => (CarAt.new w _ rfl R ta tn tc 31).below hx)
  have HX1 := hidP hx1
  have HB1 : Hid (B ≤ (w.alloc (.cells #[.int .i64 R, .slice ta tn tc] 31)).heap.size) := Nat.le_trans hB hx1.size
  clear hp hbp HIs hT hB hx1
  have HM0 := hidP (OwnK.made0 stepK (w.alloc (.cells #[.int .i64 R, .slice ta tn tc] 31)))
  have HXM := hidP (Ext.alloc (w.alloc (.cells #[.int .i64 R, .slice ta tn tc] 31)) (.cells #[] 69))
  go_enter Tryz.func92, Tryz.ntmps92
  go_wp2
  obtain ⟨w1, hw1⟩ : ∃ w1, w1 = w.alloc (.cells #[.int .i64 R, .slice ta tn tc] 31) := ⟨_, rfl⟩
  have hws : w.heap.size + 1 = w1.heap.size := by rw [hw1]; simp
  rw [← hw1] at HM0 HXM HC HX1 HB1 ⊢
  have HWS := hidP hws
  clear hw1 hws
  go_loopw [6, 13] (fun out i wr => ∃ (k : Nat) (ao : Option Addr) (m co : Nat) (hso : List Hdr), k ≤ np ∧ out = .slice ao m co ∧ i = .int .i64 k ∧ Hid (OwnK stepK wr B wr.heap.size ao m co hso (joinTo [] ps k)) ∧ Hid (Ext w1 wr) ∧ Hid (∀ b o, ao = some ⟨b, o, none⟩ → w1.heap.size ≤ b) ∧ Hid (∀ i, i < m → ∃ j, j < k ∧ hso.getD i (none, 0) = hs.getD j (none, 0))) (fun _ i _ => np - (intOf i).toNat)
  case atStart => exact ⟨0, _, _, _, [], Nat.zero_le _, rfl, rfl, (by rw [HWS.out]; exact HM0.out.weaken HB1.out (Nat.le_refl _)), HXM, fun b o e => by have := HWS.out; simp only [Option.some.injEq, Addr.mk.injEq, and_true] at e; omega, fun i hi => absurd hi (Nat.not_lt_zero _)⟩
  case round =>
    obtain ⟨k, ao, m, co, hso, hk, rfl, rfl, HO, HX, HNew, HMem⟩ := hrel
    by_cases hlt : k < np
    · obtain ⟨b, al, cl, rfl, hhk, p1, p2, _, _, hwo⟩ := (GP.out.below (HX1.out.trans HX.out)).stepCell k hlt
      have Hhk := hidP hhk
      have hbw := BP.out k hlt
      have HSu : Hid (joinTo [] ps (k + 1) = addS (joinTo [] ps k) (wayAt ps k, lenAt ps k)) := joinTo_succ _ _ (by have := GP.out.xl; omega)
      have HAp : Hid (∀ i, i < m → Apart (hso.getD i (none, 0)).1 al) := by
        show ∀ i, _
        intro i hi
        obtain ⟨j, hj, e⟩ := HMem.out i hi
        rw [e]
        have := GP.out.apart j k (by omega) hlt (by omega)
        rw [hhk] at this
        exact this
      have HWo0 : Hid (∀ w', Ext w1 w' → OwnI w' B al (wayAt ps k).length cl (wayAt ps k)) := by
        show ∀ w', _
        intro w' hx
        have := ((GP.out.below HX1.out).below hx).each k hlt
        rw [hhk] at this
        exact this
      have hm : m ≤ k := by
        have := joinTo_length [] ps k
        rw [HO.out.xl] at this
        simpa using this
      have HLn : Hid (∀ i, i < m → 0 ≤ lenAt (joinTo [] ps k) i ∧ lenAt (joinTo [] ps k) i ≤ 1000000000000) := by
        show ∀ i, _
        intro i hi
        have := joinTo_lens (o := []) (p := ps) (C := 1000000) (D := 0) (fun i hi => absurd hi (by simp)) (fun j hj => (BP.out j (by have := GP.out.xl; omega)).2) k (by have := GP.out.xl; omega) (by omega) (by omega) i (by rw [HO.out.xl]; exact hi)
        omega
      have HWn : Hid (∀ i, i < m → (wayAt (joinTo [] ps k) i).length ≤ 1000000) := by
        show ∀ i, _
        intro i hi
        exact joinTo_ways (P := fun W => W.length ≤ 1000000) (fun j hj => (BP.out j (by have := GP.out.xl; omega)).1) k (by have := GP.out.xl; omega) i (by rw [HO.out.xl]; exact hi)
      obtain ⟨W, hW⟩ : ∃ W, W = wayAt ps k := ⟨_, rfl⟩
      obtain ⟨L, hL⟩ : ∃ L, L = lenAt ps k := ⟨_, rfl⟩
      rw [← hW] at p1 hwo hbw HSu HWo0
      rw [← hL] at p2 hbw HSu
      clear hW hL hhk hwo
      have HA2 := hidP (Ext.alloc wr (.cells #[.slice al W.length cl, .int .i64 L] 69))
      have HS := hidP (fun w' (hx : Ext (wr.alloc (.cells #[.slice al W.length cl, .int .i64 L] 69)) w') => (StpAt.new wr _ rfl al W.length cl L 69).below hx)
      have HO2 := hidP (HO.out.below (Ext.alloc wr (.cells #[.slice al W.length cl, .int .i64 L] 69)))
      obtain ⟨w2, hw2⟩ : ∃ w2, w2 = wr.alloc (.cells #[.slice al W.length cl, .int .i64 L] 69) := ⟨_, rfl⟩
      rw [← hw2] at HA2 HS HO2
      have HX2 := hidP (HX.out.trans HA2.out)
      have HWo := HWo0
      have hE : Ext w2 w2.drew := Ext.drew w2
      cases m with
      | zero =>
        have hlen0 : (joinTo [] ps k).length = 0 := HO.out.xl
        go_wp2
        rw [← hw2]
        clear hw2 p1 p2
        (refine walkR_start (fun w' => Ext w2 w') 12 (by kernel_rfl) ?_; simp only [numbered, List.take_succ_cons, List.take_zero, Nat.zero_add, Nat.reduceAdd, List.length_cons, List.length_nil])
        (repeat (first | (refine walkR_still (v := ?_) rfl (by decide +kernel) rfl (fun _ _ _ h => h) hE ?_ ?_; rotate_left; (focus (intro w' hw'; skip; go_simp; all_goals (with_reducible rfl))); simp only [Act.put, List.setIfInBounds_toArray, List.set_cons_zero, List.set_cons_succ]) | (refine walkR_skip rfl (by decide +kernel) rfl (fun _ _ _ h => h) hE ?_; simp only [Act.put, List.setIfInBounds_toArray, List.set_cons_zero, List.set_cons_succ])))
        (refine walkR_tail (by rfl) (by kernel_rfl) ?_; simp only [List.drop_succ_cons, List.drop_zero])
        by_cases hL : 0 < L
        · have HSu2 : Hid (joinTo [] ps (k + 1) = joinTo [] ps k ++ [(W, L)]) := by show _ = _; rw [HSu.out, addS_first hlen0 _ (by show L ≠ 0; omega)]
          obtain ⟨q1, q2⟩ := HS.out _ hE
          have HO3 := hidP (HO2.out.below hE)
          obtain ⟨w3, hw3⟩ : ∃ w3, w3 = w2.drew := ⟨_, rfl⟩
          have HE3 : Hid (Ext w2 w3) := by rw [hw3]; exact hE
          rw [← hw3] at HO3 q1 q2 ⊢
          clear hw3
          have HX4 := hidP (HX2.out.trans (HE3.out.trans (Ext.alloc w3 (.cells #[.slice al W.length cl, .int .i64 L] 69))))
          have HO4 := hidP (HO3.out.below (Ext.alloc w3 (.cells #[.slice al W.length cl, .int .i64 L] 69)))
          have HI4 := hidP (HWo.out _ HX4.out)
          have HFa := hidP (HO4.out.off_ints HI4.out)
          have HCe : Hid (∀ j, j < stepK.size → (w3.alloc (.cells #[.slice al W.length cl, .int .i64 L] 69)).cell? ⟨w3.heap.size, j, none⟩ = (stepK.cells al cl (W, L))[j]?) := fun j _ => (cell_top _ _ _ _ _ rfl).trans (by simp [stepK])
          go_wp2_with (at_builtin; refine wpList_append_elem2 stepK 28 (.agg #[.slice none 0 0, .int .i64 0]) 32 rfl (.tmp 46) (.tmp 48) rfl Tryz.underlying28 Tryz.info69 rfl (by omega) B _ ao 0 co hso _ rfl HO4.out w3.heap.size 1 (al, cl) (W, L) rfl HCe.out HI4.out HAp.out HFa.out (by omega) (Nat.le_trans HB1.out HX4.out.size) ?_; intro a5 c5 w5 ho5 hg5 hn5; have HX5 := hidP (Below.own HX4.out hg5 HX4.out.size HNew.out HO4.out.addr); have HO5 := hidP ho5; have HN5 := hidP hn5; clear ho5 hg5 hn5)
          go_roundw
          case rel =>
            refine ⟨k + 1, a5, 0 + 1, c5, hso ++ [(al, cl)], by omega, rfl, by go_num, by rw [HSu2.out]; exact HO5.out, HX5.out, fun b o e => ?_, fun i hi => ?_⟩
            · rcases HN5.out with h | h
              · exact HNew.out b o (h ▸ e)
              · exact Nat.le_trans HX4.out.size (h b o e)
            · by_cases hi2 : i < 0
              · obtain ⟨j, hj, e⟩ := HMem.out i hi2
                exact ⟨j, by omega, by rw [← e]; exact getD_left _ _ _ _ (by rw [HO.out.hl]; exact hi2)⟩
              · obtain rfl : i = 0 := by omega
                exact ⟨k, by omega, by rw [Hhk.out, getD_right _ _ _ _ (by rw [HO.out.hl]; exact Nat.le_refl _), HO.out.hl, Nat.sub_self]; rfl⟩
          case measure => simp [intOf]; omega
        · obtain rfl : L = 0 := by omega
          have HSu2 : Hid (joinTo [] ps (k + 1) = joinTo [] ps k) := by
            show _ = _
            rw [HSu.out, addS_zero _ _ rfl]
          obtain ⟨q1, q2⟩ := HS.out _ hE
          have HX4 := hidP (HX2.out.trans hE)
          have HO4 := hidP (HO2.out.below hE)
          go_wp2
          go_roundw
          case rel => exact ⟨k + 1, ao, 0, co, hso, by omega, rfl, by go_num, by rw [HSu2.out]; exact HO4.out.weaken (Nat.le_refl _) (HA2.out.trans hE).size, HX4.out, HNew.out, fun i hi => by obtain ⟨j, hj, e⟩ := HMem.out i hi; exact ⟨j, by omega, e⟩⟩
          case measure => simp [intOf]; omega
      | succ m =>
        have hlenS : (joinTo [] ps k).length = m + 1 := HO.out.xl
        obtain ⟨g, aV, cV, rfl, _, _, _, _, _, _⟩ := HO2.out.stepCell m (by omega)
        have HSt := hidP (fun w' (h : OwnK stepK w' B wr.heap.size (some ⟨g, 0, none⟩) (m + 1) co hso (joinTo [] ps k)) => h.stored m 1 (by omega) (by decide) (.int .i64 (lenAt (joinTo [] ps k) m + L)) (wayAt (joinTo [] ps k) m, lenAt (joinTo [] ps k) m + L) rfl rfl rfl)
        have HOc : Hid (∀ w', Ext w2 w' → ∃ aV cV, w'.cell? ⟨g, m * 2, none⟩ = some (.slice aV (wayAt (joinTo [] ps k) m).length cV) ∧ w'.cell? ⟨g, m * 2 + 1, none⟩ = some (.int .i64 (lenAt (joinTo [] ps k) m)) ∧ w'.frozen? ⟨g, m * 2 + 1, none⟩ = false ∧ IntsAt w' aV (wayAt (joinTo [] ps k) m).length (wayAt (joinTo [] ps k) m) ∧ hso.getD m (none, 0) = (aV, cV)) := by
          show ∀ w', _
          intro w' hx
          obtain ⟨g', aV, cV, e, hh, c1, c2, _, f2, ho⟩ := (HO2.out.below hx).stepCell m (by omega)
          simp only [Option.some.injEq, Addr.mk.injEq, and_true] at e
          obtain rfl := e
          exact ⟨aV, cV, c1, c2, f2, ho.ints, hh⟩
        obtain ⟨⟨aV, cV⟩, hVV⟩ : ∃ h : Hdr, h = hso.getD m (none, 0) := ⟨_, rfl⟩
        have hVl := HWn.out m (by omega)
        have hMl := HLn.out m (by omega)
        have HSuE : Hid (V0 (joinTo [] ps k) m = W → joinTo [] ps (k + 1) = (joinTo [] ps k).set m (wayAt (joinTo [] ps k) m, lenAt (joinTo [] ps k) m + L)) := by
          show _ → _
          intro e
          rw [HSu.out]
          by_cases h0 : L = 0
          · rw [addS_zero _ _ h0, h0, Int.add_zero, set_self_at]
          · rw [addS_at hlenS _ h0, if_pos (show wayAt (joinTo [] ps k) m = (W, L).1 from e)]
        have HSuN : Hid (V0 (joinTo [] ps k) m ≠ W → L ≠ 0 → joinTo [] ps (k + 1) = joinTo [] ps k ++ [(W, L)]) := by
          show _ → _
          intro e h0
          rw [HSu.out, addS_at hlenS _ h0, if_neg (show ¬ wayAt (joinTo [] ps k) m = (W, L).1 from e)]
        obtain ⟨V, hV⟩ : ∃ V, V = wayAt (joinTo [] ps k) m := ⟨_, rfl⟩
        obtain ⟨M, hM⟩ : ∃ M, M = lenAt (joinTo [] ps k) m := ⟨_, rfl⟩
        unfold V0 at HSuE HSuN
        rw [← hV] at HOc hVl HSt HSuE HSuN
        rw [← hM] at HOc hMl HSt HSuE
        have HOc2 : Hid (∀ w', Ext w2 w' → w'.cell? ⟨g, m * 2, none⟩ = some (.slice aV V.length cV) ∧ w'.cell? ⟨g, m * 2 + 1, none⟩ = some (.int .i64 M) ∧ w'.frozen? ⟨g, m * 2 + 1, none⟩ = false ∧ IntsAt w' aV V.length V) := by
          show ∀ w', _
          intro w' hx
          obtain ⟨a1, c1, h1, h2, h3, h4, h5⟩ := HOc.out w' hx
          rw [← hVV] at h5
          simp only [Prod.mk.injEq] at h5
          obtain ⟨rfl, rfl⟩ := h5
          exact ⟨h1, h2, h3, h4⟩
        have HEq := hidP (fun w' (hx : Ext w2 w') => (equalI_any aV al V.length cV W.length cl V W w' (HOc2.out w' hx).2.2.2 (HWo.out w' (HX2.out.trans hx)).ints (by omega) (by omega)).mono (fun (e : Ending) (w'' : World) (h : e = .returned (.bool (V == W)) ∧ ∃ m, w'' = w'.drewN m) => (⟨h.1, by obtain ⟨_, q, rfl⟩ := h; exact Ext.drewN _ _⟩ : e = .returned (.bool (V == W)) ∧ Ext w' w'')))
        have hwr : IntKind.i64.wrap (M + L) = M + L := wrap_in (by omega) (by omega)
        have hm0 : (0 : Int) ≤ (m : Int) := by omega
        have hm1 : (0 : Int) < (m : Int) + 1 := by omega
        have hm5 : (m : Int) < (m : Int) + 1 := by omega
        have hm4 : IntKind.i64.wrap (m : Int) = m := wrap_in (by omega) (by omega)
        clear hV hM hVV HOc hVl
        cases hb : (V == W)
        · rw [hb] at HEq
          have HVW : Hid (V ≠ W) := by
            show _ ≠ _
            simpa using hb
          clear hb HSt HSuE
          go_wp2
          rw [← hw2]
          clear hw2 p1 p2
          (refine walkR_start (fun w' => Ext w2 w') 12 (by kernel_rfl) ?_; simp only [numbered, List.take_succ_cons, List.take_zero, Nat.zero_add, Nat.reduceAdd, List.length_cons, List.length_nil])
          (repeat (first | (refine walkR_still (v := ?_) rfl (by decide +kernel) rfl (fun _ _ _ h => h) hE ?_ ?_; rotate_left; (focus (intro w' hw'; obtain ⟨q1, q2⟩ := HS.out w' hw'; obtain ⟨y1, y2, y3, _⟩ := HOc2.out w' hw'; go_simp; all_goals (with_reducible rfl))); simp only [Act.put, List.setIfInBounds_toArray, List.set_cons_zero, List.set_cons_succ]) | (refine walkR_skip rfl (by decide +kernel) rfl (fun _ _ _ h => h) hE ?_; simp only [Act.put, List.setIfInBounds_toArray, List.set_cons_zero, List.set_cons_succ])))
          (refine walkR_only (fun w' => Ext w2 w') rfl (by decide +kernel) rfl (fun _ h => h) ?_; intro K hK; go_simp; refine (HEq.out _ hE).mono ?_; rintro e w25 ⟨rfl, hx25⟩; refine hK _ _ (hE.trans hx25) ?_; clear hK K; (try simp only [Act.put, List.setIfInBounds_toArray, List.set_cons_zero, List.set_cons_succ]))
          have hE2 := hE.trans hx25
          clear hx25
          (repeat (first | (refine walkR_still (v := ?_) rfl (by decide +kernel) rfl (fun _ _ _ h => h) hE2 ?_ ?_; rotate_left; (focus (intro w' hw'; skip; go_simp; all_goals (with_reducible rfl))); simp only [Act.put, List.setIfInBounds_toArray, List.set_cons_zero, List.set_cons_succ]) | (refine walkR_skip rfl (by decide +kernel) rfl (fun _ _ _ h => h) hE2 ?_; simp only [Act.put, List.setIfInBounds_toArray, List.set_cons_zero, List.set_cons_succ])))
          (refine walkR_tail (by rfl) (by kernel_rfl) ?_; simp only [List.drop_succ_cons, List.drop_zero])
          by_cases hL : 0 < L
          · have HSu2 : Hid (joinTo [] ps (k + 1) = joinTo [] ps k ++ [(W, L)]) := HSuN.out HVW.out (by omega)
            obtain ⟨q1, q2⟩ := HS.out _ hE2
            have HO3 := hidP (HO2.out.below hE2)
            obtain ⟨w3, hw3⟩ : ∃ w3, w3 = w25 := ⟨_, rfl⟩
            have HE3 : Hid (Ext w2 w3) := by rw [hw3]; exact hE2
            rw [← hw3] at HO3 q1 q2 ⊢
            clear hw3
            have HX4 := hidP (HX2.out.trans (HE3.out.trans (Ext.alloc w3 (.cells #[.slice al W.length cl, .int .i64 L] 69))))
            have HO4 := hidP (HO3.out.below (Ext.alloc w3 (.cells #[.slice al W.length cl, .int .i64 L] 69)))
            have HI4 := hidP (HWo.out _ HX4.out)
            have HFa := hidP (HO4.out.off_ints HI4.out)
            have HCe : Hid (∀ j, j < stepK.size → (w3.alloc (.cells #[.slice al W.length cl, .int .i64 L] 69)).cell? ⟨w3.heap.size, j, none⟩ = (stepK.cells al cl (W, L))[j]?) := fun j _ => (cell_top _ _ _ _ _ rfl).trans (by simp [stepK])
            go_wp2_with (at_builtin; refine wpList_append_elem2 stepK 28 (.agg #[.slice none 0 0, .int .i64 0]) 32 rfl (.tmp 46) (.tmp 48) rfl Tryz.underlying28 Tryz.info69 rfl (by omega) B _ (some ⟨g, 0, none⟩) (m + 1) co hso _ rfl HO4.out w3.heap.size 1 (al, cl) (W, L) rfl HCe.out HI4.out HAp.out HFa.out (by omega) (Nat.le_trans HB1.out HX4.out.size) ?_; intro a5 c5 w5 ho5 hg5 hn5; have HX5 := hidP (Below.own HX4.out hg5 HX4.out.size HNew.out HO4.out.addr); have HO5 := hidP ho5; have HN5 := hidP hn5; clear ho5 hg5 hn5)
            go_roundw
            case rel =>
              refine ⟨k + 1, a5, (m + 1) + 1, c5, hso ++ [(al, cl)], by omega, rfl, by go_num, by rw [HSu2.out]; exact HO5.out, HX5.out, fun b o e => ?_, fun i hi => ?_⟩
              · rcases HN5.out with h | h
                · exact HNew.out b o (h ▸ e)
                · exact Nat.le_trans HX4.out.size (h b o e)
              · by_cases hi2 : i < (m + 1)
                · obtain ⟨j, hj, e⟩ := HMem.out i hi2
                  exact ⟨j, by omega, by rw [← e]; exact getD_left _ _ _ _ (by rw [HO.out.hl]; exact hi2)⟩
                · obtain rfl : i = (m + 1) := by omega
                  exact ⟨k, by omega, by rw [Hhk.out, getD_right _ _ _ _ (by rw [HO.out.hl]; exact Nat.le_refl _), HO.out.hl, Nat.sub_self]; rfl⟩
            case measure => simp [intOf]; omega
          · obtain rfl : L = 0 := by omega
            have HSu2 : Hid (joinTo [] ps (k + 1) = joinTo [] ps k) := by
              show _ = _
              rw [HSu.out, addS_zero _ _ rfl]
            obtain ⟨q1, q2⟩ := HS.out _ hE2
            have HX4 := hidP (HX2.out.trans hE2)
            have HO4 := hidP (HO2.out.below hE2)
            go_wp2
            go_roundw
            case rel => exact ⟨k + 1, (some ⟨g, 0, none⟩), (m + 1), co, hso, by omega, rfl, by go_num, by rw [HSu2.out]; exact HO4.out.weaken (Nat.le_refl _) (HA2.out.trans hE2).size, HX4.out, HNew.out, fun i hi => by obtain ⟨j, hj, e⟩ := HMem.out i hi; exact ⟨j, by omega, e⟩⟩
            case measure => simp [intOf]; omega
        · rw [hb] at HEq
          have HSu2 : Hid (joinTo [] ps (k + 1) = (joinTo [] ps k).set m (V, M + L)) := HSuE.out (by simpa using hb)
          clear hb HSuE HSuN
          go_wp2
          rw [← hw2]
          clear hw2 p1 p2
          (refine walkR_start (fun w' => Ext w2 w') 12 (by kernel_rfl) ?_; simp only [numbered, List.take_succ_cons, List.take_zero, Nat.zero_add, Nat.reduceAdd, List.length_cons, List.length_nil])
          (repeat (first | (refine walkR_still (v := ?_) rfl (by decide +kernel) rfl (fun _ _ _ h => h) hE ?_ ?_; rotate_left; (focus (intro w' hw'; obtain ⟨q1, q2⟩ := HS.out w' hw'; obtain ⟨y1, y2, y3, _⟩ := HOc2.out w' hw'; go_simp; all_goals (with_reducible rfl))); simp only [Act.put, List.setIfInBounds_toArray, List.set_cons_zero, List.set_cons_succ]) | (refine walkR_skip rfl (by decide +kernel) rfl (fun _ _ _ h => h) hE ?_; simp only [Act.put, List.setIfInBounds_toArray, List.set_cons_zero, List.set_cons_succ])))
          (refine walkR_only (fun w' => Ext w2 w') rfl (by decide +kernel) rfl (fun _ h => h) ?_; intro K hK; go_simp; refine (HEq.out _ hE).mono ?_; rintro e w25 ⟨rfl, hx25⟩; refine hK _ _ (hE.trans hx25) ?_; clear hK K; (try simp only [Act.put, List.setIfInBounds_toArray, List.set_cons_zero, List.set_cons_succ]))
          have hE2 := hE.trans hx25
          clear hx25
          (repeat (first | (refine walkR_still (v := ?_) rfl (by decide +kernel) rfl (fun _ _ _ h => h) hE2 ?_ ?_; rotate_left; (focus (intro w' hw'; skip; go_simp; all_goals (with_reducible rfl))); simp only [Act.put, List.setIfInBounds_toArray, List.set_cons_zero, List.set_cons_succ]) | (refine walkR_skip rfl (by decide +kernel) rfl (fun _ _ _ h => h) hE2 ?_; simp only [Act.put, List.setIfInBounds_toArray, List.set_cons_zero, List.set_cons_succ])))
          (refine walkR_tail (by rfl) (by kernel_rfl) ?_; simp only [List.drop_succ_cons, List.drop_zero])
          go_wp2
          obtain ⟨w3, hw3⟩ : ∃ w3, w3 = w25 := ⟨_, rfl⟩
          have HE3 : Hid (Ext w2 w3) := by rw [hw3]; exact hE2
          rw [← hw3]
          clear hw3
          have hE3 := HE3.out.trans (Ext.drew w3)
          (refine walkR_start (fun w' => Ext w2 w') 11 (by kernel_rfl) ?_; simp only [numbered, List.take_succ_cons, List.take_zero, Nat.zero_add, Nat.reduceAdd, List.length_cons, List.length_nil])
          (repeat (first | (refine walkR_still (v := ?_) rfl (by decide +kernel) rfl (fun _ _ _ h => h) hE3 ?_ ?_; rotate_left; (focus (intro w' hw'; obtain ⟨q1, q2⟩ := HS.out w' hw'; obtain ⟨y1, y2, y3, _⟩ := HOc2.out w' hw'; go_simp; all_goals (with_reducible rfl))); simp only [Act.put, List.setIfInBounds_toArray, List.set_cons_zero, List.set_cons_succ]) | (refine walkR_skip rfl (by decide +kernel) rfl (fun _ _ _ h => h) hE3 ?_; simp only [Act.put, List.setIfInBounds_toArray, List.set_cons_zero, List.set_cons_succ])))
          (refine walkR_tail (by rfl) (by kernel_rfl) ?_; simp only [List.drop_succ_cons, List.drop_zero])
          obtain ⟨y1, y2, y3, _⟩ := HOc2.out _ hE3
          have HO4 := hidP (HSt.out _ ((HO.out.below HA2.out).below hE3))
          have hgN := hidP (HNew.out g 0 rfl)
          have HX4 := hidP (show Ext w1 (w3.drew.setCell ⟨g, m * 2 + 1, none⟩ (.int .i64 (M + L))) from Below.setCell (p := ⟨g, m * 2 + 1, none⟩) (HX2.out.trans hE3) hgN.out _)
          go_wp2
          go_roundw
          case rel =>
            refine ⟨k + 1, some ⟨g, 0, none⟩, m + 1, co, hso, by omega, rfl, by go_num, ?_, HX4.out, HNew.out, fun i hi => by obtain ⟨j, hj, e⟩ := HMem.out i hi; exact ⟨j, by omega, e⟩⟩
            rw [HSu2.out]
            refine OwnK.weaken HO4.out (Nat.le_refl _) ?_
            have := (HA2.out.trans hE3).size
            simpa [World.setCell] using this
          case measure => simp [intOf]; omega
    · obtain rfl : np = k := by omega
      have HJ : Hid (joinTo [] ps np = joinS ps) := by
        show _ = _
        rw [joinS_to, ← GP.out.xl]
      rw [HJ.out] at HO
      have HPO := hidP (pathOk_of R ta tn tc ts ao m co (joinS ps) wr HO.out.termsAt (by
        have := HO.out.row.1
        rcases HO.out.form with ⟨_, h0, _⟩ | ⟨_, _, _, _, _, _, h1, h2⟩
        · omega
        · unfold maxLen at h2; omega) (fun w' hx => HHs.out w' ((HX1.out.trans HX.out).trans hx)))
      rw [HT.out, Bool.true_and] at HPO
      obtain ⟨f0, f1⟩ := HC.out wr HX.out
      rw [show ((R : Int)).toNat = R from rfl] at HPO
      cases hpb : pathB R (joinS ps)
      · rw [hpb] at HPO
        have HCk : Hid (chk R ps = (false, [])) := by
          show _ = _
          unfold chk
          rw [hpb]
          rfl
        clear hpb
        go_wp2_with fail
        refine HPO.out.mono ?_
        rintro e w2 ⟨rfl, hx⟩
        have HX2 := hidP ((HX1.out.trans HX.out).trans hx)
        clear hx f0 f1
        go_wp2
        refine bodyPost_ret (v := .tuple #[.slice none 0 0, .bool false]) (by simp [results, Tryz.results92, go_sem]) rfl ⟨none, 0, 0, [], by rw [HCk.out], ?_, HX2.out⟩
        rw [HCk.out]
        exact OwnK.nil stepK _ _ _
      · rw [hpb] at HPO
        have HCk : Hid (chk R ps = (true, joinS ps)) := by
          show _ = _
          unfold chk
          rw [hpb]
          rfl
        clear hpb
        go_wp2_with fail
        refine HPO.out.mono ?_
        rintro e w2 ⟨rfl, hx⟩
        have HX2 := hidP ((HX1.out.trans HX.out).trans hx)
        have HO2 := hidP ((HO.out.below hx).weaken (Nat.le_refl _) hx.size)
        clear hx f0 f1
        go_wp2
        refine bodyPost_ret (v := .tuple #[.slice ao m co, .bool true]) (by simp [results, Tryz.results92, go_sem]) rfl ⟨ao, m, co, hso, by rw [HCk.out], ?_, HX2.out⟩
        rw [HCk.out]
        exact HO2.out
end Go.Proofs.YtfikkfbnlegflaaGreatDoor
