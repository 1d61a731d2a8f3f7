/-
  The law's own functions on slices of steps: their size, equality.
  The reference's search of the paths of a weight.
  Lowering and raising in a small crystal, plain: ends and counts; the contracts at hand there.
  The laws' sums of lists; weights of simple roots; the least height.
  Ways that are too steep, for the reference.
  The reference's look for a path in a list; ways that are too steep.
  The laws' own small functions; weights of simple roots; the least height.
  The draw of a path of a small module: the walk.
  Straight paths; the draw of a path of a small module.
  The small types, their small highest weights and the crystals of these: checked by the kernel.
  The draw of a highest weight with a small module.
  Draws of a small type and of a highest weight.
  The reference's matrix of a type by its name, for the types that are drawn.
  The reference's sum of two matrices of types; a look-up of names.
  Draws: the cursor over a code's bytes; numbers below another.
-/
import Derived.Test.YtfikkfbnlegflaaGreatDoorMh9
import Derived.BigQuiet
import Derived.Deep.QuietTactic
namespace Go.Proofs.YtfikkfbnlegflaaGreatDoor
open Go.RowKit

end Go.Proofs.YtfikkfbnlegflaaGreatDoor

namespace Go.Proofs.YtfikkfbnlegflaaGreatDoor
open Go.RowKit

/-! ### the sum, as the program sets it -/
end Go.Proofs.YtfikkfbnlegflaaGreatDoor

namespace Go.Proofs.YtfikkfbnlegflaaGreatDoor
open Go.RowKit

end Go.Proofs.YtfikkfbnlegflaaGreatDoor

namespace Go.Proofs.YtfikkfbnlegflaaGreatDoor
open Go.RowKit

end Go.Proofs.YtfikkfbnlegflaaGreatDoor

namespace Go.Proofs.YtfikkfbnlegflaaGreatDoor
open Go.RowKit

end Go.Proofs.YtfikkfbnlegflaaGreatDoor

namespace Go.Proofs.YtfikkfbnlegflaaGreatDoor
open Go.RowKit

end Go.Proofs.YtfikkfbnlegflaaGreatDoor

namespace Go.Proofs.YtfikkfbnlegflaaGreatDoor
open Go.RowKit

theorem OwnK.single {α : Type} (K : Knd α) (w : World) (B : Nat) (h1 : Hdr) (x1 : α) (hi : OwnI w B h1.1 (K.ints x1).length h1.2 (K.ints x1)) (hB : B ≤ w.heap.size) :
    OwnK K (w.alloc (.cells (K.cells h1.1 h1.2 x1).toArray K.E)) B (w.alloc (.cells (K.cells h1.1 h1.2 x1).toArray K.E)).heap.size (some ⟨w.heap.size, 0, none⟩) 1 1 [h1] [x1] := by
  have hrow := World.ownsRow_lit (e := K.E) (size := K.size) (base := B) w (K.cells h1.1 h1.2 x1).toArray 1 hB (by unfold maxLen; omega) (by simp [K.len])
  refine ⟨by simpa [Knd.all] using hrow, rfl, rfl, fun i h => ?_, fun i j h1 h2 h3 => by omega, fun i h b o e => ?_, fun b o e => ?_⟩
  · obtain rfl : i = 0 := by omega
    exact hi.below (Ext.alloc w _)
  · obtain rfl : i = 0 := by omega
    have := (hi.at_base b o e).2
    simp
    omega
  · simp only [Option.some.injEq, Addr.mk.injEq, and_true] at e
    simp [← e.1]
set_option maxHeartbeats 2000000 in
theorem sStraight_any (R : Nat) (ta : Option Addr) (tn tc : Nat) (ts : List Int) (aw : Option Addr) (cw : Nat) (W : List Int) (w : World) (hc : IntsAt w ta tn ts) (hcn : tn ≤ 9223372036854775807) (hT : typeB R ts = true) (hw : IntsAt w aw R W) (hnil : aw = none → cw = 0) (hb : wayB R W = true) :
    Calls Tryz.prog 71 #[carV R ta tn tc, .slice aw R cw] w fun e w' => ∃ a hs, e = .returned (.slice a 1 1) ∧ OwnK stepK w' w.heap.size w'.heap.size a 1 1 hs (straight W) ∧ Ext w w' := by
  have hx1 := Ext.alloc w (.cells #[.int .i64 R, .slice ta tn tc] 31)
  have HC := hidP (fun w' (hx : Ext (w.alloc (.cells #[.int .i64 R, .slice ta tn tc] 31)) w') => (CarAt.new w _ rfl (R : Int) ta tn tc 31).below hx)
  have HX1 := hidP hx1
  have hrk := typeB_rank hT
  have hR4 : R ≤ 4 := by omega
  have HIs := hidP (fun w' (h : Ext w w') => sIsCartan_any (R : Int) ta tn tc ts w' (hc.below h) hcn)
  have HLa := hidP (fun w' (h : Ext w w') => l5Lattice_any R ta tn tc aw R cw W w' (hw.below h) (by omega) (by omega))
  have HCl := hidP (fun w' (h : Ext w w') => l1Ints_any aw R cw W w' (hw.below h) hnil (by omega))
  rw [hT] at HIs
  rw [hb] at HLa
  have HWl := hidP hw.len
  clear hc hT hw hb hx1 hrk hnil
  obtain ⟨w1, hw1⟩ : ∃ w1, w1 = w.alloc (.cells #[.int .i64 R, .slice ta tn tc] 31) := ⟨_, rfl⟩
  rw [← hw1] at HC HX1
  obtain ⟨y0, y1⟩ := HC.out w1 (Ext.refl _)
  go_enter Tryz.func71, Tryz.ntmps71
  go_wp2_with fail
  rw [← hw1]
  clear hw1
  refine (HIs.out _ HX1.out).mono ?_
  rintro e w2 ⟨rfl, hx2⟩
  obtain ⟨z0, z1⟩ := HC.out w2 hx2
  clear y0 y1
  go_wp2_with fail
  refine (HLa.out _ (HX1.out.trans hx2)).mono ?_
  rintro e w3 ⟨rfl, hx3⟩
  have HX3 := hidP (HX1.out.trans (hx2.trans hx3))
  clear hx2 hx3 z0 z1
  go_wp2_with fail
  refine (HCl.out _ HX3.out).mono ?_
  rintro e w4 ⟨a4, c4, rfl, ho4, hx4⟩
  have hk := OwnK.single stepK w4 w.heap.size (a4, c4) (W, 27720) (by show OwnI _ _ _ W.length _ _; rw [HWl.out]; exact ho4.base HX3.out.size) (HX3.out.trans hx4).size
  have he : (stepK.cells a4 c4 (W, 27720)).toArray = #[.slice a4 R c4, .int .i64 27720] := by show #[Value.slice a4 W.length c4, _] = _; rw [HWl.out]
  rw [he] at hk
  have HK := hidP hk
  have HX4 := hidP ((HX3.out.trans hx4).trans (Ext.alloc w4 (.cells #[.slice a4 R c4, .int .i64 27720] 69)))
  clear hk he ho4 hx4
  go_wp2
  go_ret
  exact ⟨_, _, rfl, HK.out, HX4.out⟩
set_option maxHeartbeats 2000000 in
theorem straight_any (R : Nat) (ta : Option Addr) (tn tc : Nat) (ts : List Int) (aw : Option Addr) (cw : Nat) (W : List Int) (w : World) (hc : IntsAt w ta tn ts) (hcn : tn ≤ 9223372036854775807) (hT : typeB R ts = true) (hw : IntsAt w aw R W) (hnil : aw = none → cw = 0) (hb : wayB R W = true) (hm : MaxL w) :
    Calls Tryz.prog 39 #[carV R ta tn tc, .slice aw R cw] w fun e w' => ∃ a hs, e = .returned (.slice a 1 1) ∧ OwnK stepK w' w.heap.size w'.heap.size a 1 1 hs (straight W) ∧ Ext w w' := by
  have hx1 := Ext.alloc w (.cells #[.int .i64 R, .slice ta tn tc] 31)
  have HC := hidP (fun w' (hx : Ext (w.alloc (.cells #[.int .i64 R, .slice ta tn tc] 31)) w') => (CarAt.new w _ rfl (R : Int) ta tn tc 31).below hx)
  have HX1 := hidP hx1
  have hrk := typeB_rank hT
  have hR4 : R ≤ 4 := by omega
  have HIs := hidP (fun w' (h : Ext w w') => isCartan_any (R : Int) ta tn tc ts w' (hc.below h) hcn (hm.below h))
  have HLa := hidP (fun w' (h : Ext w w') => isWeight_any R ta tn tc aw R cw W w' (hw.below h) (by omega) (by omega))
  have HCl := hidP (fun w' (h : Ext w w') => clone_any aw R cw W w' (hw.below h) hnil (by omega))
  rw [hT] at HIs
  rw [hb] at HLa
  have HWl := hidP hw.len
  clear hc hT hw hb hx1 hrk hnil
  obtain ⟨w1, hw1⟩ : ∃ w1, w1 = w.alloc (.cells #[.int .i64 R, .slice ta tn tc] 31) := ⟨_, rfl⟩
  rw [← hw1] at HC HX1
  obtain ⟨y0, y1⟩ := HC.out w1 (Ext.refl _)
  go_enter Tryz.func39, Tryz.ntmps39
  go_wp2_with fail
  rw [← hw1]
  clear hw1
  refine (HIs.out _ HX1.out).mono ?_
  rintro e w2 ⟨rfl, hx2⟩
  obtain ⟨z0, z1⟩ := HC.out w2 hx2
  clear y0 y1
  go_wp2_with fail
  refine (HLa.out _ (HX1.out.trans hx2)).mono ?_
  rintro e w3 ⟨rfl, hx3⟩
  have HX3 := hidP (HX1.out.trans (hx2.trans hx3))
  clear hx2 hx3 z0 z1
  go_wp2_with fail
  refine (HCl.out _ HX3.out).mono ?_
  rintro e w4 ⟨a4, c4, rfl, ho4, hx4⟩
  have hk := OwnK.single stepK w4 w.heap.size (a4, c4) (W, 27720) (by show OwnI _ _ _ W.length _ _; rw [HWl.out]; exact ho4.base HX3.out.size) (HX3.out.trans hx4).size
  have he : (stepK.cells a4 c4 (W, 27720)).toArray = #[.slice a4 R c4, .int .i64 27720] := by show #[Value.slice a4 W.length c4, _] = _; rw [HWl.out]
  rw [he] at hk
  have HK := hidP hk
  have HX4 := hidP ((HX3.out.trans hx4).trans (Ext.alloc w4 (.cells #[.slice a4 R c4, .int .i64 27720] 69)))
  clear hk he ho4 hx4
  go_wp2
  go_ret
  exact ⟨_, _, rfl, HK.out, HX4.out⟩
end Go.Proofs.YtfikkfbnlegflaaGreatDoor

namespace Go.Proofs.YtfikkfbnlegflaaGreatDoor
open Go.RowKit

end Go.Proofs.YtfikkfbnlegflaaGreatDoor

namespace Go.Proofs.YtfikkfbnlegflaaGreatDoor
open Go.RowKit

end Go.Proofs.YtfikkfbnlegflaaGreatDoor

set_option linter.unusedVariables false
set_option linter.unusedSimpArgs false
namespace Go.Proofs.YtfikkfbnlegflaaGreatDoor
open Go.RowKit

theorem l1SameX_any (a1 a2 : Option Addr) (n1 n2 c1 c2 : Nat) (xs ys : List Int) (w : World) (h1 : IntsAt w a1 n1 xs) (h2 : IntsAt w a2 n2 ys) (hm1 : n1 ≤ 9223372036854775807) (hm2 : n2 ≤ 9223372036854775807) :
    Calls Tryz.prog 128 #[.slice a1 n1 c1, .slice a2 n2 c2] w fun e w' => e = .returned (.bool (xs == ys)) ∧ Ext w w' :=
  (l1Same_any a1 a2 n1 n2 c1 c2 xs ys w h1 h2 hm1 hm2).mono fun _ _ ⟨he, m, hw⟩ => ⟨he, by rw [hw]; exact Ext.drewN w m⟩
set_option maxRecDepth 100000 in
set_option maxHeartbeats 4000000 in
theorem l9Same_any (a a' : Option Addr) (n n' c c' : Nat) (p q : List Stp) (w : World) (h : StepsAt w a n p) (h' : StepsAt w a' n' q) (hn : n ≤ 1000000) (hn' : n' ≤ 1000000) :
    Calls Tryz.prog 148 #[.slice a n c, .slice a' n' c'] w fun e w' => e = .returned (.bool (p == q)) ∧ Ext w w' := by
  have HP := hidP h
  have HQ := hidP h'
  have HL := hidP h.len
  have HL' := hidP h'.len
  clear h h'
  by_cases hne : n = n'
  · subst hne
    go_enter Tryz.func148, Tryz.ntmps148
    go_wp2
    go_loopw [5] (fun i wr => ∃ k : Nat, k ≤ n ∧ i = .int .i64 k ∧ Hid (∀ j, j < k → wayAt p j = wayAt q j ∧ lenAt p j = lenAt q j) ∧ Hid (Ext w wr)) (fun i _ => n - (intOf i).toNat)
    case atStart => exact ⟨0, Nat.zero_le _, rfl, fun j h => by omega, Ext.refl _⟩
    case round =>
      obtain ⟨k, hk, rfl, HJ, HX⟩ := hrel
      by_cases hlt : k < n
      · obtain ⟨b, o, aV, cV, V, L, rfl, HV, HLn, hvl, _, hq⟩ := (HP.out.below HX.out).way k hlt
        obtain ⟨b2, o2, aU, cU, U, M, rfl, HU, HM, hul, _, hq2⟩ := (HQ.out.below HX.out).way k hlt
        have HF : Hid (∀ w', Ext wr w' → w'.cell? ⟨b, o + k * 2, none⟩ = some (.slice aV V.length cV) ∧ w'.cell? ⟨b, o + k * 2 + 1, none⟩ = some (.int .i64 L) ∧ w'.cell? ⟨b2, o2 + k * 2, none⟩ = some (.slice aU U.length cU) ∧ w'.cell? ⟨b2, o2 + k * 2 + 1, none⟩ = some (.int .i64 M)) := fun w' hx =>
          ⟨(hq w' hx).1, (hq w' hx).2.1, (hq2 w' hx).1, (hq2 w' hx).2.1⟩
        have HIn := hidP (fun w' (hx : Ext wr w') => l1SameX_any aV aU V.length U.length cV cU V U w' (hq w' hx).2.2 (hq2 w' hx).2.2 hvl hul)
        have hk0 : (0 : Int) ≤ (k : Int) := by omega
        have hk1 : (k : Int) < (n : Int) := by omega
        have hE : Ext wr wr.drew := Ext.drew wr
        clear hq hq2
        by_cases hlm : L = M
        · have hb : (L != M) = false := by simpa using hlm
          cases hvu : (V == U)
          · rw [hvu] at HIn
            have HB : Hid ((p == q) = false) := by
              show _ = _
              rw [beq_eq_false_iff_ne]
              rintro rfl
              have : V = U := by rw [← HV.out, ← HU.out]
              rw [this] at hvu
              simp at hvu
            clear hlm hvu
            go_wp2
            (refine walkR_start (fun w' => Ext wr w') 24 (by kernel_rfl) ?_; simp only [numbered, List.take_succ_cons, List.take_zero, Nat.zero_add, Nat.reduceAdd, List.length_cons, List.length_nil])
            (repeat (first | (refine walkR_still (v := ?_) rfl (by decide +kernel) rfl (fun _ _ _ h => h) hE ?_ ?_; rotate_left; (focus (intro w' hw'; obtain ⟨q1, q2, q3, q4⟩ := HF.out w' hw'; go_simp; all_goals (with_reducible rfl))); simp only [Act.put, List.setIfInBounds_toArray, List.set_cons_zero, List.set_cons_succ]) | (refine walkR_skip rfl (by decide +kernel) rfl (fun _ _ _ h => h) hE ?_; simp only [Act.put, List.setIfInBounds_toArray, List.set_cons_zero, List.set_cons_succ])))
            (refine walkR_only (fun w' => Ext wr w') rfl (by decide +kernel) rfl (fun _ h => h) ?_; intro K hK; go_simp; refine (HIn.out _ hE).mono ?_; rintro e w3 ⟨rfl, hx3⟩; refine hK _ _ (hE.trans hx3) ?_; clear hK K; (try simp only [Act.put, List.setIfInBounds_toArray, List.set_cons_zero, List.set_cons_succ]))
            have hE3 := hE.trans hx3
            clear hx3
            (repeat (first | (refine walkR_still (v := ?_) rfl (by decide +kernel) rfl (fun _ _ _ h => h) hE3 ?_ ?_; rotate_left; (focus (intro w' hw'; skip; go_simp; all_goals (with_reducible rfl))); simp only [Act.put, List.setIfInBounds_toArray, List.set_cons_zero, List.set_cons_succ]) | (refine walkR_skip rfl (by decide +kernel) rfl (fun _ _ _ h => h) hE3 ?_; simp only [Act.put, List.setIfInBounds_toArray, List.set_cons_zero, List.set_cons_succ])))
            (refine walkR_tail (by rfl) (by kernel_rfl) ?_; simp only [List.drop_succ_cons, List.drop_zero])
            have HX3 := hidP (HX.out.trans hE3)
            clear hE3 hE
            go_wp2
            go_ret
            exact ⟨ret_bool HB.out.symm, HX3.out⟩
          · rw [hvu] at HIn
            have HJ' : Hid (∀ j, j < k + 1 → wayAt p j = wayAt q j ∧ lenAt p j = lenAt q j) := by
              intro j hj
              rcases Nat.lt_succ_iff_lt_or_eq.1 hj with h3 | rfl
              · exact HJ.out j h3
              · exact ⟨by rw [HV.out, HU.out]; simpa using hvu, by rw [HLn.out, HM.out]; exact hlm⟩
            clear hlm hvu
            go_wp2
            (refine walkR_start (fun w' => Ext wr w') 24 (by kernel_rfl) ?_; simp only [numbered, List.take_succ_cons, List.take_zero, Nat.zero_add, Nat.reduceAdd, List.length_cons, List.length_nil])
            (repeat (first | (refine walkR_still (v := ?_) rfl (by decide +kernel) rfl (fun _ _ _ h => h) hE ?_ ?_; rotate_left; (focus (intro w' hw'; obtain ⟨q1, q2, q3, q4⟩ := HF.out w' hw'; go_simp; all_goals (with_reducible rfl))); simp only [Act.put, List.setIfInBounds_toArray, List.set_cons_zero, List.set_cons_succ]) | (refine walkR_skip rfl (by decide +kernel) rfl (fun _ _ _ h => h) hE ?_; simp only [Act.put, List.setIfInBounds_toArray, List.set_cons_zero, List.set_cons_succ])))
            (refine walkR_only (fun w' => Ext wr w') rfl (by decide +kernel) rfl (fun _ h => h) ?_; intro K hK; go_simp; refine (HIn.out _ hE).mono ?_; rintro e w3 ⟨rfl, hx3⟩; refine hK _ _ (hE.trans hx3) ?_; clear hK K; (try simp only [Act.put, List.setIfInBounds_toArray, List.set_cons_zero, List.set_cons_succ]))
            have hE3 := hE.trans hx3
            clear hx3
            (repeat (first | (refine walkR_still (v := ?_) rfl (by decide +kernel) rfl (fun _ _ _ h => h) hE3 ?_ ?_; rotate_left; (focus (intro w' hw'; skip; go_simp; all_goals (with_reducible rfl))); simp only [Act.put, List.setIfInBounds_toArray, List.set_cons_zero, List.set_cons_succ]) | (refine walkR_skip rfl (by decide +kernel) rfl (fun _ _ _ h => h) hE3 ?_; simp only [Act.put, List.setIfInBounds_toArray, List.set_cons_zero, List.set_cons_succ])))
            (refine walkR_tail (by rfl) (by kernel_rfl) ?_; simp only [List.drop_succ_cons, List.drop_zero])
            have HX3 := hidP (HX.out.trans hE3)
            clear hE3 hE
            go_wp2
            go_roundw
            case rel => exact ⟨k + 1, by omega, by go_num, HJ', HX3⟩
            case measure => simp [intOf]; omega
        · have hb : (L != M) = true := by simpa using hlm
          have HB : Hid ((p == q) = false) := by
            show _ = _
            rw [beq_eq_false_iff_ne]
            rintro rfl
            exact hlm (by rw [← HLn.out, ← HM.out])
          clear hlm
          go_wp2
          (refine walkR_start (fun w' => Ext wr w') 24 (by kernel_rfl) ?_; simp only [numbered, List.take_succ_cons, List.take_zero, Nat.zero_add, Nat.reduceAdd, List.length_cons, List.length_nil])
          (repeat (first | (refine walkR_still (v := ?_) rfl (by decide +kernel) rfl (fun _ _ _ h => h) hE ?_ ?_; rotate_left; (focus (intro w' hw'; obtain ⟨q1, q2, q3, q4⟩ := HF.out w' hw'; go_simp; all_goals (with_reducible rfl))); simp only [Act.put, List.setIfInBounds_toArray, List.set_cons_zero, List.set_cons_succ]) | (refine walkR_skip rfl (by decide +kernel) rfl (fun _ _ _ h => h) hE ?_; simp only [Act.put, List.setIfInBounds_toArray, List.set_cons_zero, List.set_cons_succ])))
          (refine walkR_tail (by rfl) (by kernel_rfl) ?_; simp only [List.drop_succ_cons, List.drop_zero])
          have HX3 := hidP (HX.out.trans hE)
          clear hE
          go_wp2
          go_ret
          exact ⟨ret_bool HB.out.symm, HX3.out⟩
      · have HB : Hid ((p == q) = true) := by
          show _ = _
          rw [beq_iff_eq]
          apply List.ext_getElem
          · rw [HL.out, HL'.out]
          · intro j h1 h2
            have := HJ.out j (by have := HL.out; omega)
            simp only [wayAt, lenAt, List.getD_eq_getElem?_getD, List.getElem?_eq_getElem h1, List.getElem?_eq_getElem h2, Option.getD_some] at this
            exact Prod.ext this.1 this.2
        go_wp2
        go_ret
        exact ⟨ret_bool HB.out.symm, HX.out⟩
  · have HB : Hid ((p == q) = false) := by
      show _ = _
      rw [beq_eq_false_iff_ne]
      exact fun e => hne (by rw [← HL.out, ← HL'.out, e])
    have hb : (((n : Nat) : Int) != (n' : Nat)) = true := bne_iff_ne.2 (by omega)
    clear hne
    go_enter Tryz.func148, Tryz.ntmps148
    go_wp2
    go_ret
    exact ⟨ret_bool HB.out.symm, Ext.refl _⟩
/-- a list of paths, read -/
structure PathsAt (w : World) (a : Option Addr) (n : Nat) (ps : List (List Stp)) : Prop where
  len : ps.length = n
  get : ∀ k, k < n → ∃ b o a' c', a = some ⟨b, o, none⟩ ∧ (∀ w', Ext w w' → w'.cell? ⟨b, o + k, none⟩ = some (.slice a' (ps.getD k []).length c') ∧ StepsAt w' a' (ps.getD k []).length (ps.getD k [])) ∧ (ps.getD k []).length ≤ c' ∧ c' ≤ 9223372036854775807
theorem PathsAt.below {w w' : World} {a : Option Addr} {n : Nat} {ps : List (List Stp)} (h : PathsAt w a n ps) (hx : Ext w w') : PathsAt w' a n ps :=
  ⟨h.len, fun k hk => by
    obtain ⟨b, o, a', c', h1, h2, h3, h4⟩ := h.get k hk
    exact ⟨b, o, a', c', h1, fun w'' hx' => h2 w'' (hx.trans hx'), h3, h4⟩⟩
theorem OwnPs.at_ {w : World} {B n c : Nat} {a : Option Addr} {ps : List PEl} (h : OwnPs w B a n c ps) : PathsAt w a n (ps.map PEl.q) := by
  obtain ⟨g, rfl, _⟩ := h.form
  refine ⟨by rw [List.length_map]; exact h.len, fun k hk => ?_⟩
  obtain ⟨hk2, hc⟩ := h.cell hk rfl
  have he := h.each ps[k] (List.getElem_mem _)
  have e : (ps.map PEl.q).getD k [] = ps[k].q := by simp [List.getD_eq_getElem?_getD, hk2]
  rw [e]
  refine ⟨g, 0, ps[k].at_, ps[k].cap, rfl, fun w' hx => ⟨?_, (he.own.below hx).stepsAt⟩, he.own.room.1, he.own.room.2⟩
  rw [Nat.zero_add]
  exact (hx.cell (World.block_lt_of_cell? w _ hc)).trans hc
set_option maxHeartbeats 2000000 in
theorem l9Has_any (a a' : Option Addr) (n n' c c' : Nat) (ps : List (List Stp)) (q : List Stp) (w : World) (h : PathsAt w a n ps) (h' : StepsAt w a' n' q) (hn : n ≤ 1000000) (hn' : n' ≤ 1000000) (hq : ∀ p ∈ ps, p.length ≤ 1000000) :
    Calls Tryz.prog 120 #[.slice a n c, .slice a' n' c'] w fun e w' => e = .returned (.bool (ps.contains q)) ∧ Ext w w' := by
  have HP := hidP h
  have HQ := hidP h'
  have HL := hidP h.len
  have HB := hidP hq
  clear h h' hq
  go_enter Tryz.func120, Tryz.ntmps120
  go_wp2
  go_loopw [5] (fun i wr => ∃ k : Nat, k ≤ n ∧ i = .int .i64 k ∧ Hid (∀ j, j < k → ps.getD j [] ≠ q) ∧ Hid (Ext w wr)) (fun i _ => n - (intOf i).toNat)
  case atStart => exact ⟨0, Nat.zero_le _, rfl, fun j h => by omega, Ext.refl _⟩
  case round =>
    obtain ⟨k, hk, rfl, HJ, HX⟩ := hrel
    by_cases hlt : k < n
    · obtain ⟨b, o, a2, c2, rfl, hg, _⟩ := (HP.out.below HX.out).get k hlt
      obtain ⟨q1, hs⟩ := hg wr (Ext.refl _)
      have hm : ps.getD k [] ∈ ps := by
        have hk2 : k < ps.length := by have := HL.out; omega
        rw [List.getD_eq_getElem?_getD, List.getElem?_eq_getElem hk2]
        exact List.getElem_mem _
      have HM := hidP hm
      have HS := hidP (l9Same_any a2 a' _ n' c2 c' (ps.getD k []) q wr hs (HQ.out.below HX.out) (HB.out _ hm) hn')
      clear hg hs hm
      obtain ⟨pk, hpk⟩ : ∃ pk, pk = ps.getD k [] := ⟨_, rfl⟩
      rw [← hpk] at q1 HM HS
      have HPk := hidP hpk
      clear hpk
      cases hc : (pk == q)
      · rw [hc] at HS
        go_wp2_with fail
        refine HS.out.mono ?_
        rintro e w2 ⟨rfl, hx2⟩
        have HX2 := hidP (HX.out.trans hx2)
        have HJ2 : Hid (∀ j, j < k + 1 → ps.getD j [] ≠ q) := by
          show ∀ j, _
          intro j hj
          rcases Nat.lt_succ_iff_lt_or_eq.1 hj with h3 | rfl
          · exact HJ.out j h3
          · rw [← HPk.out]
            simpa using hc
        clear hx2 hc
        go_wp2
        go_roundw
        case rel => exact ⟨k + 1, by omega, by go_num, HJ2, HX2⟩
        case measure => simp [intOf]; omega
      · rw [hc] at HS
        have HR : Hid (ps.contains q = true) := by
          show _ = _
          rw [List.contains_iff_mem]
          have : pk = q := by simpa using hc
          rw [← this]
          exact HM.out
        clear hc
        go_wp2_with fail
        refine HS.out.mono ?_
        rintro e w2 ⟨rfl, hx2⟩
        have HX2 := hidP (HX.out.trans hx2)
        clear hx2
        go_wp2
        go_ret
        exact ⟨ret_bool HR.out.symm, HX2.out⟩
    · have HR : Hid (ps.contains q = false) := by
        show _ = _
        rw [Bool.eq_false_iff]
        intro h
        rw [List.contains_iff_mem] at h
        obtain ⟨j, hj, e⟩ := List.mem_iff_getElem.1 h
        refine HJ.out j (by have := HL.out; omega) ?_
        rw [List.getD_eq_getElem?_getD, List.getElem?_eq_getElem hj]
        exact e
      go_wp2
      go_ret
      exact ⟨ret_bool HR.out.symm, HX.out⟩
end Go.Proofs.YtfikkfbnlegflaaGreatDoor

set_option linter.unusedVariables false
set_option linter.unusedSimpArgs false
namespace Go.Proofs.YtfikkfbnlegflaaGreatDoor
open Go.RowKit

def steepW (v : List Int) : Bool := v.any fun x => !insB x (-12) 12
def steepB (q : List Stp) : Bool := q.any fun s => steepW s.1
theorem steepB_false {q : List Stp} (h : ∀ k, k < q.length → ∀ j, j < (wayAt q k).length → insB ((wayAt q k).getD j 0) (-12) 12 = true) : steepB q = false := by
  rw [Bool.eq_false_iff]
  intro h1
  simp only [steepB, steepW, List.any_eq_true, Bool.not_eq_true'] at h1
  obtain ⟨s, hs, x, hx, h2⟩ := h1
  obtain ⟨k, hk, rfl⟩ := List.mem_iff_getElem.1 hs
  obtain ⟨j, hj, rfl⟩ := List.mem_iff_getElem.1 hx
  have e : wayAt q k = q[k].1 := by simp [wayAt, List.getD_eq_getElem?_getD, hk]
  have := h k hk j (by rw [e]; exact hj)
  rw [e, List.getD_eq_getElem?_getD, List.getElem?_eq_getElem hj, Option.getD_some, h2] at this
  cases this
theorem steepB_true {q : List Stp} {k j : Nat} (hk : k < q.length) (hj : j < (wayAt q k).length) (h : insB ((wayAt q k).getD j 0) (-12) 12 = false) : steepB q = true := by
  simp only [steepB, steepW, List.any_eq_true, Bool.not_eq_true']
  have e : wayAt q k = q[k].1 := by simp [wayAt, List.getD_eq_getElem?_getD, hk]
  rw [e] at hj h
  refine ⟨_, List.getElem_mem hk, _, List.getElem_mem hj, ?_⟩
  rwa [List.getD_eq_getElem?_getD, List.getElem?_eq_getElem hj, Option.getD_some] at h
set_option maxRecDepth 100000 in
set_option maxHeartbeats 4000000 in
theorem l9Steep_any (a : Option Addr) (n c : Nat) (q : List Stp) (w : World) (h : StepsAt w a n q) (hn : n ≤ 1000000) (hl : ∀ k, k < q.length → (wayAt q k).length ≤ 1000000) :
    Calls Tryz.prog 121 #[.slice a n c] w fun e w' => e = .returned (.bool (steepB q)) ∧ Ext w w' := by
  have HP := hidP h
  have HL := hidP h.len
  have HB := hidP hl
  clear h hl
  go_enter Tryz.func121, Tryz.ntmps121
  go_wp2
  go_loopw [3] (fun i wr => ∃ k : Nat, k ≤ n ∧ i = .int .i64 k ∧ Hid (∀ k', k' < k → ∀ j, j < (wayAt q k').length → insB ((wayAt q k').getD j 0) (-12) 12 = true) ∧ Hid (Ext w wr)) (fun i _ => n - (intOf i).toNat)
  case atStart => exact ⟨0, Nat.zero_le _, rfl, fun j h => by omega, Ext.refl _⟩
  case round =>
    obtain ⟨k, hk, rfl, HJ, HX⟩ := hrel
    by_cases hlt : k < n
    · obtain ⟨b, o, aV, cV, V, L, rfl, HV, HLn, hvl, _, hq⟩ := (HP.out.below HX.out).way k hlt
      have HQ := hidP hq
      have HVl : Hid (V.length ≤ 1000000) := by show _ ≤ _; rw [← HV.out]; exact HB.out k (by have := HL.out; omega)
      clear hq
      go_wp2
      go_loopw [4] (fun j wr' => ∃ m : Nat, m ≤ V.length ∧ j = .int .i64 m ∧ Hid (∀ j, j < m → insB (V.getD j 0) (-12) 12 = true) ∧ Hid (Ext wr wr')) (fun j _ => V.length - (intOf j).toNat)
      case atStart => exact ⟨0, Nat.zero_le _, rfl, fun j h => by omega, Ext.refl _⟩
      case round =>
        obtain ⟨m, hm, rfl, HM, HX2⟩ := hrel
        obtain ⟨q1, q2, q3⟩ := HQ.out _ HX2.out
        have hvl2 := HVl.out
        by_cases hlt2 : m < V.length
        · obtain ⟨b2, o2, rfl, hy⟩ := q3.one m hlt2
          have q4 := hy _ (Ext.refl _)
          clear q3 hy
          obtain ⟨X, hX⟩ : ∃ X, X = V.getD m 0 := ⟨_, rfl⟩
          rw [← hX] at q4
          have HXe := hidP hX
          clear hX
          cases hc : insB X (-12) 12
          · have HC := hidP hc
            have HR : Hid (steepB q = true) := steepB_true (k := k) (j := m) (by have := HL.out; omega) (by rw [HV.out]; exact hlt2) (by rw [HV.out, ← HXe.out]; exact hc)
            clear hc
            go_wp2_with fail
            refine (l1In_any _ _ _ _).mono ?_
            rintro e w2 ⟨rfl, rfl⟩
            rw [HC.out]
            clear HC
            go_wp2
            go_ret
            exact ⟨ret_bool HR.out.symm, HX.out.trans HX2.out⟩
          · have HC := hidP hc
            have HM2 : Hid (∀ j, j < m + 1 → insB (V.getD j 0) (-12) 12 = true) := by
              show ∀ j, _
              intro j hj
              rcases Nat.lt_succ_iff_lt_or_eq.1 hj with h3 | rfl
              · exact HM.out j h3
              · rw [← HXe.out]; exact hc
            clear hc
            go_wp2_with fail
            refine (l1In_any _ _ _ _).mono ?_
            rintro e w2 ⟨rfl, rfl⟩
            rw [HC.out]
            clear HC
            go_wp2
            go_roundw
            case rel => exact ⟨m + 1, by omega, by go_num, HM2, HX2⟩
            case measure => simp [intOf]; omega
        · obtain rfl : m = V.length := by omega
          have HJ2 : Hid (∀ k', k' < k + 1 → ∀ j, j < (wayAt q k').length → insB ((wayAt q k').getD j 0) (-12) 12 = true) := by
            show ∀ k', _
            intro k' hk'
            rcases Nat.lt_succ_iff_lt_or_eq.1 hk' with h3 | rfl
            · exact HJ.out k' h3
            · rw [HV.out]; exact HM.out
          have HX3 := hidP (HX.out.trans HX2.out)
          clear q3
          go_wp2
          go_roundw
          case rel => exact ⟨k + 1, by omega, by go_num, HJ2, HX3⟩
          case measure => simp [intOf]; omega
    · have HR : Hid (steepB q = false) := steepB_false fun k' hk' => HJ.out k' (by have := HL.out; omega)
      go_wp2
      go_ret
      exact ⟨ret_bool HR.out.symm, HX.out⟩
end Go.Proofs.YtfikkfbnlegflaaGreatDoor

namespace Go.Proofs.YtfikkfbnlegflaaGreatDoor
open Go.RowKit

/-! the weight of a simple root -/
end Go.Proofs.YtfikkfbnlegflaaGreatDoor

namespace Go.Proofs.YtfikkfbnlegflaaGreatDoor
open Go.RowKit

/-- a call's result, lowered or not -/
def optS (x : Option (List Stp)) : List Stp := x.getD []
theorem optJ_eq (x : Option (List Stp)) : optJ x = (x.isSome, optS x) := by cases x <;> rfl
section
variable {w0 w' : World} {R : Nat} {ts W : List Int} {ta : Option Addr} {tn tc : Nat} {a : Option Addr} {n c k i : Nat} {q : List Stp}
end
end Go.Proofs.YtfikkfbnlegflaaGreatDoor

set_option linter.unusedVariables false
set_option linter.unusedSimpArgs false
namespace Go.Proofs.YtfikkfbnlegflaaGreatDoor
open Go.RowKit

def PathsRes (res : Option (List (List Stp))) (w : World) (e : Ending) (w' : World) : Prop :=
  Ext w w' ∧ ∃ a n c, e = .returned (.slice a n c) ∧ match res with
    | none => a = none ∧ n = 0 ∧ c = 0
    | some L => ∃ ps, OwnPs w' w.heap.size a n c ps ∧ ps.map PEl.q = L
set_option maxRecDepth 100000 in
set_option maxHeartbeats 8000000 in
theorem l9Paths_any (R : Nat) (ta : Option Addr) (tn tc : Nat) (ts : List Int) (aw : Option Addr) (cw : Nat) (W : List Int) (w : World) (hc : IntsAt w ta tn ts) (hcn : tn ≤ 9223372036854775807) (hT : typeB R ts = true) (hw : IntsAt w aw R W) (hnil : aw = none → cw = 0) (hb : wayB R W = true) :
    Calls Tryz.prog 86 #[carV R ta tn tc, .slice aw R cw] w (PathsRes (explF R ts steepB W) w) := by
  have hx1 := Ext.alloc w (.cells #[.int .i64 R, .slice ta tn tc] 31)
  have HC := hidP (fun w' (hx : Ext (w.alloc (.cells #[.int .i64 R, .slice ta tn tc] 31)) w') => (CarAt.new w _ rfl (R : Int) ta tn tc 31).below hx)
  have HX1 := hidP hx1
  have hrk := typeB_rank hT
  have hR4 : R ≤ 4 := by omega
  have HSt := hidP (fun w' (h : Ext w w') => sStraight_any R ta tn tc ts aw cw W w' (hc.below h) hcn hT (hw.below h) hnil hb)
  have HLo := hidP (fun w' (h : Ext w w') (i : Nat) (a : Option Addr) (n c : Nat) (xs : List Stp) hi h1 h2 h3 h4 => l9LowerPath_any R ta tn tc ts i a n c xs w' (hc.below h) hT hi h1 h2 h3 h4)
  have HSk := hidP (seeks_start hR4 ts steepB W)
  obtain ⟨res, hres⟩ : ∃ res, res = explF R ts steepB W := ⟨_, rfl⟩
  rw [← hres] at HSk ⊢
  have hPW : PathP R (straight W) := pathB_iff.1 (by simp [straight, pathB, stepB, wayAt, lenAt, timeAt, hb, List.range_succ])
  have HPW := hidP hPW
  clear hc hT hw hnil hb hx1 hrk hres hPW
  obtain ⟨w1, hw1⟩ : ∃ w1, w1 = w.alloc (.cells #[.int .i64 R, .slice ta tn tc] 31) := ⟨_, rfl⟩
  rw [← hw1] at HC HX1
  obtain ⟨y0, y1⟩ := HC.out w1 (Ext.refl _)
  go_enter Tryz.func86, Tryz.ntmps86
  go_wp2_with fail
  rw [← hw1]
  clear hw1
  refine (HSt.out _ HX1.out).mono ?_
  rintro e w2 ⟨a2, hs2, rfl, ho2, hx2⟩
  have HX2 := hidP (HX1.out.trans hx2)
  have hok : PEl.Ok w2 w1.heap.size ⟨w1.heap.size, w2.heap.size, a2, 1, hs2, straight W⟩ := ⟨ho2, Nat.le_refl _, hx2.size, Nat.le_refl _⟩
  have HPs := hidP (OwnPs.single w2 w1.heap.size _ hok hx2.size)
  have HX3 := hidP (HX2.out.trans (Ext.alloc w2 (.cells #[.slice a2 1 1] 28)))
  have HXc := hidP (hx2.trans (Ext.alloc w2 (.cells #[.slice a2 1 1] 28)))
  clear hx2 ho2 hok y0 y1
  go_wp2
  go_loopw [5, 6] (fun oo kk wr => ∃ (k n c : Nat) (a : Option Addr) (ps : List PEl), oo = .slice a n c ∧ kk = .int .i64 k ∧ k ≤ n ∧ n ≤ 400 ∧ Hid (OwnPs wr w1.heap.size a n c ps) ∧ Hid (∀ e ∈ ps, PathP R e.q) ∧ Hid (Seeks R ts steepB k 0 (ps.map PEl.q) res) ∧ Hid (Ext w1 wr)) (fun _ kk _ => 400 - (intOf kk).toNat)
  case atStart =>
    refine ⟨0, 1, 1, _, _, rfl, rfl, by omega, by omega, HPs, ?_, HSk, HXc⟩
    show ∀ e ∈ _, _
    intro e he
    simp only [List.mem_singleton] at he
    subst he
    exact HPW.out
  case round =>
    clear HPs HSk HXc HX3
    obtain ⟨k, n, c, a, ps, rfl, rfl, hk, hn, HO, HP, HK, HX⟩ := hrel
    have hl := HO.out.len
    by_cases hlt : k < n
    · go_wp2
      go_loopw [5, 7] (fun oo ii wr' => ∃ (i n c : Nat) (a : Option Addr) (ps : List PEl), oo = .slice a n c ∧ ii = .int .i64 i ∧ i ≤ R ∧ k < n ∧ n ≤ 400 ∧ Hid (OwnPs wr' w1.heap.size a n c ps) ∧ Hid (∀ e ∈ ps, PathP R e.q) ∧ Hid (Seeks R ts steepB k i (ps.map PEl.q) res) ∧ Hid (Ext w1 wr')) (fun _ ii _ => R - (intOf ii).toNat)
      case atStart => exact ⟨0, n, c, a, ps, rfl, rfl, Nat.zero_le _, hlt, hn, HO, HP, HK, HX⟩
      case round =>
        clear HO HP HK HX hl
        obtain ⟨i, n2, c2, a2, ps2, rfl, rfl, hi, hkn, hn2, HO, HP, HK, HX⟩ := hrel
        have hl := HO.out.len
        by_cases hiR : i < R
        · obtain ⟨g, rfl, _, _, _, _⟩ := HO.out.form
          obtain ⟨hk2, hcell⟩ := HO.out.cell hkn rfl
          obtain ⟨E, hE0⟩ : ∃ E, E = ps2[k] := ⟨_, rfl⟩
          rw [← hE0] at hcell
          have hEm : E ∈ ps2 := by rw [hE0]; exact List.getElem_mem _
          have hEq : (ps2.map PEl.q).getD k [] = E.q := by rw [hE0]; simp [List.getD_eq_getElem?_getD, hk2]
          have HEq := hidP hEq
          have HEo := hidP (HO.out.each E hEm)
          have HEp := hidP (HP.out E hEm)
          have hcl := World.block_lt_of_cell? _ _ hcell
          have HF : Hid (∀ w', Ext wr w' → CarAt w' w.heap.size R ta tn tc ∧ w'.cell? ⟨g, k, none⟩ = some (.slice E.at_ E.q.length E.cap)) := fun w' hx => ⟨HC.out w' (HX.out.trans hx), (hx.cell (p := ⟨g, k, none⟩) hcl).trans hcell⟩
          have HLw := hidP (fun w' (hx : Ext wr w') => HLo.out w' (HX1.out.trans (HX.out.trans hx)) i E.at_ E.q.length E.cap E.q hiR (HEo.out.own.below hx).stepsAt HEo.out.own.room.1 HEo.out.own.room.2 HEp.out)
          rw [show lowR R ts i E.q = optJ (lowF R ts i E.q) from rfl, optJ_eq] at HLw
          unfold PathRes at HLw
          obtain ⟨f0, f1⟩ := HC.out _ HX.out
          have hE : Ext wr wr.drew := Ext.drew wr
          have hk0 : (0 : Int) ≤ (k : Int) := by omega
          have hk1 : (k : Int) < (n2 : Int) := by omega
          clear hcell hE0 hEm hEq hcl
          go_wp2
          (refine walkR_start (fun w' => Ext wr w') 12 (by kernel_rfl) ?_; simp only [numbered, List.take_succ_cons, List.take_zero, Nat.zero_add, Nat.reduceAdd, List.length_cons, List.length_nil])
          (repeat (first | (refine walkR_still (v := ?_) rfl (by decide +kernel) rfl (fun _ _ _ h => h) hE ?_ ?_; rotate_left; (focus (intro w' hw'; obtain ⟨⟨f0, f1⟩, q1⟩ := HF.out w' hw'; go_simp; all_goals (with_reducible rfl))); simp only [Act.put, List.setIfInBounds_toArray, List.set_cons_zero, List.set_cons_succ]) | (refine walkR_skip rfl (by decide +kernel) rfl (fun _ _ _ h => h) hE ?_; simp only [Act.put, List.setIfInBounds_toArray, List.set_cons_zero, List.set_cons_succ])))
          (refine walkR_only (fun w' => Ext wr w') rfl (by decide +kernel) rfl (fun _ h => h) ?_; intro K hK; go_simp; refine (HLw.out _ hE).mono ?_; rintro e w3 ⟨a3, n3, c3, hs3, rfl, ho3, hx3⟩; refine hK _ _ (hE.trans hx3) ?_; clear hK K; (try simp only [Act.put, List.setIfInBounds_toArray, List.set_cons_zero, List.set_cons_succ]))
          have hE3 := hE.trans hx3
          (repeat (first | (refine walkR_still (v := ?_) rfl (by decide +kernel) rfl (fun _ _ _ h => h) hE3 ?_ ?_; rotate_left; (focus (intro w' hw'; skip; go_simp; all_goals (with_reducible rfl))); simp only [Act.put, List.setIfInBounds_toArray, List.set_cons_zero, List.set_cons_succ]) | (refine walkR_skip rfl (by decide +kernel) rfl (fun _ _ _ h => h) hE3 ?_; simp only [Act.put, List.setIfInBounds_toArray, List.set_cons_zero, List.set_cons_succ])))
          (refine walkR_tail (by rfl) (by kernel_rfl) ?_; simp only [List.drop_succ_cons, List.drop_zero])
          have HX3 := hidP (HX.out.trans hE3)
          have HO3 := hidP (HO.out.below hE3)
          have HT3 := hidP ho3
          have HSz := hidP (show wr.heap.size ≤ wr.drew.heap.size ∧ wr.drew.heap.size ≤ w3.heap.size from ⟨hE.size, hx3.size⟩)
          have HTop := hidP (fun f (hf : f ∈ ps2) => (HO.out.each f hf).top)
          have HGl := hidP (show g < wr.heap.size by obtain ⟨g', e, _, h, _⟩ := HO.out.form; cases e; exact h)
          clear hE hE3 hx3 ho3 HLw HF
          cases hq : lowF R ts i E.q with
          | none =>
            have HK2 := hidP (HK.out.none_ (by rw [List.length_map]; omega) hiR (by rw [HEq.out]; exact hq))
            simp only [Option.isSome_none]
            clear hq HT3
            go_wp2
            go_roundw
            case rel => exact ⟨i + 1, n2, c2, _, ps2, rfl, by go_num, by omega, hkn, hn2, HO3, HP, HK2, HX3⟩
            case measure => simp [intOf]; omega
          | some q =>
            rw [hq] at HT3
            simp only [Option.isSome_some]
            have hpq : pathB R q = true := lowS_path hq
            have hpp := pathB_iff.1 hpq
            have hql : n3 ≤ 60 := by have := hpp.len; have := HT3.out.xl; simp only [optS, Option.getD_some] at this; omega
            have HQ := hidP (show lowF R ts i ((ps2.map PEl.q).getD k []) = some q by rw [HEq.out]; exact hq)
            have HHs := hidP (l9Has_any _ a3 n2 n3 c2 c3 (ps2.map PEl.q) q w3 HO3.out.at_ HT3.out.stepsAt (by omega) (by omega) (fun p hp => by
              obtain ⟨e, he, rfl⟩ := List.mem_map.1 hp
              have := (HP.out e he).len
              omega))
            have HPp := hidP hpp
            clear hq hpq hpp
            cases hct : (ps2.map PEl.q).contains q with
            | true =>
              rw [hct] at HHs
              have HK2 := hidP (HK.out.seen (by rw [List.length_map]; omega) hiR HQ.out hct)
              clear hct
              go_wp2_with fail
              refine HHs.out.mono ?_
              rintro e w4 ⟨rfl, hx4⟩
              have HX4 := hidP (HX3.out.trans hx4)
              have HO4 := hidP (HO3.out.below hx4)
              clear hx4 HHs HX3 HO3 HT3
              go_wp2
              go_roundw
              case rel => exact ⟨i + 1, n2, c2, _, ps2, rfl, by go_num, by omega, hkn, hn2, HO4, HP, HK2, HX4⟩
              case measure => simp [intOf]; omega
            | false =>
              rw [hct] at HHs
              have HCt := hidP hct
              clear hct
              go_wp2_with fail
              refine HHs.out.mono ?_
              rintro e w4 ⟨rfl, hx4⟩
              have HX4 := hidP (HX3.out.trans hx4)
              have HO4 := hidP (HO3.out.below hx4)
              have HT4 := hidP (HT3.out.below hx4)
              have HSp := hidP (l9Steep_any a3 n3 c3 q w4 HT4.out.stepsAt (by omega) (fun k hk => by have := (HPp.out.way k hk).1; omega))
              have hlm : (ps2.map PEl.q).length = n2 := by rw [List.length_map]; exact hl
              have HSz4 := hidP hx4.size
              clear hx4 HHs HX3 HO3 HT3
              cases hst : steepB q with
              | true =>
                rw [hst] at HSp
                have hres := HK.out.given (by rw [List.length_map]; omega) hiR HQ.out HCt.out (by rw [hst]; rfl)
                have HR := hidP hres
                clear hst hres
                go_wp2_with fail
                refine HSp.out.mono ?_
                rintro e w5 ⟨rfl, hx5⟩
                have HXz := hidP (HX1.out.trans (HX4.out.trans hx5))
                clear hx5
                go_wp2
                go_ret
                rw [HR.out]
                exact ⟨HXz.out, _, _, _, rfl, rfl, rfl, rfl⟩
              | false =>
                rw [hst] at HSp
                by_cases h400 : n2 = 400
                · have hres := HK.out.given (by rw [List.length_map]; omega) hiR HQ.out HCt.out (by rw [hlm, h400]; simp)
                  have HR := hidP hres
                  have hb4 : ((n2 : Int) == 400) = true := by simp [h400]
                  clear hst hres h400
                  go_wp2_with fail
                  refine HSp.out.mono ?_
                  rintro e w5 ⟨rfl, hx5⟩
                  have HXz := hidP (HX1.out.trans (HX4.out.trans hx5))
                  clear hx5
                  go_wp2
                  go_ret
                  rw [HR.out]
                  exact ⟨HXz.out, _, _, _, rfl, rfl, rfl, rfl⟩
                · have hK2 := HK.out.more (by rw [List.length_map]; omega) hiR HQ.out HCt.out (by rw [hst, hlm]; simpa using h400)
                  have hb4 : ((n2 : Int) == 400) = false := beq_eq_false_iff_ne.2 (by omega)
                  have hxl := HT4.out.xl
                  simp only [optS, Option.getD_some] at hxl
                  subst hxl
                  have HK2 := hidP hK2
                  have hn3 : n2 + 1 ≤ 400 := by omega
                  clear hst h400 hK2 hlm
                  go_wp2_with fail
                  refine HSp.out.mono ?_
                  rintro e w5 ⟨rfl, hx5⟩
                  have hxa := hx5.trans (Ext.alloc w5 (.cells #[.slice a3 q.length c3] 28))
                  have HX6 := hidP (HX4.out.trans hxa)
                  have HO6 := hidP (HO4.out.below hxa)
                  have HEl : Hid (PEl.Ok (w5.alloc (.cells #[.slice a3 q.length c3] 28)) w1.heap.size ⟨wr.drew.heap.size, w3.heap.size, a3, c3, hs3, q⟩) :=
                    ⟨HT4.out.below hxa, by have := HX.out.size; have := HSz.out.1; show w1.heap.size ≤ wr.drew.heap.size; omega, HSz.out.2, by have := HSz4.out; have := hxa.size; show w3.heap.size ≤ _; omega⟩
                  have HCe : Hid ((w5.alloc (.cells #[.slice a3 q.length c3] 28)).cell? ⟨w5.heap.size, 0, none⟩ = some (PEl.val ⟨wr.drew.heap.size, w3.heap.size, a3, c3, hs3, q⟩)) := (cell_top _ _ _ _ _ rfl).trans rfl
                  clear hx5 hxa
                  go_wp2_with (at_builtin; refine wpList_append_path rfl (.tmp 50) (.tmp 52) rfl w1.heap.size _ n2 c2 ps2 rfl HO6.out w5.heap.size 1 _ rfl HCe.out HEl.out (fun f hf => by have := HTop.out f hf; have := HSz.out.1; show f.hi ≤ wr.drew.heap.size; omega) (fun b o e => by cases e; left; have := HGl.out; have := HSz.out.1; show g < wr.drew.heap.size; omega) (by omega) HX6.out.size ?_; intro a7 c7 w7 ho7 hg7 hn7; have HO7 := hidP ho7; have HX7 := hidP (HO6.out.ext hg7 HX6.out (Nat.le_refl _)); clear ho7 hg7 hn7)
                  have HP7 : Hid (∀ e ∈ ps2 ++ [PEl.mk wr.drew.heap.size w3.heap.size a3 c3 hs3 q], PathP R (PEl.q e)) := by
                    show ∀ e ∈ _, _
                    intro e he
                    rcases List.mem_append.1 he with h | h
                    · exact HP.out e h
                    · simp only [List.mem_singleton] at h
                      subst h
                      exact HPp.out
                  have HK7 : Hid (Seeks R ts steepB k (i + 1) ((ps2 ++ [PEl.mk wr.drew.heap.size w3.heap.size a3 c3 hs3 q]).map PEl.q) res) := by
                    show Seeks _ _ _ _ _ _ _
                    rw [List.map_append]
                    exact HK2.out
                  go_roundw
                  case rel => exact ⟨i + 1, n2 + 1, c7, _, _, rfl, by go_num, by omega, by omega, by omega, HO7, HP7, HK7, HX7⟩
                  case measure => simp [intOf]; omega
        · obtain rfl : i = R := by omega
          have HK2 := hidP (HK.out.next (by rw [List.length_map]; omega) hiR)
          obtain ⟨f0, f1⟩ := HC.out _ HX.out
          go_wp2
          go_roundw
          case rel => exact ⟨k + 1, n2, c2, a2, ps2, rfl, by go_num, by omega, hn2, HO, HP, HK2, HX⟩
          case measure => simp [intOf]; omega
    · obtain rfl : n = k := by omega
      have hres := HK.out.done (by rw [List.length_map]; omega)
      have HXz := hidP (HX1.out.trans HX.out)
      go_wp2
      go_ret
      rw [hres]
      exact ⟨HXz.out, _, _, _, rfl, ps, HO.out.base HX1.out.size, rfl⟩
end Go.Proofs.YtfikkfbnlegflaaGreatDoor

namespace Go.Proofs.YtfikkfbnlegflaaGreatDoor
open Go.RowKit

/-- how many numbers the first k elements hold -/
def mkAt (us : List (List Int × Int)) : Nat → Nat
  | 0 => 0
  | k + 1 => mkAt us k + ((us.getD k ([], 0)).1.length + 1)
theorem mkAt_mono (us : List (List Int × Int)) : ∀ (d k : Nat), mkAt us k ≤ mkAt us (k + d)
  | 0, k => Nat.le_refl _
  | d + 1, k => Nat.le_trans (mkAt_mono us d k) (by show _ ≤ mkAt us (k + d) + _; omega)
theorem mkAt_le (us : List (List Int × Int)) {j k : Nat} (h : j ≤ k) : mkAt us j ≤ mkAt us k := by
  have := mkAt_mono us (k - j) j
  rwa [show j + (k - j) = k by omega] at this
theorem mkAt_len (us : List (List Int × Int)) : ∀ n, n ≤ mkAt us n
  | 0 => Nat.le_refl _
  | n + 1 => by have := mkAt_len us n; show _ ≤ mkAt us n + _; omega

set_option maxHeartbeats 1000000 in
theorem eqStep_any (m1 m2 : Int) (a1 a2 : Option Addr) (n1 n2 c1 c2 : Nat) (xs ys : List Int) (w : World) (h1 : IntsAt w a1 n1 xs) (h2 : IntsAt w a2 n2 ys) (hm1 : n1 ≤ 9223372036854775807) (hm2 : n2 ≤ 9223372036854775807) :
    Calls Tryz.prog 59 #[.agg #[.slice a1 n1 c1, .int .i64 m1], .agg #[.slice a2 n2 c2, .int .i64 m2]] w fun e w' => e = .returned (.bool ((xs == ys) && (m1 == m2))) ∧ Ext w w' := by
  have HQ := hidP (fun w' (hx : Ext w w') => eqIntS_any a1 a2 n1 n2 c1 c2 xs ys w' (h1.below hx) (h2.below hx) hm1 hm2)
  have hx0 := (Ext.alloc w (.cells #[.slice a1 n1 c1, .int .i64 m1] 69)).trans (Ext.alloc _ (.cells #[.slice a2 n2 c2, .int .i64 m2] 69))
  have HX0 := hidP hx0
  clear h1 h2 hx0
  cases hb : (xs == ys)
  · rw [hb] at HQ
    go_enter Tryz.func59, Tryz.ntmps59
    go_wp2_with (go_at_call 44; refine (HQ.out _ HX0.out).mono ?_; rintro e w' ⟨rfl, m, rfl⟩)
    go_ret
    exact ⟨rfl, HX0.out.trans (Ext.drewN _ _)⟩
  · rw [hb] at HQ
    have hz : w.heap.size + 1 < ((w.alloc (.cells #[.slice a1 n1 c1, .int .i64 m1] 69)).alloc (.cells #[.slice a2 n2 c2, .int .i64 m2] 69)).heap.size := by simp
    by_cases hmm : m1 = m2
    · have hb2 : (m1 != m2) = false := by simp [hmm]
      have HR : Hid ((true && (m1 == m2)) = true) := by show _ = _; simp [hmm]
      clear hmm
      go_enter Tryz.func59, Tryz.ntmps59
      go_wp2_with (go_at_call 44; refine (HQ.out _ HX0.out).mono ?_; rintro e w' ⟨rfl, m, rfl⟩)
      go_ret
      exact ⟨ret_bool HR.out.symm, HX0.out.trans (Ext.drewN _ _)⟩
    · have hb2 : (m1 != m2) = true := by simp [hmm]
      have HR : Hid ((true && (m1 == m2)) = false) := by show _ = _; simp [hmm]
      clear hmm
      go_enter Tryz.func59, Tryz.ntmps59
      go_wp2_with (go_at_call 44; refine (HQ.out _ HX0.out).mono ?_; rintro e w' ⟨rfl, m, rfl⟩)
      go_ret
      exact ⟨ret_bool HR.out.symm, HX0.out.trans (Ext.drewN _ _)⟩
set_option maxHeartbeats 1000000 in
theorem eqStepS_any (a1 a2 : Option Addr) (n1 n2 c1 c2 : Nat) (us vs : List (List Int × Int)) (w : World) (h1 : TermsAt w a1 n1 us) (h2 : TermsAt w a2 n2 vs) (hn1 : n1 ≤ 9223372036854775807) (hn2 : n2 ≤ 9223372036854775807) :
    Calls Tryz.prog 17 #[.slice a1 n1 c1, .slice a2 n2 c2] w fun e w' => e = .returned (.bool (us == vs)) ∧ Ext w w' := by
  have L1 := hidP h1.len
  have L2 := hidP h2.len
  have G1 := hidP h1
  have G2 := hidP h2
  clear h1 h2
  by_cases hne : n1 = n2
  · subst hne
    have hb : (((n1 : Nat) : Int) != (n1 : Nat)) = false := by simp
    go_enter Tryz.func17, Tryz.ntmps17
    go_wp2
    go_loopw [5] (fun i wr => ∃ k : Nat, k ≤ n1 ∧ Hid (∀ j, j < k → us.getD j ([], 0) = vs.getD j ([], 0)) ∧ i = .int .i64 k ∧ Hid (Ext w wr)) (fun i _ => n1 - (intOf i).toNat)
    case atStart => exact ⟨0, Nat.zero_le _, fun j h => by omega, rfl, Ext.refl _⟩
    case round =>
      obtain ⟨k, hk, HJ, rfl, HX⟩ := hrel
      by_cases hlt : k < n1
      · obtain ⟨b, o, aw, cw, rfl, _⟩ := G1.out.get k hlt
        obtain ⟨b', o', aw', cw', rfl, _⟩ := G2.out.get k hlt
        obtain ⟨aw, cw, hm, hq⟩ := G1.out.keeps k hlt
        obtain ⟨aw1, cw1, hm1, hq1⟩ := G2.out.keeps k hlt
        have HQ := hidP hq
        have HQ1 := hidP hq1
        have HE := hidP (fun w' (hx : Ext w w') => eqStep_any (us.getD k ([], 0)).2 (vs.getD k ([], 0)).2 aw aw1 _ _ cw cw1 _ _ w' (HQ.out w' hx).2.2 (HQ1.out w' hx).2.2 hm hm1)
        have HEQ : Hid (((us.getD k ([], 0)).1 == (vs.getD k ([], 0)).1 && (us.getD k ([], 0)).2 == (vs.getD k ([], 0)).2) = true → us.getD k ([], 0) = vs.getD k ([], 0)) := by
          intro h
          simp only [Bool.and_eq_true, beq_iff_eq] at h
          exact Prod.ext h.1 h.2
        have HNE : Hid (((us.getD k ([], 0)).1 == (vs.getD k ([], 0)).1 && (us.getD k ([], 0)).2 == (vs.getD k ([], 0)).2) = false → (us == vs) = false) := by
          intro h
          rw [beq_eq_false_iff_ne]
          rintro rfl
          simp at h
        have HS := hidP (fun (hs : us.getD k ([], 0) = vs.getD k ([], 0)) => (by
          intro j hj
          rcases Nat.lt_succ_iff_lt_or_eq.1 hj with h3 | rfl
          · exact HJ.out j h3
          · exact hs : ∀ j, j < k + 1 → us.getD j ([], 0) = vs.getD j ([], 0)))
        clear hq hq1
        generalize us.getD k ([], 0) = U at *
        generalize vs.getD k ([], 0) = V at *
        generalize (U.1 == V.1 && U.2 == V.2) = B at *
        have hE : Ext wr wr.drew := Ext.drew wr
        cases B
        all_goals
          go_wp2
          (refine walkR_start (fun w' => Ext wr w') 10 (by kernel_rfl) ?_; simp only [numbered, List.take_succ_cons, List.take_zero, Nat.zero_add, Nat.reduceAdd, List.length_cons, List.length_nil])
          (repeat (first | (refine walkR_still (v := ?_) rfl (by decide +kernel) rfl (fun _ _ _ h => h) hE ?_ ?_; rotate_left; (focus (intro w' hw'; obtain ⟨q, q', _⟩ := HQ.out w' (HX.out.trans hw'); obtain ⟨p, p', _⟩ := HQ1.out w' (HX.out.trans hw'); go_simp; all_goals (with_reducible rfl))); simp only [Act.put, List.setIfInBounds_toArray, List.set_cons_zero, List.set_cons_succ]) | (refine walkR_skip rfl (by decide +kernel) rfl (fun _ _ _ h => h) hE ?_; simp only [Act.put, List.setIfInBounds_toArray, List.set_cons_zero, List.set_cons_succ])))
          (refine walkR_only (fun w' => Ext wr w') rfl (by decide +kernel) rfl (fun _ h => h) ?_; intro K hK; go_simp; refine (HE.out _ (HX.out.trans hE)).mono ?_; rintro e w1 ⟨rfl, hx1⟩; refine hK _ _ (hE.trans hx1) ?_; clear hK K; (try simp only [Act.put, List.setIfInBounds_toArray, List.set_cons_zero, List.set_cons_succ]))
          have hE1 := hE.trans hx1
          clear hx1
          (repeat (first | (refine walkR_still (v := ?_) rfl (by decide +kernel) rfl (fun _ _ _ h => h) hE1 ?_ ?_; rotate_left; (focus (intro w' hw'; skip; go_simp; all_goals (with_reducible rfl))); simp only [Act.put, List.setIfInBounds_toArray, List.set_cons_zero, List.set_cons_succ]) | (refine walkR_skip rfl (by decide +kernel) rfl (fun _ _ _ h => h) hE1 ?_; simp only [Act.put, List.setIfInBounds_toArray, List.set_cons_zero, List.set_cons_succ])))
          (refine walkR_tail (by rfl) (by kernel_rfl) ?_; simp only [List.drop_succ_cons, List.drop_zero])
          go_wp2
        · go_ret
          exact ⟨ret_bool (HNE.out (by trivial)).symm, HX.out.trans hE1⟩
        · have hs := hidP (HS.out (HEQ.out (by trivial)))
          go_roundw
          case rel => exact ⟨k + 1, by omega, hs, by go_num, HX.out.trans hE1⟩
          case measure => simp [intOf]; omega
      · have HB : Hid ((us == vs) = true) := by
          show _ = _
          rw [beq_iff_eq]
          apply List.ext_getElem (L1.out.trans L2.out.symm)
          intro j p1 p2
          have := HJ.out j (by have := L1.out; omega)
          simpa [List.getD_eq_getElem?_getD, List.getElem?_eq_getElem p1, List.getElem?_eq_getElem p2] using this
        go_wp2
        go_ret
        exact ⟨ret_bool HB.out.symm, HX.out⟩
  · have HB : Hid ((us == vs) = false) := by
      show _ = _
      rw [beq_eq_false_iff_ne]
      exact fun e => hne (by rw [← L1.out, ← L2.out, e])
    have hb : (((n1 : Nat) : Int) != (n2 : Nat)) = true := bne_iff_ne.2 (by omega)
    clear hne
    go_enter Tryz.func17, Tryz.ntmps17
    go_wp2
    go_ret
    exact ⟨ret_bool HB.out.symm, Ext.refl _⟩
end Go.Proofs.YtfikkfbnlegflaaGreatDoor
