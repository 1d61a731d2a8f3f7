/-
  FnExactTensorByPaths: the program's TensorByPaths returns what the reference's returns, in memory of its own, and leaves its arguments.
  No condition.
  FnExactTensorByPaths: the walk.
  The law's own functions on terms. Printed by gen/chr5.py.
  The reference's TensorByPaths.
  The program's TensorByPaths.
  The program's PathCharacter.
  The program's PathsOf.
  The map by which the program knows the paths it has seen.
  Paths with the same text are the same. No program in sight.
  The text of a path, by which the program knows it.
  The reference's PathsOf.
  The reference's search of the paths of a weight.
-/
import Derived.Test.YtdhlapppahkjeaaGreatDoorMd10
import Derived.Test.YtdhlapppahkjeaaGreatDoorTie
import Derived.Test.YtdhlapppahkjeaaGreatDoorCards
import Derived.ProofKit
import Derived.OpenShut
import Derived.ChangeOld
import Derived.ChangeVars
import Derived.JoinedOf
import Derived.LaidLaws
import Derived.LaidHandle
import Derived.SevenTiedAt
import Derived.Deep.DeepLaidRun
import Derived.Shelf.Vars
import Derived.LaidMore
import Derived.Lay
import Derived.Stop.LaidErr
import Derived.Lib.LaidTab
set_option linter.unusedVariables false
set_option linter.unusedSimpArgs false
namespace Go.Proofs.YtdhlapppahkjeaaGreatDoor
open Go.RowKit

def PathsRes (res : Option (List (List Stp))) (w : World) (e : Ending) (w' : World) : Prop :=
  Ext w w' ∧ ∃ a n c, e = .returned (.slice a n c) ∧ match res with
    | none => a = none ∧ n = 0 ∧ c = 0
    | some L => ∃ ps, OwnPs w' w.heap.size a n c ps ∧ ps.map PEl.q = L
set_option maxRecDepth 100000 in
set_option maxHeartbeats 8000000 in
theorem l9Paths_any (R : Nat) (ta : Option Addr) (tn tc : Nat) (ts : List Int) (aw : Option Addr) (cw : Nat) (W : List Int) (w : World) (hc : IntsAt w ta tn ts) (hcn : tn ≤ 9223372036854775807) (hT : typeB R ts = true) (hw : IntsAt w aw R W) (hnil : aw = none → cw = 0) (hb : wayB R W = true) :
    Calls Tryz.prog 44 #[carV R ta tn tc, .slice aw R cw] w (PathsRes (explF R ts steepB W) w) := by
  have hx1 := Ext.alloc w (.cells #[.int .i64 R, .slice ta tn tc] 29)
  have HC := hidP (fun w' (hx : Ext (w.alloc (.cells #[.int .i64 R, .slice ta tn tc] 29)) w') => (CarAt.new w _ rfl (R : Int) ta tn tc 29).below hx)
  have HX1 := hidP hx1
  have hrk := typeB_rank hT
  have hR4 : R ≤ 4 := by omega
  have HSt := hidP (fun w' (h : Ext w w') => sStraight_any R ta tn tc ts aw cw W w' (hc.below h) hcn hT (hw.below h) hnil hb)
  have HLo := hidP (fun w' (h : Ext w w') (i : Nat) (a : Option Addr) (n c : Nat) (xs : List Stp) hi h1 h2 h3 h4 => l9LowerPath_any R ta tn tc ts i a n c xs w' (hc.below h) hT hi h1 h2 h3 h4)
  have HSk := hidP (seeks_start hR4 ts steepB W)
  obtain ⟨res, hres⟩ : ∃ res, res = explF R ts steepB W := ⟨_, rfl⟩
  rw [← hres] at HSk ⊢
  have hPW : PathP R (straight W) := pathB_iff.1 (by simp [straight, pathB, stepB, wayAt, lenAt, timeAt, hb, List.range_succ])
  have HPW := hidP hPW
  clear hc hT hw hnil hb hx1 hrk hres hPW
  obtain ⟨w1, hw1⟩ : ∃ w1, w1 = w.alloc (.cells #[.int .i64 R, .slice ta tn tc] 29) := ⟨_, rfl⟩
  rw [← hw1] at HC HX1
  obtain ⟨y0, y1⟩ := HC.out w1 (Ext.refl _)
  go_enter Tryz.func44, Tryz.ntmps44
  go_wp2_with fail
  rw [← hw1]
  clear hw1
  refine (HSt.out _ HX1.out).mono ?_
  rintro e w2 ⟨a2, hs2, rfl, ho2, hx2⟩
  have HX2 := hidP (HX1.out.trans hx2)
  have hok : PEl.Ok w2 w1.heap.size ⟨w1.heap.size, w2.heap.size, a2, 1, hs2, straight W⟩ := ⟨ho2, Nat.le_refl _, hx2.size, Nat.le_refl _⟩
  have HPs := hidP (OwnPs.single w2 w1.heap.size _ hok hx2.size)
  have HX3 := hidP (HX2.out.trans (Ext.alloc w2 (.cells #[.slice a2 1 1] 45)))
  have HXc := hidP (hx2.trans (Ext.alloc w2 (.cells #[.slice a2 1 1] 45)))
  clear hx2 ho2 hok y0 y1
  go_wp2
  go_loopw [5, 6] (fun oo kk wr => ∃ (k n c : Nat) (a : Option Addr) (ps : List PEl), oo = .slice a n c ∧ kk = .int .i64 k ∧ k ≤ n ∧ n ≤ 400 ∧ Hid (OwnPs wr w1.heap.size a n c ps) ∧ Hid (∀ e ∈ ps, PathP R e.q) ∧ Hid (Seeks R ts steepB k 0 (ps.map PEl.q) res) ∧ Hid (Ext w1 wr)) (fun _ kk _ => 400 - (intOf kk).toNat)
  case atStart =>
    refine ⟨0, 1, 1, _, _, rfl, rfl, by omega, by omega, HPs, ?_, HSk, HXc⟩
    show ∀ e ∈ _, _
    intro e he
    simp only [List.mem_singleton] at he
    subst he
    exact HPW.out
  case round =>
    clear HPs HSk HXc HX3
    obtain ⟨k, n, c, a, ps, rfl, rfl, hk, hn, HO, HP, HK, HX⟩ := hrel
    have hl := HO.out.len
    by_cases hlt : k < n
    · go_wp2
      go_loopw [5, 7] (fun oo ii wr' => ∃ (i n c : Nat) (a : Option Addr) (ps : List PEl), oo = .slice a n c ∧ ii = .int .i64 i ∧ i ≤ R ∧ k < n ∧ n ≤ 400 ∧ Hid (OwnPs wr' w1.heap.size a n c ps) ∧ Hid (∀ e ∈ ps, PathP R e.q) ∧ Hid (Seeks R ts steepB k i (ps.map PEl.q) res) ∧ Hid (Ext w1 wr')) (fun _ ii _ => R - (intOf ii).toNat)
      case atStart => exact ⟨0, n, c, a, ps, rfl, rfl, Nat.zero_le _, hlt, hn, HO, HP, HK, HX⟩
      case round =>
        clear HO HP HK HX hl
        obtain ⟨i, n2, c2, a2, ps2, rfl, rfl, hi, hkn, hn2, HO, HP, HK, HX⟩ := hrel
        have hl := HO.out.len
        by_cases hiR : i < R
        · obtain ⟨g, rfl, _, _, _, _⟩ := HO.out.form
          obtain ⟨hk2, hcell⟩ := HO.out.cell hkn rfl
          obtain ⟨E, hE0⟩ : ∃ E, E = ps2[k] := ⟨_, rfl⟩
          rw [← hE0] at hcell
          have hEm : E ∈ ps2 := by rw [hE0]; exact List.getElem_mem _
          have hEq : (ps2.map PEl.q).getD k [] = E.q := by rw [hE0]; simp [List.getD_eq_getElem?_getD, hk2]
          have HEq := hidP hEq
          have HEo := hidP (HO.out.each E hEm)
          have HEp := hidP (HP.out E hEm)
          have hcl := World.block_lt_of_cell? _ _ hcell
          have HF : Hid (∀ w', Ext wr w' → CarAt w' w.heap.size R ta tn tc ∧ w'.cell? ⟨g, k, none⟩ = some (.slice E.at_ E.q.length E.cap)) := fun w' hx => ⟨HC.out w' (HX.out.trans hx), (hx.cell (p := ⟨g, k, none⟩) hcl).trans hcell⟩
          have HLw := hidP (fun w' (hx : Ext wr w') => HLo.out w' (HX1.out.trans (HX.out.trans hx)) i E.at_ E.q.length E.cap E.q hiR (HEo.out.own.below hx).stepsAt HEo.out.own.room.1 HEo.out.own.room.2 HEp.out)
          rw [show lowR R ts i E.q = optJ (lowF R ts i E.q) from rfl, optJ_eq] at HLw
          unfold PathRes at HLw
          obtain ⟨f0, f1⟩ := HC.out _ HX.out
          have hE : Ext wr wr.drew := Ext.drew wr
          have hk0 : (0 : Int) ≤ (k : Int) := by omega
          have hk1 : (k : Int) < (n2 : Int) := by omega
          clear hcell hE0 hEm hEq hcl
          go_wp2
          (refine walkR_start (fun w' => Ext wr w') 12 (by kernel_rfl) ?_; simp only [numbered, List.take_succ_cons, List.take_zero, Nat.zero_add, Nat.reduceAdd, List.length_cons, List.length_nil])
          (repeat (first | (refine walkR_still (v := ?_) rfl (by decide +kernel) rfl (fun _ _ _ h => h) hE ?_ ?_; rotate_left; (focus (intro w' hw'; obtain ⟨⟨f0, f1⟩, q1⟩ := HF.out w' hw'; go_simp; all_goals (with_reducible rfl))); simp only [Act.put, List.setIfInBounds_toArray, List.set_cons_zero, List.set_cons_succ]) | (refine walkR_skip rfl (by decide +kernel) rfl (fun _ _ _ h => h) hE ?_; simp only [Act.put, List.setIfInBounds_toArray, List.set_cons_zero, List.set_cons_succ])))
          (refine walkR_only (fun w' => Ext wr w') rfl (by decide +kernel) rfl (fun _ h => h) ?_; intro K hK; go_simp; refine (HLw.out _ hE).mono ?_; rintro e w3 ⟨a3, n3, c3, hs3, rfl, ho3, hx3⟩; refine hK _ _ (hE.trans hx3) ?_; clear hK K; (try simp only [Act.put, List.setIfInBounds_toArray, List.set_cons_zero, List.set_cons_succ]))
          have hE3 := hE.trans hx3
          (repeat (first | (refine walkR_still (v := ?_) rfl (by decide +kernel) rfl (fun _ _ _ h => h) hE3 ?_ ?_; rotate_left; (focus (intro w' hw'; skip; go_simp; all_goals (with_reducible rfl))); simp only [Act.put, List.setIfInBounds_toArray, List.set_cons_zero, List.set_cons_succ]) | (refine walkR_skip rfl (by decide +kernel) rfl (fun _ _ _ h => h) hE3 ?_; simp only [Act.put, List.setIfInBounds_toArray, List.set_cons_zero, List.set_cons_succ])))
          (refine walkR_tail (by rfl) (by kernel_rfl) ?_; simp only [List.drop_succ_cons, List.drop_zero])
          have HX3 := hidP (HX.out.trans hE3)
          have HO3 := hidP (HO.out.below hE3)
          have HT3 := hidP ho3
          have HSz := hidP (show wr.heap.size ≤ wr.drew.heap.size ∧ wr.drew.heap.size ≤ w3.heap.size from ⟨hE.size, hx3.size⟩)
          have HTop := hidP (fun f (hf : f ∈ ps2) => (HO.out.each f hf).top)
          have HGl := hidP (show g < wr.heap.size by obtain ⟨g', e, _, h, _⟩ := HO.out.form; cases e; exact h)
          clear hE hE3 hx3 ho3 HLw HF
          cases hq : lowF R ts i E.q with
          | none =>
            have HK2 := hidP (HK.out.none_ (by rw [List.length_map]; omega) hiR (by rw [HEq.out]; exact hq))
            simp only [Option.isSome_none]
            clear hq HT3
            go_wp2
            go_roundw
            case rel => exact ⟨i + 1, n2, c2, _, ps2, rfl, by go_num, by omega, hkn, hn2, HO3, HP, HK2, HX3⟩
            case measure => simp [intOf]; omega
          | some q =>
            rw [hq] at HT3
            simp only [Option.isSome_some]
            have hpq : pathB R q = true := lowS_path hq
            have hpp := pathB_iff.1 hpq
            have hql : n3 ≤ 60 := by have := hpp.len; have := HT3.out.xl; simp only [optS, Option.getD_some] at this; omega
            have HQ := hidP (show lowF R ts i ((ps2.map PEl.q).getD k []) = some q by rw [HEq.out]; exact hq)
            have HHs := hidP (l9Has_any _ a3 n2 n3 c2 c3 (ps2.map PEl.q) q w3 HO3.out.at_ HT3.out.stepsAt (by omega) (by omega) (fun p hp => by
              obtain ⟨e, he, rfl⟩ := List.mem_map.1 hp
              have := (HP.out e he).len
              omega))
            have HPp := hidP hpp
            clear hq hpq hpp
            cases hct : (ps2.map PEl.q).contains q with
            | true =>
              rw [hct] at HHs
              have HK2 := hidP (HK.out.seen (by rw [List.length_map]; omega) hiR HQ.out hct)
              clear hct
              go_wp2_with fail
              refine HHs.out.mono ?_
              rintro e w4 ⟨rfl, hx4⟩
              have HX4 := hidP (HX3.out.trans hx4)
              have HO4 := hidP (HO3.out.below hx4)
              clear hx4 HHs HX3 HO3 HT3
              go_wp2
              go_roundw
              case rel => exact ⟨i + 1, n2, c2, _, ps2, rfl, by go_num, by omega, hkn, hn2, HO4, HP, HK2, HX4⟩
              case measure => simp [intOf]; omega
            | false =>
              rw [hct] at HHs
              have HCt := hidP hct
              clear hct
              go_wp2_with fail
              refine HHs.out.mono ?_
              rintro e w4 ⟨rfl, hx4⟩
              have HX4 := hidP (HX3.out.trans hx4)
              have HO4 := hidP (HO3.out.below hx4)
              have HT4 := hidP (HT3.out.below hx4)
              have HSp := hidP (l9Steep_any a3 n3 c3 q w4 HT4.out.stepsAt (by omega) (fun k hk => by have := (HPp.out.way k hk).1; omega))
              have hlm : (ps2.map PEl.q).length = n2 := by rw [List.length_map]; exact hl
              have HSz4 := hidP hx4.size
              clear hx4 HHs HX3 HO3 HT3
              cases hst : steepB q with
              | true =>
                rw [hst] at HSp
                have hres := HK.out.given (by rw [List.length_map]; omega) hiR HQ.out HCt.out (by rw [hst]; rfl)
                have HR := hidP hres
                clear hst hres
                go_wp2_with fail
                refine HSp.out.mono ?_
                rintro e w5 ⟨rfl, hx5⟩
                have HXz := hidP (HX1.out.trans (HX4.out.trans hx5))
                clear hx5
                go_wp2
                go_ret
                rw [HR.out]
                exact ⟨HXz.out, _, _, _, rfl, rfl, rfl, rfl⟩
              | false =>
                rw [hst] at HSp
                by_cases h400 : n2 = 400
                · have hres := HK.out.given (by rw [List.length_map]; omega) hiR HQ.out HCt.out (by rw [hlm, h400]; simp)
                  have HR := hidP hres
                  have hb4 : ((n2 : Int) == 400) = true := by simp [h400]
                  clear hst hres h400
                  go_wp2_with fail
                  refine HSp.out.mono ?_
                  rintro e w5 ⟨rfl, hx5⟩
                  have HXz := hidP (HX1.out.trans (HX4.out.trans hx5))
                  clear hx5
                  go_wp2
                  go_ret
                  rw [HR.out]
                  exact ⟨HXz.out, _, _, _, rfl, rfl, rfl, rfl⟩
                · have hK2 := HK.out.more (by rw [List.length_map]; omega) hiR HQ.out HCt.out (by rw [hst, hlm]; simpa using h400)
                  have hb4 : ((n2 : Int) == 400) = false := beq_eq_false_iff_ne.2 (by omega)
                  have hxl := HT4.out.xl
                  simp only [optS, Option.getD_some] at hxl
                  subst hxl
                  have HK2 := hidP hK2
                  have hn3 : n2 + 1 ≤ 400 := by omega
                  clear hst h400 hK2 hlm
                  go_wp2_with fail
                  refine HSp.out.mono ?_
                  rintro e w5 ⟨rfl, hx5⟩
                  have hxa := hx5.trans (Ext.alloc w5 (.cells #[.slice a3 q.length c3] 45))
                  have HX6 := hidP (HX4.out.trans hxa)
                  have HO6 := hidP (HO4.out.below hxa)
                  have HEl : Hid (PEl.Ok (w5.alloc (.cells #[.slice a3 q.length c3] 45)) w1.heap.size ⟨wr.drew.heap.size, w3.heap.size, a3, c3, hs3, q⟩) :=
                    ⟨HT4.out.below hxa, by have := HX.out.size; have := HSz.out.1; show w1.heap.size ≤ wr.drew.heap.size; omega, HSz.out.2, by have := HSz4.out; have := hxa.size; show w3.heap.size ≤ _; omega⟩
                  have HCe : Hid ((w5.alloc (.cells #[.slice a3 q.length c3] 45)).cell? ⟨w5.heap.size, 0, none⟩ = some (PEl.val ⟨wr.drew.heap.size, w3.heap.size, a3, c3, hs3, q⟩)) := (cell_top _ _ _ _ _ rfl).trans rfl
                  clear hx5 hxa
                  go_wp2_with (at_builtin; refine wpList_append_path rfl (.tmp 50) (.tmp 52) rfl w1.heap.size _ n2 c2 ps2 rfl HO6.out w5.heap.size 1 _ rfl HCe.out HEl.out (fun f hf => by have := HTop.out f hf; have := HSz.out.1; show f.hi ≤ wr.drew.heap.size; omega) (fun b o e => by cases e; left; have := HGl.out; have := HSz.out.1; show g < wr.drew.heap.size; omega) (by omega) HX6.out.size ?_; intro a7 c7 w7 ho7 hg7 hn7; have HO7 := hidP ho7; have HX7 := hidP (HO6.out.ext hg7 HX6.out (Nat.le_refl _)); clear ho7 hg7 hn7)
                  have HP7 : Hid (∀ e ∈ ps2 ++ [PEl.mk wr.drew.heap.size w3.heap.size a3 c3 hs3 q], PathP R (PEl.q e)) := by
                    show ∀ e ∈ _, _
                    intro e he
                    rcases List.mem_append.1 he with h | h
                    · exact HP.out e h
                    · simp only [List.mem_singleton] at h
                      subst h
                      exact HPp.out
                  have HK7 : Hid (Seeks R ts steepB k (i + 1) ((ps2 ++ [PEl.mk wr.drew.heap.size w3.heap.size a3 c3 hs3 q]).map PEl.q) res) := by
                    show Seeks _ _ _ _ _ _ _
                    rw [List.map_append]
                    exact HK2.out
                  go_roundw
                  case rel => exact ⟨i + 1, n2 + 1, c7, _, _, rfl, by go_num, by omega, by omega, by omega, HO7, HP7, HK7, HX7⟩
                  case measure => simp [intOf]; omega
        · obtain rfl : i = R := by omega
          have HK2 := hidP (HK.out.next (by rw [List.length_map]; omega) hiR)
          obtain ⟨f0, f1⟩ := HC.out _ HX.out
          go_wp2
          go_roundw
          case rel => exact ⟨k + 1, n2, c2, a2, ps2, rfl, by go_num, by omega, hn2, HO, HP, HK2, HX⟩
          case measure => simp [intOf]; omega
    · obtain rfl : n = k := by omega
      have hres := HK.out.done (by rw [List.length_map]; omega)
      have HXz := hidP (HX1.out.trans HX.out)
      go_wp2
      go_ret
      rw [hres]
      exact ⟨HXz.out, _, _, _, rfl, ps, HO.out.base HX1.out.size, rfl⟩
end Go.Proofs.YtdhlapppahkjeaaGreatDoor

set_option linter.unusedVariables false
set_option linter.unusedSimpArgs false
namespace Go.Proofs.YtdhlapppahkjeaaGreatDoor
open Go.RowKit

theorem pathsL_of {res : Option (List (List Stp))} {w w' : World} {e : Ending} (h : PathsRes res w e w') : ∃ a n c ps, e = .returned (.slice a n c) ∧ OwnL w' w.heap.size w'.heap.size a n c ps ∧ ps.map PEl.q = res.getD [] ∧ Ext w w' := by
  obtain ⟨hx, a, n, c, rfl, h⟩ := h
  cases res with
  | none => obtain ⟨rfl, rfl, rfl⟩ := h; exact ⟨_, _, _, [], rfl, ownL_none _ _ _, rfl, hx⟩
  | some L => obtain ⟨ps, ho, hq⟩ := h; exact ⟨a, n, c, ps, rfl, ho.ownL, hq, hx⟩
set_option maxHeartbeats 4000000 in
theorem sPathsOf_any (r : Int) (ta : Option Addr) (tn tc : Nat) (ts : List Int) (aw : Option Addr) (nw cw : Nat) (W : List Int) (w : World) (hc : IntsAt w ta tn ts) (hw : IntsAt w aw nw W) (hnil : aw = none → cw = 0) (hcn : tn ≤ 9223372036854775807) (hwn : nw ≤ 9223372036854775807) :
    PathsL 20 #[carV r ta tn tc, .slice aw nw cw] w (pathsJ r ts W) := by
  unfold PathsL
  have hx1 := Ext.alloc w (.cells #[.int .i64 r, .slice ta tn tc] 29)
  have HC := hidP (fun w' (hx : Ext (w.alloc (.cells #[.int .i64 r, .slice ta tn tc] 29)) w') => (CarAt.new w _ rfl r ta tn tc 29).below hx)
  have HX1 := hidP hx1
  have HIs := hidP (sIsCartan_any r ta tn tc ts _ (hc.below hx1) hcn)
  have HW := hidP hw
  have Hc := hidP hc
  have HN := hidP hnil
  clear hc hw hx1 hnil
  obtain ⟨w1, hw1⟩ : ∃ w1, w1 = w.alloc (.cells #[.int .i64 r, .slice ta tn tc] 29) := ⟨_, rfl⟩
  rw [← hw1] at HC HX1 HIs
  obtain ⟨f0, f1⟩ := HC.out w1 (Ext.refl w1)
  cases hT : typeB r ts with
  | false =>
    have HJ : Hid (pathsJ r ts W = []) := by
      show _ = _
      unfold pathsJ pathsR
      rw [hT]
      rfl
    rw [hT] at HIs
    clear hT
    go_enter Tryz.func20, Tryz.ntmps20
    go_wp2_with fail
    rw [← hw1]
    clear hw1
    refine HIs.out.mono ?_
    rintro e w2 ⟨rfl, hx⟩
    have HX := hidP (HX1.out.trans hx)
    clear hx
    go_wp2
    go_ret
    exact ⟨none, 0, 0, [], rfl, ownL_none _ _ _, HJ.out.symm, HX.out⟩
  | true =>
    have hr := typeB_rank hT
    obtain ⟨R, rfl⟩ : ∃ R : Nat, r = R := ⟨r.toNat, by omega⟩
    rw [hT] at HIs
    have HTy := hidP hT
    have HHi := hidP (fun w' (hx : Ext w w') => l8Highest_any R ta tn tc aw nw cw W w' (HW.out.below hx) hwn (by omega))
    cases hH : highB R W with
    | false =>
      have HJ : Hid (pathsJ R ts W = []) := by
        show _ = _
        unfold pathsJ pathsR
        rw [hT, Int.toNat_natCast, hH]
        rfl
      rw [hH] at HHi
      clear hT hH
      go_enter Tryz.func20, Tryz.ntmps20
      go_wp2_with fail
      rw [← hw1]
      clear hw1
      refine HIs.out.mono ?_
      rintro e w2 ⟨rfl, hx⟩
      have HX := hidP (HX1.out.trans hx)
      obtain ⟨g0, g1⟩ := HC.out w2 hx
      clear hx f0 f1
      go_wp2_with fail
      refine (HHi.out _ HX.out).mono ?_
      rintro e w3 ⟨rfl, hx⟩
      have HX3 := hidP (HX.out.trans hx)
      clear hx g0 g1
      go_wp2
      go_ret
      exact ⟨none, 0, 0, [], rfl, ownL_none _ _ _, HJ.out.symm, HX3.out⟩
    | true =>
      have HJ : Hid (pathsJ R ts W = (explF R ts steepB W).getD []) := by
        show _ = _
        unfold pathsJ pathsR
        rw [hT, Int.toNat_natCast, hH]
        rfl
      rw [hH] at HHi
      have hl := (highB_iff hH).1
      have hl2 := HW.out.len
      obtain rfl : nw = R := by omega
      have HP := hidP (fun w' (hx : Ext w w') => l9Paths_any nw ta tn tc ts aw cw W w' (Hc.out.below hx) hcn hT (HW.out.below hx) HN.out (wayB_high hH))
      clear hT hH hl hl2
      go_enter Tryz.func20, Tryz.ntmps20
      go_wp2_with fail
      rw [← hw1]
      clear hw1
      refine HIs.out.mono ?_
      rintro e w2 ⟨rfl, hx⟩
      have HX := hidP (HX1.out.trans hx)
      have HX2 := hidP hx
      obtain ⟨g0, g1⟩ := HC.out w2 hx
      clear hx f0 f1
      go_wp2_with fail
      refine (HHi.out _ HX.out).mono ?_
      rintro e w3 ⟨rfl, hx⟩
      have HX3 := hidP (HX.out.trans hx)
      obtain ⟨f0, f1⟩ := HC.out w3 (HX2.out.trans hx)
      clear hx g0 g1
      go_wp2_with fail
      refine (HP.out _ HX3.out).mono ?_
      rintro e w4 hp
      obtain ⟨a, n, c, ps, rfl, ho, hq, hx⟩ := pathsL_of hp
      have HX4 := hidP (HX3.out.trans hx)
      have HO := hidP (ho.base HX3.out.size)
      have HQ := hidP (hq.trans HJ.out.symm)
      clear hp ho hq hx HJ f0 f1
      go_wp2
      go_ret
      exact ⟨a, n, c, ps, rfl, HO.out, HQ.out, HX4.out⟩
end Go.Proofs.YtdhlapppahkjeaaGreatDoor

set_option linter.unusedVariables false
set_option linter.unusedSimpArgs false
namespace Go.Proofs.YtdhlapppahkjeaaGreatDoor
open Go.RowKit

def SmallP (us : List (List Int × Int)) : Prop := ∀ i, i < us.length → Small (us.getD i ([], 0)).1 ∧ -9223372036854775808 ≤ (us.getD i ([], 0)).2 ∧ (us.getD i ([], 0)).2 ≤ 9223372036854775807 ∧ (us.getD i ([], 0)).1.length ≤ 1048576
def keyT (u : List Int × Int) : List UInt8 := Lib.itoa u.2 ++ [58] ++ intsT u.1
def pathT (us : List (List Int × Int)) : List UInt8 := Lib.join (us.map keyT) [59]
theorem intsT_lenP (xs : List Int) (h : Small xs) : (intsT xs).length ≤ xs.length * 22 := by
  have := intsT_length xs h xs.length
  rwa [List.take_length] at this
theorem keyT_length (us : List (List Int × Int)) (h : SmallP us) (i : Nat) (hi : i < us.length) : (keyT (us.getD i ([], 0))).length ≤ 23068700 := by
  obtain ⟨h1, h2, h3, h4⟩ := h i hi
  have a1 := intsT_lenP _ h1
  have a2 := itoa_length _ h2 h3
  unfold keyT
  simp only [List.length_append, List.length_cons, List.length_nil]
  omega
theorem pathT_length (us : List (List Int × Int)) (h : SmallP us) (k : Nat) : (pathT (us.take k)).length ≤ k * 23068701 := by
  refine Nat.le_trans (join_length _ [59] 23068701 ?_) ?_
  · intro x hx
    simp only [List.mem_map] at hx
    obtain ⟨y, hy, rfl⟩ := hx
    obtain ⟨i, hi, rfl⟩ := List.mem_iff_getElem.1 (List.mem_of_mem_take hy)
    have := keyT_length us h i hi
    rw [List.getD_eq_getElem?_getD, List.getElem?_eq_getElem hi] at this
    simp at this ⊢
    omega
  · simp only [List.length_map, List.length_take]
    exact Nat.mul_le_mul_right _ (Nat.min_le_left _ _)

def keyS (us : List (List Int × Int)) : List ByteArray := us.map fun u => str (keyT u)
theorem keyS_join (us : List (List Int × Int)) (sep : List UInt8) : Lib.join ((keyS us).map (·.data.toList)) sep = Lib.join (us.map keyT) sep := by
  congr 1
  simp [keyS, str, Function.comp_def]
theorem keyS_snoc (us : List (List Int × Int)) (k : Nat) (hk : k < us.length) : keyS (us.take (k + 1)) = keyS (us.take k) ++ [str (keyT (us.getD k ([], 0)))] := by
  unfold keyS
  have e : us.getD k ([], 0) = us[k] := by simp [hk]
  rw [List.take_succ_eq_append_getElem hk, List.map_append, e]
  rfl
set_option maxRecDepth 100000 in
set_option maxHeartbeats 2000000 in
theorem pathKey_any (a : Option Addr) (n c : Nat) (us : List (List Int × Int)) (w : World) (h : TermsAt w a n us) (hs : SmallP us) (hn : n ≤ 1048576) (ht : Tab w) :
    Calls Tryz.prog 51 #[.slice a n c] w fun e w' => e = .returned (.string (str (pathT us))) ∧ Ext w w' := by
  have G := hidP h
  have L := hidP h.len
  have HS := hidP hs
  have HTb := hidP ht
  have HM := hidP (OwnS.made w w.heap.size (Nat.le_refl _))
  have HX0 := hidP (Ext.alloc w (.cells #[] 9))
  clear h hs ht
  go_enter Tryz.func51, Tryz.ntmps51
  go_wp2
  go_loopw [3, 9] (fun a b wr => ∃ (k : Nat) (av : Option Addr) (cv : Nat), k ≤ n ∧ a = .slice av k cv ∧ b = .int .i64 k ∧ Hid (OwnS wr w.heap.size av k cv (keyS (us.take k))) ∧ Hid (Ext w wr)) (fun _ b _ => n - (intOf b).toNat)
  case atStart => exact ⟨0, _, 0, Nat.zero_le _, rfl, rfl, HM, HX0⟩
  case round =>
    clear HM HX0
    obtain ⟨k, av, cv, hk, rfl, rfl, HO, HX⟩ := hrel
    by_cases hlt : k < n
    · obtain ⟨b, o, aw, cw, rfl, q0, q1, hI, _⟩ := (G.out.below HX.out).get k hlt
      obtain ⟨s1, s2, s3, s4⟩ := HS.out k (by rw [L.out]; exact hlt)
      have hl1 := intsT_lenP _ s1
      have hl2 := itoa_length _ s2 s3
      have HN := hidP (keyS_snoc us k (by rw [L.out]; exact hlt))
      have HTT : Hid (str (Lib.itoa (us.getD k ([], 0)).2) ++ ⟨#[58]⟩ ++ str (intsT (us.getD k ([], 0)).1) = str (keyT (us.getD k ([], 0)))) := by
        show _ = _
        unfold keyT
        rw [← str_append, ← str_append]
        rfl
      have HI := hidP hI
      generalize keyT (us.getD k ([], 0)) = tx at *
      generalize hU : (us.getD k ([], 0)) = U at *
      clear hU hI
      go_wp2
      have hxa := Ext.alloc wr (.cells #[.slice aw U.1.length cw, .int .i64 U.2] 73)
      have HV := hidP (fun w' (hx : Ext (wr.alloc (.cells #[.slice aw U.1.length cw, .int .i64 U.2] 73)) w') => (⟨(new_cell (w' := w') (b := wr.heap.size) rfl hx 0).1.trans rfl, (new_cell (w' := w') (b := wr.heap.size) rfl hx 1).1.trans rfl⟩ : w'.cell? ⟨wr.heap.size, 0, none⟩ = some (.slice aw U.1.length cw) ∧ w'.cell? ⟨wr.heap.size, 1, none⟩ = some (.int .i64 U.2)))
      obtain ⟨wo, hwo⟩ : ∃ wo, wo = wr.alloc (.cells #[.slice aw U.1.length cw, .int .i64 U.2] 73) := ⟨_, rfl⟩
      rw [← hwo] at hxa HV ⊢
      clear hwo
      have HXo := hidP (HX.out.trans hxa)
      have HOo := hidP (HO.out.below hxa)
      have HF := hidP (fun w' (hx : Ext wo w') => formatInts_any aw _ cw U.1 w' ((HI.out.below hxa).below hx) s1 s4 (HTb.out.below (HXo.out.trans hx)))
      have HG := hidP (fun w' (hx : Ext wo w') => formatInt_any U.2 w' s2 s3 (HTb.out.below (HXo.out.trans hx)))
      have hE : Ext wo wo.drew := Ext.drew wo
      clear q0 q1 s1 s2 s3 hxa HI
      obtain ⟨t1, ht1⟩ : ∃ t, t = intsT U.1 := ⟨_, rfl⟩
      obtain ⟨t2, ht2⟩ : ∃ t, t = Lib.itoa U.2 := ⟨_, rfl⟩
      rw [← ht1] at HF HTT hl1
      rw [← ht2] at HG HTT hl2
      clear ht1 ht2
      have z2 : (str t1).size ≤ 23068700 := by rw [str_size]; omega
      have z3 : (str t2).size ≤ 21 := by rw [str_size]; omega
      have g2 : ¬ (9223372036854775807 < (str t2).size + 1) := by omega
      have g3 : ¬ (9223372036854775807 < (str t2).size + 1 + (str t1).size) := by omega
      clear z2 z3 hl1 hl2
      (refine walkR_start (fun w' => Ext wo w') 10 (by kernel_rfl) ?_; simp only [numbered, List.take_succ_cons, List.take_zero, Nat.zero_add, Nat.reduceAdd, List.length_cons, List.length_nil])
      (repeat (first | (refine walkR_still (v := ?_) rfl (by decide +kernel) rfl (fun _ _ _ h => h) hE ?_ ?_; rotate_left; (focus (intro w' hw'; obtain ⟨f0, f1⟩ := HV.out w' hw'; go_simp; all_goals (with_reducible rfl))); simp only [Act.put, List.setIfInBounds_toArray, List.set_cons_zero, List.set_cons_succ]) | (refine walkR_skip rfl (by decide +kernel) rfl (fun _ _ _ h => h) hE ?_; simp only [Act.put, List.setIfInBounds_toArray, List.set_cons_zero, List.set_cons_succ])))
      (refine walkR_later ?_; simp only [List.cons_append, List.nil_append]); (refine walkR_later ?_; simp only [List.cons_append, List.nil_append])
      (repeat (first | (refine walkR_still (v := ?_) rfl (by decide +kernel) rfl (fun _ _ _ h => h) hE ?_ ?_; rotate_left; (focus (intro w' hw'; obtain ⟨f0, f1⟩ := HV.out w' hw'; go_simp; all_goals (with_reducible rfl))); simp only [Act.put, List.setIfInBounds_toArray, List.set_cons_zero, List.set_cons_succ]) | (refine walkR_skip rfl (by decide +kernel) rfl (fun _ _ _ h => h) hE ?_; simp only [Act.put, List.setIfInBounds_toArray, List.set_cons_zero, List.set_cons_succ])))
      (refine walkR_later ?_; simp only [List.cons_append, List.nil_append]); (refine walkR_later ?_; simp only [List.cons_append, List.nil_append]); (refine walkR_later ?_; simp only [List.cons_append, List.nil_append])
      (refine walkR_only (fun w' => Ext wo w') rfl (by decide +kernel) rfl (fun _ h => h) ?_; intro K hK; go_simp; refine (HG.out _ hE).mono ?_; rintro e w1 ⟨rfl, hx1⟩; refine hK _ _ (hE.trans hx1) ?_; clear hK K; (try simp only [Act.put, List.setIfInBounds_toArray, List.set_cons_zero, List.set_cons_succ]))
      have hE1 := hE.trans hx1
      (repeat (first | (refine walkR_still (v := ?_) rfl (by decide +kernel) rfl (fun _ _ _ h => h) hE1 ?_ ?_; rotate_left; (focus (intro w' hw'; skip; go_simp; all_goals (with_reducible rfl))); simp only [Act.put, List.setIfInBounds_toArray, List.set_cons_zero, List.set_cons_succ]) | (refine walkR_skip rfl (by decide +kernel) rfl (fun _ _ _ h => h) hE1 ?_; simp only [Act.put, List.setIfInBounds_toArray, List.set_cons_zero, List.set_cons_succ])))
      (refine walkR_only (fun w' => Ext wo w') rfl (by decide +kernel) rfl (fun _ h => h) ?_; intro K hK; go_simp; refine (HF.out _ hE1).mono ?_; rintro e w2 ⟨rfl, hx2⟩; refine hK _ _ (hE1.trans hx2) ?_; clear hK K; (try simp only [Act.put, List.setIfInBounds_toArray, List.set_cons_zero, List.set_cons_succ]))
      have hE2 := hE1.trans hx2
      (repeat (first | (refine walkR_still (v := ?_) rfl (by decide +kernel) rfl (fun _ _ _ h => h) hE2 ?_ ?_; rotate_left; (focus (intro w' hw'; skip; go_simp; all_goals (with_reducible rfl))); simp only [Act.put, List.setIfInBounds_toArray, List.set_cons_zero, List.set_cons_succ]) | (refine walkR_skip rfl (by decide +kernel) rfl (fun _ _ _ h => h) hE2 ?_; simp only [Act.put, List.setIfInBounds_toArray, List.set_cons_zero, List.set_cons_succ])))
      have hx3 := Ext.alloc w2 (.cells #[.string (str t2 ++ ⟨#[58]⟩ ++ str t1)] 9)
      have HX3 := hidP (HXo.out.trans (hE2.trans hx3))
      have HO3 := hidP (HOo.out.below (hE2.trans hx3))
      have HC3 := hidP ((cell_top w2 #[.string (str t2 ++ ⟨#[58]⟩ ++ str t1)] 9 w2.heap.size 0 rfl).trans (show _ = some (Value.string (str t2 ++ ⟨#[58]⟩ ++ str t1)) from rfl))
      have hE3 := hE2.trans hx3
      clear hx1 hx2 hE hE1 hx3
      (refine walkR_only (fun w' => Ext wo w') rfl (by decide +kernel) rfl ?_ ?_)
      · exact fun _ h => h
      intro K hK
      go_simp
      refine hK _ _ hE3 ?_
      clear hK K hE2 hE3
      (try simp only [Act.put, List.setIfInBounds_toArray, List.set_cons_zero, List.set_cons_succ])
      (refine walkR_tail (by rfl) (by kernel_rfl) ?_; simp only [List.drop_succ_cons, List.drop_zero])
      go_wp2_with (at_builtin; refine wpList_append_str rfl (.tmp 13) (.tmp 22) rfl w.heap.size av k cv _ rfl HO3.out w2.heap.size 1 _ rfl HC3.out (by omega) HX3.out.size ?_; intro a4 c4 w4 ho4 hg4; have HX4 := hidP (HO3.out.ext hg4 HX3.out (Nat.le_refl _)); have HO4 := hidP ho4; clear ho4 hg4)
      rw [HTT.out, ← HN.out] at HO4
      go_roundw
      case rel => exact ⟨k + 1, a4, c4, by omega, rfl, by go_num, HO4, HX4⟩
      case measure => simp [intOf]; omega
    · obtain rfl : k = n := by omega
      have ho := HO.out
      rw [List.take_of_length_le (by rw [L.out]; exact Nat.le_refl _)] at ho
      have hl := ho.len
      obtain ⟨g, rfl, _, hgl, hnc, _, hcl⟩ := ho.form
      have hjl : (Lib.join (us.map keyT) [59]).length ≤ k * 23068701 := by
        have := pathT_length us HS.out k
        rw [List.take_of_length_le (by rw [L.out]; exact Nat.le_refl _)] at this
        exact this
      have hJ := Tryz.strings_Join g 0 cv (keyS us) ⟨#[59]⟩ wr hcl hgl (by omega) (by omega) (by rw [keyS_join]; exact Nat.le_trans hjl (by omega))
      rw [hl, keyS_join] at hJ
      have HJ := hidP hJ
      clear hJ hjl hcl ho
      go_wp2_with fail
      refine HJ.out.mono ?_
      rintro e w1 ⟨rfl, hx1⟩
      have HX1 := hidP (HX.out.trans hx1)
      clear hx1
      go_wp2
      go_ret
      exact ⟨rfl, HX1.out⟩
end Go.Proofs.YtdhlapppahkjeaaGreatDoor

namespace Go.Proofs.YtdhlapppahkjeaaGreatDoor
open Go.RowKit

theorem decDigits_le (u : Nat) : ∀ c ∈ Lib.decDigits u, c.toNat ≤ 57 := by
  induction u using Nat.strongRecOn with
  | _ u ih =>
    rw [Lib.decDigits]
    by_cases h : u < 10
    · rw [dif_pos h]
      intro c hc
      simp only [List.mem_singleton] at hc
      subst hc
      rw [digit_nat u h]
      omega
    · rw [dif_neg h]
      intro c hc
      rcases List.mem_append.1 hc with hc | hc
      · exact ih (u / 10) (by omega) c hc
      · simp only [List.mem_singleton] at hc
        subst hc
        rw [digit_nat (u % 10) (by omega)]
        omega
theorem itoa_le (n : Int) : ∀ c ∈ Lib.itoa n, c.toNat ≤ 57 := by
  intro c hc
  unfold Lib.itoa at hc
  split at hc
  · simp only [List.mem_cons] at hc
    rcases hc with rfl | hc
    · decide
    · exact decDigits_le _ _ hc
  · exact decDigits_le _ _ hc
theorem tail_le : ∀ (xs : List Int), ∀ c ∈ Lib.joinTail [32] (xs.map Lib.itoa), c.toNat ≤ 57
  | [], c, hc => by simp [Lib.joinTail] at hc
  | x :: xs, c, hc => by
    have e : Lib.joinTail [32] ((x :: xs).map Lib.itoa) = 32 :: (Lib.itoa x ++ Lib.joinTail [32] (xs.map Lib.itoa)) := by simp [Lib.joinTail]
    rw [e] at hc
    simp only [List.mem_cons, List.mem_append] at hc
    rcases hc with rfl | hc | hc
    · decide
    · exact itoa_le x c hc
    · exact tail_le xs c hc
theorem intsT_le (xs : List Int) : ∀ c ∈ intsT xs, c.toNat ≤ 57 := by
  intro c hc
  unfold intsT at hc
  cases xs with
  | nil => rw [List.map_nil, Lib.join_nil] at hc; simp at hc
  | cons x xs =>
    rw [List.map_cons, Lib.join_cons] at hc
    rcases List.mem_append.1 hc with hc | hc
    · exact itoa_le x c hc
    · exact tail_le xs c hc
theorem keyT_ne59 (u : Stp) : ∀ c ∈ keyT u, c ≠ 59 := by
  intro c hc e
  subst e
  unfold keyT at hc
  simp only [List.mem_append, List.mem_singleton] at hc
  rcases hc with (hc | hc) | hc
  · have := itoa_le _ _ hc; simp at this
  · exact absurd hc (by decide)
  · have := intsT_le _ _ hc; simp at this
theorem keyT_inj {u v : Stp} (h : keyT u = keyT v) : u = v := by
  unfold keyT at h
  rw [List.append_assoc, List.append_assoc] at h
  have h58 : ∀ n : Int, ∀ c ∈ Lib.itoa n, c ≠ (58 : UInt8) := fun n c hc e => by
    subst e
    have := itoa_le _ _ hc; simp at this
  obtain ⟨h1, h2⟩ := cut_eq (h58 u.2) (h58 v.2) (.inr ⟨_, rfl⟩) (.inr ⟨_, rfl⟩) h
  have h3 : intsT u.1 = intsT v.1 := by simpa using h2
  exact Prod.ext (intsT_inj h3) (itoa_inj h1)
theorem keyT_ne (u : Stp) : keyT u ≠ [] := by
  unfold keyT
  simp
theorem pathTail_inj : ∀ {p q : List Stp}, Lib.joinTail [59] (p.map keyT) = Lib.joinTail [59] (q.map keyT) → p = q
  | [], [], _ => rfl
  | [], y :: ys, h => by simp [Lib.joinTail] at h
  | x :: xs, [], h => by simp [Lib.joinTail] at h
  | x :: xs, y :: ys, h => by
    have e : ∀ (z : Stp) (zs : List Stp), Lib.joinTail [59] ((z :: zs).map keyT) = 59 :: (keyT z ++ Lib.joinTail [59] (zs.map keyT)) := fun z zs => by simp [Lib.joinTail]
    rw [e, e] at h
    simp only [List.cons.injEq, true_and] at h
    obtain ⟨h1, h2⟩ := cut_eq (keyT_ne59 x) (keyT_ne59 y) (joinTail_begins _ _) (joinTail_begins _ _) h
    rw [keyT_inj h1, pathTail_inj h2]
theorem pathT_inj {p q : List Stp} (h : pathT p = pathT q) : p = q := by
  unfold pathT at h
  match p, q with
  | [], [] => rfl
  | [], y :: ys =>
    rw [List.map_cons, Lib.join_cons] at h
    have := congrArg List.length h
    simp only [List.map_nil, Lib.join_nil, List.length_nil, List.length_append] at this
    exact absurd (List.length_eq_zero_iff.1 (by omega)) (keyT_ne y)
  | x :: xs, [] =>
    rw [List.map_cons, Lib.join_cons] at h
    have := congrArg List.length h
    simp only [List.map_nil, Lib.join_nil, List.length_nil, List.length_append] at this
    exact absurd (List.length_eq_zero_iff.1 (by omega)) (keyT_ne x)
  | x :: xs, y :: ys =>
    rw [List.map_cons, List.map_cons, Lib.join_cons, Lib.join_cons] at h
    obtain ⟨h1, h2⟩ := cut_eq (keyT_ne59 x) (keyT_ne59 y) (joinTail_begins _ _) (joinTail_begins _ _) h
    rw [keyT_inj h1, pathTail_inj h2]
end Go.Proofs.YtdhlapppahkjeaaGreatDoor

namespace Go.Proofs.YtdhlapppahkjeaaGreatDoor
open Go.RowKit

theorem str_inj {a b : List UInt8} (h : str a = str b) : a = b := by
  unfold str at h
  have := congrArg (fun x : ByteArray => x.data.toList) h
  simpa using this
/-- the map tells the paths of a list -/
def SeenP (f : ByteArray → Option Value) (L : List (List Stp)) : Prop := ∀ q, (f (str (pathT q))).getD (.bool false) = .bool (L.contains q)
theorem seenP_nil : SeenP (fun _ => none) [] := fun q => by simp
theorem SeenP.put {f : ByteArray → Option Value} {L : List (List Stp)} (h : SeenP f L) (q : List Stp) : SeenP (putF f (str (pathT q)) (.bool true)) (L ++ [q]) := by
  intro q'
  by_cases e : q' = q
  · subst e
    simp [putF]
  · have hne : str (pathT q') ≠ str (pathT q) := fun h2 => e (pathT_inj (str_inj h2))
    simp only [putF, if_neg hne, h q']
    have h3 : (L ++ [q]).contains q' = L.contains q' := by
      rw [Bool.eq_iff_iff]
      simp [e]
    rw [h3]
theorem smallP_of {r : Nat} {q : List Stp} (h : PathP r q) (h4 : r ≤ 4) : SmallP q := by
  intro i hi
  obtain ⟨h1, h2⟩ := h.way i hi
  obtain ⟨h3, h5⟩ := h.dur i hi
  unfold wayAt at h1 h2
  unfold lenAt at h3 h5
  refine ⟨?_, by omega, by omega, by omega⟩
  intro j hj
  have := h2 j (by omega)
  omega
theorem key_size {r : Nat} {q : List Stp} (h : PathP r q) (h4 : r ≤ 4) : (str (pathT q)).size ≤ maxLen := by
  rw [str_size]
  have h1 := pathT_length q (smallP_of h h4) q.length
  rw [List.take_length] at h1
  have h2 := h.len
  have h3 : q.length * 23068701 ≤ 60 * 23068701 := Nat.mul_le_mul_right _ h2
  unfold maxLen
  omega
theorem wpList_unguardM {P : Program} {ops : Array Oper} {Q : Exit → Act → World → Prop} {a : Act} {w : World} {rest : List Oper} {o : Oper} (hw : Region.wanted o (yielded ops a.tmps) = true)
    (h : wpList P ops Q ({ o with guard := none } :: rest) a w) : wpList P ops Q (o :: rest) a w := by
  have hw2 : Region.wanted { o with guard := none } (yielded ops a.tmps) = true := rfl
  unfold wpList at *
  rw [if_pos hw]
  rw [if_pos hw2] at h
  exact h
theorem wpList_insertS {P : Program} {ops : Array Oper} {Q : Exit → Act → World → Prop} {a : Act} {w : World} {rest : List Oper} {o : Oper} (hg : o.guard = none) (m x v : Operand) (T K E : TypeId) (hop : o.op = Op.insert T m x v) (hK : P.underlying K = some .string) (hT : P.underlying T = some (.map K E))
    (b n : Nat) (f : ByteArray → Option Value) (hm : a.eval m = .map (some b)) (h : MapS w P K b n f) (hn : n < maxLen) (s : ByteArray) (hx : a.eval x = .string s) (hs : s.size ≤ maxLen) (u : Value) (hv : a.eval v = u)
    (hk : ∀ w', MapS w' P K b (n + 1) (putF f s u) → w.grownBy w' (some b) → wpList P ops Q rest (a.put o.dst undef) w') : wpList P ops Q (o :: rest) a w := by
  refine wpList_plain hg fun K' hK' => ?_
  obtain ⟨w', hrun, r1, r2⟩ := h.update hK hT hn hs u
  unfold Oper.wp
  simp [execOp, hop, hm, hx, hv, hrun, Result.andThen]
  exact hK' _ _ (hk w' r1 r2)
theorem zero_bool (w : World) : (zeroValue 4).run Tryz.prog w = .ok (.bool false) w := by kernel_rfl
theorem Ext.onMap {w w' w0 : World} {b : Nat} (hb : Ext w0 w) (hg : w.grownBy w' (some b)) (hB : w0.heap.size ≤ b) : Ext w0 w' :=
  Below.grown hb hg hb.size fun k hk => by
    simp only [Option.some.injEq] at hk
    omega
theorem PEl.Ok.onMap {w w' : World} {B b : Nat} {e : PEl} (h : e.Ok w B) (hg : w.grownBy w' (some b)) (hd : e.hi ≤ b ∨ b < e.lo) : e.Ok w' B := by
  obtain ⟨h1, h2, h3, h4⟩ := h
  have key : ∀ k, e.lo ≤ k → k < e.hi → some k ≠ some b := fun k h5 h6 h7 => by
    simp only [Option.some.injEq] at h7
    omega
  exact ⟨h1.kept hg (fun k o e1 => key k (h1.base_lt k o e1).1 (h1.olt k o e1)) (fun i hi k o e1 => key k ((h1.each i hi).at_base k o e1).1 (h1.lt i hi k o e1)), h2, h3, Nat.le_trans h4 hg.size⟩
/-- the paths that the search holds, and the map that tells them -/
structure PMem (R : Nat) (w1 w : World) (bm : Nat) (a : Option Addr) (n c : Nat) (ps : List PEl) (f : ByteArray → Option Value) : Prop where
  own : OwnPs w w1.heap.size a n c ps
  path : ∀ e ∈ ps, PathP R e.q
  map : MapS w Tryz.prog 9 bm n f
  seen : SeenP f (ps.map PEl.q)
  off : ∀ e ∈ ps, e.hi ≤ bm ∨ bm < e.lo
  offA : ∀ o, a ≠ some ⟨bm, o, none⟩
  ext : Ext w1 w
  base : w1.heap.size ≤ bm
section
variable {R : Nat} {w1 w w' : World} {bm n c : Nat} {a : Option Addr} {ps : List PEl} {f : ByteArray → Option Value}
theorem PMem.below (h : PMem R w1 w bm a n c ps f) (hx : Ext w w') : PMem R w1 w' bm a n c ps f :=
  ⟨h.own.below hx, h.path, h.map.below hx, h.seen, h.off, h.offA, h.ext.trans hx, h.base⟩
theorem PMem.onMap (h : PMem R w1 w bm a n c ps f) (hg : w.grownBy w' (some bm)) : OwnPs w' w1.heap.size a n c ps ∧ Ext w1 w' :=
  ⟨h.own.kept hg fun b e => by
    simp only [Option.some.injEq] at e
    subst e
    exact ⟨fun o e2 => h.offA o e2, fun e he => by have := h.off e he; omega⟩, h.ext.onMap hg h.base⟩
theorem PMem.grow (h : PMem R w1 w bm a n c ps f) {e : PEl} {w8 w9 : World} {a9 : Option Addr} {c9 : Nat} (ho8 : OwnPs w8 w1.heap.size a n c ps) (hx8 : Ext w1 w8) (hm8 : MapS w8 Tryz.prog 9 bm (n + 1) (putF f (str (pathT e.q)) (.bool true))) (he : PathP R e.q) (hlo : bm < e.lo)
    (ho9 : OwnPs w9 w1.heap.size a9 (n + 1) c9 (ps ++ [e])) (hg9 : w8.grownBy w9 (Value.slice a n c).ownBlock) (hn9 : OrNew w8.heap.size a a9) : PMem R w1 w9 bm a9 (n + 1) c9 (ps ++ [e]) (putF f (str (pathT e.q)) (.bool true)) := by
  obtain ⟨g, ha, _⟩ := h.own.form
  refine ⟨ho9, fun d hd => ?_, hm8.kept hg9 (fun e2 => ?_), ?_, fun d hd => ?_, fun o e2 => ?_, ho8.ext hg9 hx8 (Nat.le_refl _), h.base⟩
  · rcases List.mem_append.1 hd with h2 | h2
    · exact h.path d h2
    · simp only [List.mem_singleton] at h2
      subst h2
      exact he
  · rw [ha] at e2
    simp only [Value.ownBlock, Option.some.injEq] at e2
    subst e2
    exact h.offA 0 ha
  · rw [List.map_append]
    exact h.seen.put e.q
  · rcases List.mem_append.1 hd with h2 | h2
    · exact h.off d h2
    · simp only [List.mem_singleton] at h2
      subst h2
      exact .inr hlo
  · rcases hn9 with h2 | h2
    · rw [h2] at e2
      exact h.offA o e2
    · have := h2 bm o e2
      have := hm8.lt
      omega
end
theorem bigB_true {q : List Stp} {k : Nat} (hk : k < q.length) (h : 12 < Lib.maxOf (wayAt q k)) : bigB q = true := by
  simp only [bigB, List.any_eq_true, decide_eq_true_eq]
  refine ⟨q[k], List.getElem_mem hk, ?_⟩
  have e : wayAt q k = q[k].1 := by simp [wayAt, List.getD_eq_getElem?_getD, hk]
  rw [← e]
  exact h
theorem bigB_false {q : List Stp} (h : ∀ k, k < q.length → ¬ 12 < Lib.maxOf (wayAt q k)) : bigB q = false := by
  rw [Bool.eq_false_iff]
  intro h1
  simp only [bigB, List.any_eq_true, decide_eq_true_eq] at h1
  obtain ⟨s, hs, h2⟩ := h1
  obtain ⟨k, hk, rfl⟩ := List.mem_iff_getElem.1 hs
  have e : wayAt q k = q[k].1 := by simp [wayAt, List.getD_eq_getElem?_getD, hk]
  exact h k hk (by rw [e]; exact h2)
end Go.Proofs.YtdhlapppahkjeaaGreatDoor

set_option linter.unusedVariables false
set_option linter.unusedSimpArgs false
namespace Go.Proofs.YtdhlapppahkjeaaGreatDoor
open Go.RowKit

set_option maxRecDepth 100000 in
set_option maxHeartbeats 8000000 in
theorem pathsOf_any (r : Int) (ta : Option Addr) (tn tc : Nat) (ts : List Int) (aw : Option Addr) (nw cw : Nat) (W : List Int) (w : World) (hc : IntsAt w ta tn ts) (hw : IntsAt w aw nw W) (hnil : aw = none → cw = 0) (hcn : tn ≤ 9223372036854775807) (hwn : nw ≤ 9223372036854775807) (hm : MaxL w) (htb : Tab w) :
    PathsL 25 #[carV r ta tn tc, .slice aw nw cw] w (pathsJ r ts W) := by
  unfold PathsL
  have hmm := @run_makeMap Tryz.prog
  have hx1 := Ext.alloc w (.cells #[.int .i64 r, .slice ta tn tc] 29)
  have HC := hidP (fun w' (hx : Ext (w.alloc (.cells #[.int .i64 r, .slice ta tn tc] 29)) w') => (CarAt.new w _ rfl r ta tn tc 29).below hx)
  have HX1 := hidP hx1
  have HIs := hidP (fun w' (hx : Ext w w') => isCartan_any r ta tn tc ts w' (hc.below hx) hcn (hm.below hx))
  have HW := hidP hw
  have Hc := hidP hc
  have HN := hidP hnil
  have HMx := hidP hm
  have HTb := hidP htb
  clear hc hw hx1 hnil hm htb
  obtain ⟨w1, hw1⟩ : ∃ w1, w1 = w.alloc (.cells #[.int .i64 r, .slice ta tn tc] 29) := ⟨_, rfl⟩
  rw [← hw1] at HC HX1
  obtain ⟨f0, f1⟩ := HC.out w1 (Ext.refl w1)
  cases hT : typeB r ts with
  | false =>
    have HJ : Hid (pathsJ r ts W = []) := by
      show _ = _
      unfold pathsJ pathsR
      rw [hT]
      rfl
    rw [hT] at HIs
    clear hT
    go_enter Tryz.func25, Tryz.ntmps25
    go_wp2_with fail
    rw [← hw1]
    clear hw1
    refine (HIs.out _ HX1.out).mono ?_
    rintro e w2 ⟨rfl, hx⟩
    have HX := hidP (HX1.out.trans hx)
    clear hx
    go_wp2
    go_ret
    exact ⟨none, 0, 0, [], rfl, ownL_none _ _ _, HJ.out.symm, HX.out⟩
  | true =>
    have hr := typeB_rank hT
    obtain ⟨R, rfl⟩ : ∃ R : Nat, r = R := ⟨r.toNat, by omega⟩
    have hR1 : 1 ≤ R := by omega
    have hR4 : R ≤ 4 := by omega
    have HTy := hidP hT
    have HI0 := hidP (HIs.out _ HX1.out)
    rw [hT] at HI0
    have HHi := hidP (fun w' (hx : Ext w w') => isHighest_any R ta tn tc aw nw cw W w' (HW.out.below hx) hwn (by omega))
    cases hH : highB R W with
    | false =>
      have HJ : Hid (pathsJ R ts W = []) := by
        show _ = _
        unfold pathsJ pathsR
        rw [hT, Int.toNat_natCast, hH]
        rfl
      rw [hH] at HHi
      clear hT hH hr
      go_enter Tryz.func25, Tryz.ntmps25
      go_wp2_with fail
      rw [← hw1]
      clear hw1
      refine HI0.out.mono ?_
      rintro e w2 ⟨rfl, hx⟩
      have HX := hidP (HX1.out.trans hx)
      obtain ⟨g0, g1⟩ := HC.out w2 hx
      clear hx f0 f1
      go_wp2_with fail
      refine (HHi.out _ HX.out).mono ?_
      rintro e w3 ⟨rfl, hx⟩
      have HX3 := hidP (HX.out.trans hx)
      clear hx g0 g1
      go_wp2
      go_ret
      exact ⟨none, 0, 0, [], rfl, ownL_none _ _ _, HJ.out.symm, HX3.out⟩
    | true =>
      have HJ : Hid (pathsJ R ts W = (explF R ts bigB W).getD []) := by
        show _ = _
        rw [paths_same hT hH]
        unfold pathsJ pathsR
        rw [hT, Int.toNat_natCast, hH]
        rfl
      rw [hH] at HHi
      have hl := (highB_iff hH).1
      have hl2 := HW.out.len
      obtain rfl : nw = R := by omega
      have hb := wayB_high hH
      have HSt := hidP (fun w' (h : Ext w w') => straight_any nw ta tn tc ts aw cw W w' (Hc.out.below h) hcn hT (HW.out.below h) HN.out hb (HMx.out.below h))
      have HIt := HIs
      rw [hT] at HIt
      have HLo := hidP (fun w' (h : Ext w w') (i : Nat) (a : Option Addr) (n c : Nat) (xs : List Stp) hi h1 h2 => lowered_any nw ta tn tc ts i a n c xs w' (Hc.out.below h) hT hi h1 h2 (fun w'' hx' => HIs.out w'' (h.trans hx')))
      have HKy := hidP (fun w' (h : Ext w w') (a : Option Addr) (n c : Nat) (xs : List Stp) (h1 : TermsAt w' a n xs) (hp : PathP nw xs) => pathKey_any a n c xs w' h1 (smallP_of hp hR4) (by have := hp.len; have := h1.len; omega) (HTb.out.below h))
      have HSk := hidP (seeks_start hR4 ts bigB W)
      obtain ⟨res, hres⟩ : ∃ res, res = explF nw ts bigB W := ⟨_, rfl⟩
      rw [← hres] at HSk HJ
      have hPW : PathP nw (straight W) := pathB_iff.1 (by simp [straight, pathB, stepB, wayAt, lenAt, timeAt, hb, List.range_succ])
      have HPW := hidP hPW
      clear hT hH hl hl2 hb hres hPW hr HIs HIt HW HN Hc HMx
      go_enter Tryz.func25, Tryz.ntmps25
      go_wp2_with fail
      rw [← hw1]
      clear hw1
      refine HI0.out.mono ?_
      rintro e w2 ⟨rfl, hx⟩
      have HX2 := hidP hx
      obtain ⟨g0, g1⟩ := HC.out w2 hx
      clear hx f0 f1
      go_wp2_with fail
      refine (HHi.out _ (HX1.out.trans HX2.out)).mono ?_
      rintro e w3 ⟨rfl, hx⟩
      have HX3 := hidP (HX2.out.trans hx)
      obtain ⟨f0, f1⟩ := HC.out w3 HX3.out
      clear hx g0 g1
      go_wp2_with fail
      refine (HSt.out _ (HX1.out.trans HX3.out)).mono ?_
      rintro e w4 ⟨a4, hs4, rfl, ho4, hx4⟩
      have hx34 := HX3.out.trans hx4
      have hok : PEl.Ok w4 w1.heap.size ⟨w3.heap.size, w4.heap.size, a4, 1, hs4, straight W⟩ := ⟨ho4, HX3.out.size, hx4.size, Nat.le_refl _⟩
      have hx5 := Ext.alloc w4 (.cells #[.slice a4 1 1] 45)
      have hx6 := Ext.alloc (w4.alloc (.cells #[.slice a4 1 1] 45)) (.map #[] 0)
      have HPs6 := hidP ((OwnPs.single w4 w1.heap.size _ hok hx34.size).below hx6)
      have HX6 := hidP (hx34.trans (hx5.trans hx6))
      have HKy0 := hidP (HKy.out _ (HX1.out.trans HX6.out) a4 1 1 (straight W) ((ho4.below (hx5.trans hx6)).termsAt) HPW.out)
      have hm6 := MapS.made (w4.alloc (.cells #[.slice a4 1 1] 45)) Tryz.prog 9
      rw [show (w4.alloc (.cells #[.slice a4 1 1] 45)).heap.size = w4.heap.size + 1 by simp] at hm6
      have HM6 := hidP hm6
      have q0 := (new_cell (w' := (w4.alloc (.cells #[.slice a4 1 1] 45)).alloc (.map #[] 0)) (b := w4.heap.size) rfl hx6 0).1.trans (show _ = some (Value.slice a4 1 1) from rfl)
      have hks := key_size HPW.out hR4
      have Hz := hidP (show w1.heap.size ≤ w4.heap.size from hx34.size)
      clear hx4 hx34 hok hx5 hx6 hm6 ho4 f0 f1
      go_wp2_with fail
      refine HKy0.out.mono ?_
      rintro e w7 ⟨rfl, hx7⟩
      have HM7 := hidP (HM6.out.below hx7)
      have HPs7 := hidP (HPs6.out.below hx7)
      have HX7 := hidP (HX6.out.trans hx7)
      clear hx7 HM6 HPs6 HX6 HKy0 q0
      go_wp2_with (first | (refine wpList_insertS rfl _ _ _ 70 9 4 rfl Tryz.underlying9 Tryz.underlying70 (w4.heap.size + 1) 0 (fun _ => none) rfl HM7.out (by unfold maxLen; omega) (str (pathT (straight W))) rfl hks (.bool true) rfl ?_; intro w8 hm8 hg8; have HM8 := hidP hm8; have HG8 := hidP hg8; clear hm8 hg8) | fail)
      have HPM8 : Hid (PMem nw w1 w8 (w4.heap.size + 1) (some ⟨w4.heap.size, 0, none⟩) 1 1 [⟨w3.heap.size, w4.heap.size, a4, 1, hs4, straight W⟩] (putF (fun _ => none) (str (pathT (straight W))) (.bool true))) := by
        refine ⟨HPs7.out.kept HG8.out fun b e => ?_, fun e he => ?_, HM8.out, seenP_nil.put (straight W), fun e he => ?_, fun o e => ?_, HX7.out.onMap HG8.out (by have := Hz.out; omega), by have := Hz.out; omega⟩
        · simp only [Option.some.injEq] at e
          subst e
          refine ⟨fun o e2 => ?_, fun e he => ?_⟩
          · simp only [Option.some.injEq, Addr.mk.injEq] at e2
            omega
          · simp only [List.mem_singleton] at he
            subst he
            right
            show w4.heap.size ≤ _
            omega
        · simp only [List.mem_singleton] at he
          subst he
          exact HPW.out
        · simp only [List.mem_singleton] at he
          subst he
          left
          show w4.heap.size ≤ _
          omega
        · simp only [Option.some.injEq, Addr.mk.injEq] at e
          omega
      obtain ⟨bm, hbm⟩ : ∃ bm, bm = w4.heap.size + 1 := ⟨_, rfl⟩
      rw [← hbm] at HPM8 ⊢
      clear HPs7 HG8 HM8 HM7 HX7 hbm hks
      go_loopw [5, 7] (fun oo kk wr => ∃ (k n c : Nat) (a : Option Addr) (ps : List PEl) (f : ByteArray → Option Value), oo = .slice a n c ∧ kk = .int .i64 k ∧ k ≤ n ∧ n ≤ 400 ∧ Hid (PMem nw w1 wr bm a n c ps f) ∧ Hid (Seeks nw ts bigB k 0 (ps.map PEl.q) res)) (fun _ kk _ => 400 - (intOf kk).toNat)
      case atStart => exact ⟨0, 1, 1, _, _, _, rfl, rfl, by omega, by omega, HPM8, HSk⟩
      case round =>
        clear HPM8 HSk
        obtain ⟨k, n, c, a, ps, f, rfl, rfl, hk, hn, HP, HK⟩ := hrel
        have hl := HP.out.own.len
        by_cases hlt : k < n
        · obtain ⟨f0, f1⟩ := HC.out _ HP.out.ext
          go_wp2
          clear f0 f1
          go_loopw [5, 40] (fun oo ii wr' => ∃ (i n c : Nat) (a : Option Addr) (ps : List PEl) (f : ByteArray → Option Value), oo = .slice a n c ∧ ii = .int .i64 i ∧ i ≤ nw ∧ k < n ∧ n ≤ 400 ∧ Hid (PMem nw w1 wr' bm a n c ps f) ∧ Hid (Seeks nw ts bigB k i (ps.map PEl.q) res)) (fun _ ii _ => nw - (intOf ii).toNat)
          case atStart => exact ⟨0, n, c, a, ps, f, rfl, rfl, Nat.zero_le _, hlt, hn, HP, HK⟩
          case round =>
            clear HP HK hl
            obtain ⟨i, n2, c2, a2, ps2, f2, rfl, rfl, hi, hkn, hn2, HP, HK⟩ := hrel
            have hl := HP.out.own.len
            by_cases hiR : i < nw
            · obtain ⟨g, rfl, _, _, _, _⟩ := HP.out.own.form
              obtain ⟨hk2, hcell⟩ := HP.out.own.cell hkn rfl
              obtain ⟨E, hE0⟩ : ∃ E, E = ps2[k] := ⟨_, rfl⟩
              rw [← hE0] at hcell
              have hEm : E ∈ ps2 := by rw [hE0]; exact List.getElem_mem _
              have hEq : (ps2.map PEl.q).getD k [] = E.q := by rw [hE0]; simp [List.getD_eq_getElem?_getD, hk2]
              have HEq := hidP hEq
              have HEo := hidP (HP.out.own.each E hEm)
              have HEp := hidP (HP.out.path E hEm)
              have hcl := World.block_lt_of_cell? _ _ hcell
              have HF : Hid (∀ w', Ext wr w' → CarAt w' w.heap.size nw ta tn tc ∧ w'.cell? ⟨g, k, none⟩ = some (.slice E.at_ E.q.length E.cap)) := fun w' hx => ⟨HC.out w' (HP.out.ext.trans hx), (hx.cell (p := ⟨g, k, none⟩) hcl).trans hcell⟩
              have HLw := hidP (fun w' (hx : Ext wr w') => HLo.out w' (HX1.out.trans (HP.out.ext.trans hx)) i E.at_ E.q.length E.cap E.q hiR (HEo.out.own.below hx).stepsAt HEp.out)
              rw [show lowR nw ts i E.q = optJ (lowF nw ts i E.q) from rfl, optJ_eq] at HLw
              unfold PathRes at HLw
              obtain ⟨f0, f1⟩ := HC.out _ HP.out.ext
              have hE : Ext wr wr.drew := Ext.drew wr
              have hk0 : (0 : Int) ≤ (k : Int) := by omega
              have hk1 : (k : Int) < (n2 : Int) := by omega
              clear hcell hE0 hEm hEq hcl
              go_wp2
              (refine walkR_start (fun w' => Ext wr w') 12 (by kernel_rfl) ?_; simp only [numbered, List.take_succ_cons, List.take_zero, Nat.zero_add, Nat.reduceAdd, List.length_cons, List.length_nil])
              (repeat (first | (refine walkR_still (v := ?_) rfl (by decide +kernel) rfl (fun _ _ _ h => h) hE ?_ ?_; rotate_left; (focus (intro w' hw'; obtain ⟨⟨f0, f1⟩, q1⟩ := HF.out w' hw'; go_simp; all_goals (with_reducible rfl))); simp only [Act.put, List.setIfInBounds_toArray, List.set_cons_zero, List.set_cons_succ]) | (refine walkR_skip rfl (by decide +kernel) rfl (fun _ _ _ h => h) hE ?_; simp only [Act.put, List.setIfInBounds_toArray, List.set_cons_zero, List.set_cons_succ])))
              (refine walkR_only (fun w' => Ext wr w') rfl (by decide +kernel) rfl (fun _ h => h) ?_; intro K hK; go_simp; refine (HLw.out _ hE).mono ?_; rintro e w3' ⟨a3, n3, c3, hs3, rfl, ho3, hx3⟩; refine hK _ _ (hE.trans hx3) ?_; clear hK K; (try simp only [Act.put, List.setIfInBounds_toArray, List.set_cons_zero, List.set_cons_succ]))
              have hE3 := hE.trans hx3
              (repeat (first | (refine walkR_still (v := ?_) rfl (by decide +kernel) rfl (fun _ _ _ h => h) hE3 ?_ ?_; rotate_left; (focus (intro w' hw'; skip; go_simp; all_goals (with_reducible rfl))); simp only [Act.put, List.setIfInBounds_toArray, List.set_cons_zero, List.set_cons_succ]) | (refine walkR_skip rfl (by decide +kernel) rfl (fun _ _ _ h => h) hE3 ?_; simp only [Act.put, List.setIfInBounds_toArray, List.set_cons_zero, List.set_cons_succ])))
              (refine walkR_tail (by rfl) (by kernel_rfl) ?_; simp only [List.drop_succ_cons, List.drop_zero])
              have HP3 := hidP (HP.out.below hE3)
              have HT3 := hidP ho3
              obtain ⟨lo, hlo⟩ : ∃ x, x = wr.drew.heap.size := ⟨_, rfl⟩
              rw [← hlo] at HT3
              have HSz := hidP (show lo ≤ w3'.heap.size by rw [hlo]; exact hx3.size)
              have HTop := hidP (fun e (hf : e ∈ ps2) => (show e.hi ≤ lo by rw [hlo]; exact Nat.le_trans (HP.out.own.each e hf).top hE.size))
              have HGl := hidP (show g < lo by rw [hlo]; obtain ⟨g', e, _, h, _⟩ := HP.out.own.form; cases e; exact Nat.lt_of_lt_of_le h hE.size)
              have HBm := hidP (show bm < lo by rw [hlo]; exact Nat.lt_of_lt_of_le HP.out.map.lt hE.size)
              clear hlo
              have HX3 := hidP HP3.out.ext
              clear hE hE3 hx3 ho3 HLw HF HP
              cases hq : lowF nw ts i E.q with
              | none =>
                have HK2 := hidP (HK.out.none_ (by rw [List.length_map]; omega) hiR (by rw [HEq.out]; exact hq))
                simp only [Option.isSome_none]
                clear hq HT3
                go_wp2
                go_roundw
                case rel => exact ⟨i + 1, n2, c2, _, ps2, f2, rfl, by go_num, by omega, hkn, hn2, HP3, HK2⟩
                case measure => simp [intOf]; omega
              | some q =>
                rw [hq] at HT3
                simp only [Option.isSome_some]
                have hpp := pathB_iff.1 (lowS_path hq)
                have hql : n3 ≤ 60 := by have := hpp.len; have := HT3.out.xl; simp only [optS, Option.getD_some] at this; omega
                have HQ := hidP (show lowF nw ts i ((ps2.map PEl.q).getD k []) = some q by rw [HEq.out]; exact hq)
                have HKq := hidP (HKy.out _ (HX1.out.trans HX3.out) a3 n3 c3 q HT3.out.termsAt hpp)
                have hks := key_size hpp hR4
                have HPp := hidP hpp
                have HSn := hidP (HP3.out.seen q)
                clear hq hpp
                cases hct : (ps2.map PEl.q).contains q with
                | true =>
                  rw [hct] at HSn
                  have HK2 := hidP (HK.out.seen (by rw [List.length_map]; omega) hiR HQ.out hct)
                  clear hct
                  go_wp2_with fail
                  refine HKq.out.mono ?_
                  rintro e w4' ⟨rfl, hx4⟩
                  have HP4 := hidP (HP3.out.below hx4)
                  clear hx4 HKq HP3 HT3
                  go_wp2_with (first | (at_lookup; refine wpList_unguardM rfl ?_; refine wpList_lookupS _ rfl _ _ 70 9 4 rfl Tryz.underlying9 Tryz.underlying70 (.bool false) (zero_bool _) bm n2 f2 rfl HP4.out.map (str (pathT q)) rfl hks ?_; rw [HSn.out]) | fail)
                  go_roundw
                  case rel => exact ⟨i + 1, n2, c2, _, ps2, f2, rfl, by go_num, by omega, hkn, hn2, HP4, HK2⟩
                  case measure => simp [intOf]; omega
                | false =>
                  rw [hct] at HSn
                  have HCt := hidP hct
                  have hlm : (ps2.map PEl.q).length = n2 := by rw [List.length_map]; exact hl
                  clear hct
                  go_wp2_with fail
                  refine HKq.out.mono ?_
                  rintro e w4' ⟨rfl, hx4⟩
                  have HP4 := hidP (HP3.out.below hx4)
                  have HT4 := hidP (HT3.out.below hx4)
                  have HSz4 := hidP hx4.size
                  have hxl := HT4.out.xl
                  simp only [optS, Option.getD_some] at hxl
                  subst hxl
                  clear hx4 HKq HP3 HT3
                  go_wp2_with (first | (at_lookup; refine wpList_unguardM rfl ?_; refine wpList_lookupS _ rfl _ _ 70 9 4 rfl Tryz.underlying9 Tryz.underlying70 (.bool false) (zero_bool _) bm n2 f2 rfl HP4.out.map (str (pathT q)) rfl hks ?_; rw [HSn.out]) | fail)
                  go_loopw [63] (fun jj w5 => ∃ (j : Nat), jj = .int .i64 j ∧ j ≤ q.length ∧ Hid (∀ j', j' < j → Lib.maxOf (wayAt q j') ≤ 12) ∧ Hid (Ext w4' w5)) (fun jj _ => q.length - (intOf jj).toNat)
                  case atStart => exact ⟨0, rfl, Nat.zero_le _, fun j' h => absurd h (Nat.not_lt_zero _), Ext.refl _⟩
                  case round =>
                    obtain ⟨j, rfl, hj, HJ3, HX5⟩ := hrel
                    by_cases hj3 : j < q.length
                    · obtain ⟨b, o, av, cv, e3, p0, p1, hI, hIl, _⟩ := ((HT4.out.below HX5.out).stepsAt).get j hj3
                      simp only [optS, Option.getD_some] at p0 p1 hI hIl
                      subst e3
                      have hwl := (HPp.out.way j hj3).1
                      have hxa := Ext.alloc wr (.cells #[.slice av (wayAt q j).length cv, .int .i64 (lenAt q j)] 73)
                      have HMa := hidP (maxI_any av (wayAt q j).length cv (wayAt q j) _ (hI.below hxa) (by omega) (by omega))
                      have HX6 := hidP (HX5.out.trans hxa)
                      obtain ⟨v, hv⟩ : ∃ v, v = Lib.maxOf (wayAt q j) := ⟨_, rfl⟩
                      rw [← hv] at HMa
                      have Hv := hidP hv
                      clear hv hwl hxa hI hIl
                      generalize (wayAt q j).length = vn at *
                      generalize lenAt q j = vl at *
                      have q5 := (new_cell (w' := wr.alloc (.cells #[.slice av vn cv, .int .i64 vl] 73)) (b := wr.heap.size) rfl (Ext.refl _) 0).1.trans (show _ = some (Value.slice av vn cv) from rfl)
                      go_wp2_with fail
                      refine HMa.out.mono ?_
                      rintro e w6 ⟨rfl, rfl⟩
                      clear q5 p0 p1 HMa
                      by_cases hbig : 12 < v
                      · have hres := HK.out.given (by rw [List.length_map]; omega) hiR HQ.out HCt.out (by rw [bigB_true hj3 (by rw [← Hv.out]; exact hbig)]; rfl)
                        have HR := hidP (HJ.out.trans (by rw [hres]; rfl : res.getD [] = []))
                        have HXz := hidP (HX1.out.trans (HP4.out.ext.trans HX6.out))
                        clear hres
                        go_wp2
                        go_ret
                        exact ⟨none, 0, 0, [], rfl, ownL_none _ _ _, HR.out.symm, HXz.out⟩
                      · have HJ4 : Hid (∀ j', j' < j + 1 → Lib.maxOf (wayAt q j') ≤ 12) := by
                          show ∀ j', _
                          intro j' h1
                          rcases Nat.lt_succ_iff_lt_or_eq.1 h1 with h2 | rfl
                          · exact HJ3.out j' h2
                          · rw [← Hv.out]
                            exact Int.not_lt.1 hbig
                        go_wp2
                        go_roundw
                        case rel => exact ⟨j + 1, by go_num, by omega, HJ4, HX6⟩
                        case measure => simp [intOf]; omega
                    · have hst : bigB q = false := bigB_false fun j' hj' => by have := HJ3.out j' (by omega); omega
                      have HP5 := hidP (HP4.out.below HX5.out)
                      have HT5 := hidP (HT4.out.below HX5.out)
                      have HSz5 := hidP (Nat.le_trans HSz4.out HX5.out.size)
                      clear HP4 HT4 HSz4 HX5 HJ3
                      by_cases h400 : n2 = 400
                      · have hres := HK.out.given (by rw [List.length_map]; omega) hiR HQ.out HCt.out (by rw [hlm, h400]; simp)
                        have HR := hidP (HJ.out.trans (by rw [hres]; rfl : res.getD [] = []))
                        have HXz := hidP (HX1.out.trans HP5.out.ext)
                        have hb4 : ((n2 : Int) == 400) = true := by simp [h400]
                        clear hst hres h400
                        go_wp2
                        go_ret
                        exact ⟨none, 0, 0, [], rfl, ownL_none _ _ _, HR.out.symm, HXz.out⟩
                      · have hK2 := HK.out.more (by rw [List.length_map]; omega) hiR HQ.out HCt.out (by rw [hst, hlm]; simpa using h400)
                        have hb4 : ((n2 : Int) == 400) = false := beq_eq_false_iff_ne.2 (by omega)
                        have hn3 : n2 + 1 ≤ 400 := by omega
                        have HKq := hidP (HKy.out _ (HX1.out.trans HP5.out.ext) a3 q.length c3 q HT5.out.termsAt HPp.out)
                        have HK7 : Hid (Seeks nw ts bigB k (i + 1) ((ps2 ++ [PEl.mk lo w3'.heap.size a3 c3 hs3 q]).map PEl.q) res) := by
                          show Seeks _ _ _ _ _ _ _
                          rw [List.map_append]
                          exact hK2
                        clear hst h400 hK2 hlm
                        go_wp2_with fail
                        refine HKq.out.mono ?_
                        rintro e w6 ⟨rfl, hx6⟩
                        have HP6 := hidP (HP5.out.below hx6)
                        have HE6 : Hid (PEl.Ok w6 w1.heap.size (PEl.mk lo w3'.heap.size a3 c3 hs3 q)) :=
                          ⟨HT5.out.below hx6, by have := HBm.out; have := HP6.out.base; show w1.heap.size ≤ lo; omega, HSz.out, by have := HSz5.out; have := hx6.size; show w3'.heap.size ≤ _; omega⟩
                        clear hx6 HKq HP5 HT5
                        go_wp2_with (first | (at_mapUpdate; refine wpList_updateS _ rfl _ _ _ 70 9 4 rfl Tryz.underlying9 Tryz.underlying70 bm n2 f2 rfl HP6.out.map (by unfold maxLen; omega) (str (pathT q)) rfl hks (.bool true) rfl ?_; intro w7 hm7 hg7; have HM7 := hidP (hm7.below (Ext.alloc w7 (.cells #[.slice a3 q.length c3] 45))); have HO7 := hidP ((HP6.out.onMap hg7).1.below (Ext.alloc w7 (.cells #[.slice a3 q.length c3] 45))); have HX7 := hidP ((HP6.out.onMap hg7).2.trans (Ext.alloc w7 (.cells #[.slice a3 q.length c3] 45))); have HE7 := hidP ((HE6.out.onMap hg7 (.inr HBm.out)).below (Ext.alloc w7 (.cells #[.slice a3 q.length c3] 45))); have HCe : Hid ((w7.alloc (.cells #[.slice a3 q.length c3] 45)).cell? ⟨w7.heap.size, 0, none⟩ = some (PEl.val ⟨lo, w3'.heap.size, a3, c3, hs3, q⟩)) := (cell_top _ _ _ _ _ rfl).trans rfl; clear hm7 hg7) | (at_builtin; refine wpList_append_path rfl (.tmp 78) (.tmp 80) rfl w1.heap.size _ n2 c2 ps2 rfl HO7.out w7.heap.size 1 _ rfl HCe.out HE7.out (fun e hf => HTop.out e hf) (fun b o e => by cases e; left; exact HGl.out) (by omega) HX7.out.size ?_; intro a9 c9 w9 ho9 hg9 hn9; have HP9 := hidP (HP6.out.grow HO7.out HX7.out HM7.out HPp.out HBm.out ho9 hg9 hn9); clear ho9 hg9 hn9) | fail)
                        go_roundw
                        case rel => exact ⟨i + 1, n2 + 1, c9, _, _, _, rfl, by go_num, by omega, by omega, by omega, HP9, HK7⟩
                        case measure => simp [intOf]; omega
            · obtain rfl : i = nw := by omega
              have HK2 := hidP (HK.out.next (by rw [List.length_map]; omega) hiR)
              go_wp2
              go_roundw
              case rel => exact ⟨k + 1, n2, c2, a2, ps2, f2, rfl, by go_num, by omega, hn2, HP, HK2⟩
              case measure => simp [intOf]; omega
        · obtain rfl : n = k := by omega
          have hres := HK.out.done (by rw [List.length_map]; omega)
          have HXz := hidP (HX1.out.trans HP.out.ext)
          have HR := hidP (HJ.out.trans (by rw [hres]; rfl : res.getD [] = ps.map PEl.q))
          clear hres
          go_wp2
          go_ret
          exact ⟨_, _, _, ps, rfl, (HP.out.own.ownL).base HX1.out.size, HR.out.symm, HXz.out⟩
end Go.Proofs.YtdhlapppahkjeaaGreatDoor

set_option linter.unusedVariables false
set_option linter.unusedSimpArgs false
namespace Go.Proofs.YtdhlapppahkjeaaGreatDoor
open Go.RowKit

theorem PathsAt.extM {b1 b2 : Nat} {w w' : World} {a : Option Addr} {n : Nat} {L : List (List Stp)} (h : PathsAt w a n L) (hx : ExtM b1 b2 w w') (m1 : IsMapAt w b1) (m2 : IsMapAt w b2) : PathsAt w' a n L :=
  ⟨h.len, fun k hk => by
    obtain ⟨b, o, a', c', h1, h2, h3, h4⟩ := h.get k hk
    obtain ⟨h5, h6⟩ := h2 w (Ext.refl _)
    refine ⟨b, o, a', c', h1, fun w'' hx' => ?_, h3, h4⟩
    have hx2 := hx.trans (ExtM.of_ext hx')
    exact ⟨hx2.cell m1 m2 h5, h6.extM hx2 m1 m2⟩⟩
end Go.Proofs.YtdhlapppahkjeaaGreatDoor

set_option linter.unusedVariables false
set_option linter.unusedSimpArgs false
namespace Go.Proofs.YtdhlapppahkjeaaGreatDoor
open Go.RowKit

theorem pathsJ_none {r : Int} {ts W : List Int} (h : typeB r ts = false) : pathsJ r ts W = [] := by
  unfold pathsJ pathsR
  rw [h]
  rfl
set_option maxRecDepth 100000 in
set_option maxHeartbeats 16000000 in
theorem tensorByPaths_any (r : Int) (ta : Option Addr) (tn tc : Nat) (ts : List Int) (av : Option Addr) (nv cv : Nat) (V : List Int) (aw : Option Addr) (nw cw : Nat) (W : List Int) (w : World) (hc : IntsAt w ta tn ts) (hv : IntsAt w av nv V) (hw : IntsAt w aw nw W) (hnilv : av = none → cv = 0) (hnil : aw = none → cw = 0) (hcn : tn ≤ 9223372036854775807) (hvn : nv ≤ 9223372036854775807) (hwn : nw ≤ 9223372036854775807) (hm : MaxL w) (htb : Tab w) :
    TermRes 18 #[carV r ta tn tc, .slice av nv cv, .slice aw nw cw] w (tenR r ts V W) := by
  unfold TermRes
  have hx1 := Ext.alloc w (.cells #[.int .i64 r, .slice ta tn tc] 29)
  have HC := hidP (fun w' (hx : Ext (w.alloc (.cells #[.int .i64 r, .slice ta tn tc] 29)) w') => (CarAt.new w _ rfl r ta tn tc 29).below hx)
  have HX1 := hidP hx1
  have HPa := hidP (fun w' (hx : Ext w w') => pathsOf_any r ta tn tc ts aw nw cw W w' (hc.below hx) (hw.below hx) hnil hcn hwn (hm.below hx) (htb.below hx))
  unfold PathsL at HPa
  have HIs := hidP (fun w' (hx : Ext w w') => isCartan_any r ta tn tc ts w' (hc.below hx) hcn (hm.below hx))
  have HTb := hidP htb
  have HMx := hidP hm
  have Hc := hidP hc
  have HV := hidP hv
  have HNv := hidP hnilv
  have hsm := pathsJ_small r ts W
  have HPp := hidP (pathsJ_paths (r := r) (ts := ts) (W := W))
  have HR0 : Hid (pathsJ r ts W = [] ∨ highB r.toNat V = false → tenR r ts V W = (false, [])) := fun h => by unfold tenR; rw [if_pos h]
  have HR1 : Hid (pathsJ r ts W ≠ [] → highB r.toNat V = true → tenOk r.toNat V (pathsJ r ts W) = false → tenR r ts V W = (false, [])) := fun h h1 h2 => by unfold tenR; rw [if_neg (by rw [h1]; simpa using h), h2]; rfl
  have HR2 : Hid (pathsJ r ts W ≠ [] → highB r.toNat V = true → tenOk r.toNat V (pathsJ r ts W) = true → tenR r ts V W = chrR r.toNat (pchT (tensT r.toNat V (pathsJ r ts W)))) := fun h h1 h2 => by unfold tenR; rw [if_neg (by rw [h1]; simpa using h), h2]; rfl
  have HP0 := hidP (fun h => pathsJ_none (W := W) (r := r) (ts := ts) h)
  obtain ⟨L, hL⟩ : ∃ L, L = pathsJ r ts W := ⟨_, rfl⟩
  rw [← hL] at HPa HPp HR0 HR1 HR2 HP0 hsm
  have hLl := hsm.1
  obtain ⟨J, hJ⟩ : ∃ J, J = tenR r ts V W := ⟨_, rfl⟩
  rw [← hJ] at HR0 HR1 HR2 ⊢
  clear hc hv hw hx1 hnilv hnil hm htb hL hsm hJ
  obtain ⟨w1, hw1⟩ : ∃ w1, w1 = w.alloc (.cells #[.int .i64 r, .slice ta tn tc] 29) := ⟨_, rfl⟩
  rw [← hw1] at HC HX1
  obtain ⟨f0, f1⟩ := HC.out w1 (Ext.refl _)
  cases hT : typeB r ts with
  | false =>
    have HR := hidP (HR0.out (.inl (HP0.out hT)))
    have HI0 := hidP (HIs.out _ HX1.out)
    rw [hT] at HI0
    clear hT
    go_enter Tryz.func18, Tryz.ntmps18
    go_wp2_with fail
    rw [← hw1]
    clear hw1
    refine HI0.out.mono ?_
    rintro e w2 ⟨rfl, hx⟩
    have HX := hidP (HX1.out.trans hx)
    clear hx
    go_wp2
    refine bodyPost_ret (v := .tuple #[.slice none 0 0, .bool false]) (by simp [results, Tryz.results18, go_sem]) rfl ⟨none, 0, 0, [], by rw [HR.out], ?_, HX.out⟩
    rw [HR.out]
    exact OwnK.nil termK _ _ _
  | true =>
    have hr := typeB_rank hT
    obtain ⟨R, rfl⟩ : ∃ R : Nat, r = R := ⟨r.toNat, by omega⟩
    rw [Int.toNat_natCast] at HPp HR0 HR1 HR2
    have hR1 : 1 ≤ R := by omega
    have hR4 : R ≤ 4 := by omega
    have HTy := hidP hT
    have HI0 := hidP (HIs.out _ HX1.out)
    rw [hT] at HI0
    have HHi := hidP (fun w' (hx : Ext w w') => isHighest_any R ta tn tc av nv cv V w' (HV.out.below hx) hvn (by omega))
    clear HP0 hr
    cases hH : highB R V with
    | false =>
      have HR := hidP (HR0.out (.inr hH))
      rw [hH] at HHi
      clear hT hH
      go_enter Tryz.func18, Tryz.ntmps18
      go_wp2_with fail
      rw [← hw1]
      clear hw1
      refine HI0.out.mono ?_
      rintro e w2 ⟨rfl, hx⟩
      have HX := hidP (HX1.out.trans hx)
      obtain ⟨g0, g1⟩ := HC.out w2 hx
      clear hx f0 f1
      go_wp2_with fail
      refine (HHi.out _ HX.out).mono ?_
      rintro e w3 ⟨rfl, hx⟩
      have HX3 := hidP (HX.out.trans hx)
      clear hx g0 g1
      go_wp2
      refine bodyPost_ret (v := .tuple #[.slice none 0 0, .bool false]) (by simp [results, Tryz.results18, go_sem]) rfl ⟨none, 0, 0, [], by rw [HR.out], ?_, HX3.out⟩
      rw [HR.out]
      exact OwnK.nil termK _ _ _
    | true =>
      have hl := (highB_iff hH).1
      have hl2 := HV.out.len
      obtain rfl : nv = R := by omega
      have hb := wayB_high hH
      have HSt := hidP (fun w' (h : Ext w w') => straight_any nv ta tn tc ts av cv V w' (Hc.out.below h) hcn hT (HV.out.below h) HNv.out hb (HMx.out.below h))
      have HSp := hidP (pathB_small (straight_path hH))
      have HHig := hidP hH
      rw [hH] at HHi
      clear hT hH hl hl2 hb
      go_enter Tryz.func18, Tryz.ntmps18
      go_wp2_with fail
      rw [← hw1]
      clear hw1
      refine HI0.out.mono ?_
      rintro e w2 ⟨rfl, hx⟩
      have HX2 := hidP hx
      obtain ⟨g0, g1⟩ := HC.out w2 hx
      clear hx f0 f1
      go_wp2_with fail
      refine (HHi.out _ (HX1.out.trans HX2.out)).mono ?_
      rintro e w3 ⟨rfl, hx⟩
      have HX3 := hidP (HX2.out.trans hx)
      obtain ⟨f0, f1⟩ := HC.out w3 HX3.out
      clear hx g0 g1 HI0 HHi
      go_wp2_with fail
      refine (HPa.out _ (HX1.out.trans HX3.out)).mono ?_
      rintro e w5 ⟨aP, nP, cP, ps, rfl, hO, hQ, hx5⟩
      have HP5 : Hid (PathsAt w5 aP nP L) := hQ ▸ hO.at_
      have hnL : nP = L.length := HP5.out.len.symm
      have HX5 := hidP (HX3.out.trans hx5)
      clear hO hQ hx5 HPa f0 f1
      subst hnL
      by_cases h0 : L.length = 0
      · have HR := hidP (HR0.out (.inl (List.length_eq_zero_iff.1 h0)))
        have HXz := hidP (HX1.out.trans HX5.out)
        have hb0 : ((L.length : Int) == 0) = true := by simp [h0]
        clear h0
        go_wp2
        refine bodyPost_ret (v := .tuple #[.slice none 0 0, .bool false]) (by simp [results, Tryz.results18, go_sem]) rfl ⟨none, 0, 0, [], by rw [HR.out], ?_, HXz.out⟩
        rw [HR.out]
        exact OwnK.nil termK _ _ _
      · have hne : L ≠ [] := fun e => h0 (by rw [e]; rfl)
        have HNe := hidP hne
        have hb0 : ((L.length : Int) == 0) = false := beq_eq_false_iff_ne.2 (by omega)
        have HN := hidP (newCounts_any w5)
        clear h0 hne
        go_wp2_with fail
        refine HN.out.mono ?_
        rintro e w6 ⟨b, rfl, hC6, hb6, hx6⟩
        have hx7 := Ext.alloc w6 (.cells #[.map (some b), .map (some (b + 1))] 51)
        have HX7 := hidP (HX5.out.trans (hx6.trans hx7))
        have HC7 := hidP (hC6.below hx7)
        have HA7 := hidP (CntAt.new w6 _ rfl b (b + 1) 51)
        have HB := hidP (show w1.heap.size ≤ b from Nat.le_trans HX5.out.size hb6)
        have HP7 := hidP (HP5.out.below (hx6.trans hx7))
        clear hC6 hb6 hx6 hx7 HN
        go_wp2
        obtain ⟨w7, hw7⟩ : ∃ w7, w7 = w6.alloc (.cells #[.map (some b), .map (some (b + 1))] 51) := ⟨_, rfl⟩
        obtain ⟨bk, hbk⟩ : ∃ bk, bk = w6.heap.size := ⟨_, rfl⟩
        rw [← hw7] at HX7 HC7 HA7 HP7 ⊢
        rw [← hbk] at HA7 ⊢
        clear hw7 hbk
        go_loopw [34] (fun i wr => ∃ k : Nat, k ≤ L.length ∧ i = .int .i64 k ∧ Hid (∃ q f1 f2, q ≤ k ∧ Counts wr b (b + 1) q (cntSum (tensT nv V (L.take k))) f1 f2) ∧ Hid (CntAt wr bk b (b + 1)) ∧ Hid (PathsAt wr aP L.length L) ∧ Hid (∀ j, j < k → tenOk1 nv V (L.getD j []) = true) ∧ Hid (Ext w1 wr)) (fun i _ => L.length - (intOf i).toNat)
        case atStart => exact ⟨0, Nat.zero_le _, rfl, hidP ⟨_, _, _, Nat.zero_le _, HC7.out⟩, HA7, HP7, fun j h => absurd h (Nat.not_lt_zero _), HX7⟩
        case round =>
          clear HC7 HA7 HP7 HX7
          obtain ⟨k, hk, rfl, HCn, HA, HP, HJ, HX⟩ := hrel
          by_cases hlt : k < L.length
          · obtain ⟨bu, o, a', c', rfl, hg, _⟩ := HP.out.get k hlt
            obtain ⟨q1, hs⟩ := hg wr (Ext.refl _)
            have hmem : L.getD k [] ∈ L := mem_getDL hlt
            have hpB := HPp.out _ hmem
            have hpp := pathB_iff.1 hpB
            obtain ⟨hl2, hk2⟩ := pathB_small hpB
            have HSk := hidP (HSt.out)
            have HCp := hidP (fun w' (hx : Ext wr w') => copySteps_any a' _ c' (L.getD k []) w' (hg w' hx).2 (by omega) (fun j hj => by have := hk2 j hj; omega))
            have HCk := hidP (fun w' (hx : Ext wr w') (b : Option Addr) (m d : Nat) (hs : List Hdr) (hm : m = 1 + (L.getD k []).length) (ho : OwnK stepK w' wr.heap.size w'.heap.size b m d hs (straight V ++ L.getD k [])) => checked_of nv ta tn tc ts wr.heap.size w'.heap.size b m d hs (straight V ++ L.getD k []) w' ho hx.size (by omega) (fun j hj => by
              by_cases hkn : j < 1
              · have h1 := HSp.out.2 j hkn
                rw [wayAt_app _ _ _ hkn, lenAt_app _ _ _ hkn]
                omega
              · have h1 := hk2 (j - 1) (by omega)
                unfold wayAt lenAt at h1 ⊢
                rw [getD_right _ _ _ _ (show (straight V).length ≤ j from by show 1 ≤ j; omega)]
                exact ⟨by have := h1.1; show ((L.getD k []).getD (j - 1) ([], 0)).1.length ≤ _; omega, h1.2.1, h1.2.2⟩) HTy.out (fun w'' hx' => HIs.out w'' (HX1.out.trans ((HX.out.trans hx).trans hx'))))
            have HEn := hidP (fun w' (hx : Ext wr w') => endOf_any nv ta tn tc a' _ c' (L.getD k []) w' ⟨hR1, hR4⟩ (hg w' hx).2.terms hpp)
            unfold EndRes at HEn
            have HF := hidP (fun w' (hx : Ext wr w') => HC.out w' (HX.out.trans hx))
            have HNo := hidP (fun h => tenOk_not (r := nv) (V := V) hlt h)
            have HTk := hidP (tensT_take nv V L hlt)
            have HKy := hidP (fun h => ten_key hR4 HHig.out hpp h)
            have hpl : (L.getD k []).length ≤ 60 := hl2
            obtain ⟨pk, hpk⟩ : ∃ pk, pk = L.getD k [] := ⟨_, rfl⟩
            rw [← hpk] at q1 HCp HCk HEn HNo HTk HKy hpl
            have HPk := hidP hpk
            have HFq := hidP (fun w' (hx : Ext wr w') => (hg w' hx).1)
            clear hg hs hmem hpB hpp hl2 hk2 hpk
            go_wp2
            clear q1
            have hE : Ext wr wr.drew := Ext.drew wr
            (refine walkR_start (fun w' => Ext wr w') 13 (by kernel_rfl) ?_; simp only [numbered, List.take_succ_cons, List.take_zero, Nat.zero_add, Nat.reduceAdd, List.length_cons, List.length_nil])
            (repeat (first | (refine walkR_still (v := ?_) rfl (by decide +kernel) rfl (fun _ _ _ h => h) hE ?_ ?_; rotate_left; (focus (intro w' hw'; obtain ⟨f0, f1⟩ := HF.out w' hw'; go_simp; all_goals (with_reducible rfl))); simp only [Act.put, List.setIfInBounds_toArray, List.set_cons_zero, List.set_cons_succ]) | (refine walkR_skip rfl (by decide +kernel) rfl (fun _ _ _ h => h) hE ?_; simp only [Act.put, List.setIfInBounds_toArray, List.set_cons_zero, List.set_cons_succ])))
            (refine walkR_later ?_; simp only [List.cons_append, List.nil_append])
            (repeat (first | (refine walkR_still (v := ?_) rfl (by decide +kernel) rfl (fun _ _ _ h => h) hE ?_ ?_; rotate_left; (focus (intro w' hw'; skip; go_simp; all_goals (with_reducible rfl))); simp only [Act.put, List.setIfInBounds_toArray, List.set_cons_zero, List.set_cons_succ]) | (refine walkR_skip rfl (by decide +kernel) rfl (fun _ _ _ h => h) hE ?_; simp only [Act.put, List.setIfInBounds_toArray, List.set_cons_zero, List.set_cons_succ])))
            (refine walkR_later ?_; simp only [List.cons_append, List.nil_append]); (refine walkR_later ?_; simp only [List.cons_append, List.nil_append]); (refine walkR_later ?_; simp only [List.cons_append, List.nil_append]); (refine walkR_later ?_; simp only [List.cons_append, List.nil_append]); (refine walkR_later ?_; simp only [List.cons_append, List.nil_append]); (refine walkR_later ?_; simp only [List.cons_append, List.nil_append]); (refine walkR_later ?_; simp only [List.cons_append, List.nil_append]); (refine walkR_later ?_; simp only [List.cons_append, List.nil_append])
            (refine walkR_only (fun w' => Ext wr w') rfl (by decide +kernel) rfl (fun _ h => h) ?_; intro K hK; go_simp; refine (HSk.out _ (HX1.out.trans (HX.out.trans hE))).mono ?_; rintro e w4 ⟨a4, hs4, rfl, ho4, hx4⟩; refine hK _ _ (hE.trans hx4) ?_; clear hK K; (try simp only [Act.put, List.setIfInBounds_toArray, List.set_cons_zero, List.set_cons_succ]))
            have hE4 := hE.trans hx4
            have HO4 := hidP ho4
            clear ho4 hx4
            (refine walkR_only (fun w' => Ext wr w') rfl (by decide +kernel) rfl (fun _ h => h) ?_; intro K hK; go_simp; refine (HCp.out _ hE4).mono ?_; rintro e w5' ⟨g2, c2, hs2, rfl, ho2, hx2⟩; refine hK _ _ (hE4.trans hx2) ?_; clear hK K; (try simp only [Act.put, List.setIfInBounds_toArray, List.set_cons_zero, List.set_cons_succ]))
            have hE5 := hE4.trans hx2
            have HO25 := hidP (ho2.weaken (B' := wr.heap.size) hE4.size (Nat.le_refl _))
            have hsz : wr.drew.heap.size = wr.heap.size := rfl
            have HAp : Hid (∀ i j, i < 1 → j < pk.length → Apart (hs4.getD i (none, 0)).1 (hs2.getD j (none, 0)).1) := by
              intro i j hi hj b o b' o' e e'
              have := ((HO4.out.each i hi).at_base b o e).2
              have := ((ho2.each j hj).at_base b' o' e').1
              omega
            have HO45 := hidP ((HO4.out.below hx2).weaken (B' := wr.heap.size) (Nat.le_of_eq hsz.symm) (Nat.le_refl _))
            clear ho2 hx2
            (refine walkR_only (fun w' => Ext wr w') rfl (by decide +kernel) rfl ?_ ?_)
            · exact fun _ h => h
            intro K hK
            obtain ⟨ga, rfl, _⟩ : ∃ ga, a4 = some ⟨ga, 0, none⟩ ∧ True := by
              obtain ⟨g, aw, cw, e, _⟩ := HO4.out.stepCell 0 (by omega)
              exact ⟨g, e, trivial⟩
            refine wp_append_elems stepK 45 (.agg #[.slice none 0 0, .int .i64 0]) 32 (.tmp 42) (.tmp 44) rfl Tryz.underlying45 Tryz.info73 rfl (by omega) wr.heap.size _ _ (some ⟨ga, 0, none⟩) 1 1 hs4 hs2 (straight V) pk rfl HO45.out g2 pk.length c2 rfl HO25.out HAp.out (by omega) (by simp) hE5.size ?_
            intro a6 c6 w6' ho6 hg6 _
            have hE6 : Ext wr w6' := Below.own hE5 hg6 hE5.size (fun b o e => (HO45.out.base_lt b o e).1) HO45.out.addr
            have HO6 := hidP ho6
            have hE6' := hidP hE6
            refine hK _ _ hE6 ?_
            clear hK K ho6 hg6 hE5 hE4 hE hsz
            (try simp only [Act.put, List.setIfInBounds_toArray, List.set_cons_zero, List.set_cons_succ])
            (refine walkR_only (fun w' => Ext wr w') rfl (by decide +kernel) rfl (fun _ h => h) ?_; intro K hK; go_simp; refine (HCk.out w6' hE6'.out a6 (1 + pk.length) c6 (hs4 ++ hs2) rfl HO6.out).mono ?_; rintro e w7' ⟨a7, n7, c7, hs7, rfl, ho7, hx7⟩; refine hK _ _ (hE6.trans hx7) ?_; clear hK K; (try simp only [Act.put, List.setIfInBounds_toArray, List.set_cons_zero, List.set_cons_succ]))
            have hE7 := hE6.trans hx7
            (repeat (first | (refine walkR_still (v := ?_) rfl (by decide +kernel) rfl (fun _ _ _ h => h) hE7 ?_ ?_; rotate_left; (focus (intro w' hw'; skip; go_simp; all_goals (with_reducible rfl))); simp only [Act.put, List.setIfInBounds_toArray, List.set_cons_zero, List.set_cons_succ]) | (refine walkR_skip rfl (by decide +kernel) rfl (fun _ _ _ h => h) hE7 ?_; simp only [Act.put, List.setIfInBounds_toArray, List.set_cons_zero, List.set_cons_succ])))
            (refine walkR_tail (by rfl) (by kernel_rfl) ?_; simp only [List.drop_succ_cons, List.drop_zero])
            have HO7 := hidP ho7
            have HE7 := hidP hE7
            have HEk := hidP (HEn.out _ hE7)
            have HP7 := hidP (HP.out.below hE7)
            obtain ⟨f0, f1⟩ := HF.out _ hE7
            clear ho7 hx7 hE6 hE7 HO6 hE6' HO4 HO45 HO25 HAp HCk HCp HEn
            go_wp2_with fail
            refine HEk.out.mono ?_
            rintro e w8 ⟨aE, nE, cE, rfl, hoE, hxE⟩
            have HE8 := hidP (HE7.out.trans hxE)
            have HO8 := hidP (HO7.out.below hxE)
            have HoE := hidP hoE
            have HX8 := hidP (HX.out.trans HE8.out)
            have HXz := hidP (HX1.out.trans HX8.out)
            clear hoE hxE HEk f0 f1 HO7
            cases hok1 : (chk nv (straight V ++ pk)).1 with
            | false =>
              have HR := hidP (HR1.out HNe.out HHig.out (HNo.out (by unfold tenOk1; rw [hok1]; rfl)))
              clear hok1
              go_wp2
              refine bodyPost_ret (v := .tuple #[.slice none 0 0, .bool false]) (by simp [results, Tryz.results18, go_sem]) rfl ⟨none, 0, 0, [], by rw [HR.out], ?_, HXz.out⟩
              rw [HR.out]
              exact OwnK.nil termK _ _ _
            | true =>
              cases hok2 : (endR nv pk).1 with
              | false =>
                have HR := hidP (HR1.out HNe.out HHig.out (HNo.out (by unfold tenOk1; rw [hok1, hok2]; rfl)))
                clear hok1 hok2
                go_wp2
                refine bodyPost_ret (v := .tuple #[.slice none 0 0, .bool false]) (by simp [results, Tryz.results18, go_sem]) rfl ⟨none, 0, 0, [], by rw [HR.out], ?_, HXz.out⟩
                rw [HR.out]
                exact OwnK.nil termK _ _ _
              | true =>
                obtain ⟨hky1, hky2, hky3, hky4⟩ := HKy.out hok2
                have HKo := hidP hky2
                have HPi := hidP hky4
                have HVl := hidP hky1
                have hcm := plusV_comm hky1.symm
                have HJ2 : Hid (∀ j, j < k + 1 → tenOk1 nv V (L.getD j []) = true) := by
                  show ∀ j, _
                  intro j hj
                  rcases Nat.lt_succ_iff_lt_or_eq.1 hj with h3 | rfl
                  · exact HJ.out j h3
                  · rw [← HPk.out]
                    unfold tenOk1
                    rw [hok1, hok2]
                    rfl
                have HDm := hidP (isDominantPath_any nv ta tn tc a7 n7 c7 _ w8 HO8.out.stepsAt (chk_path hok1) hR4)
                have hdt := fun h => tenE_dom (r := nv) (V := V) (p := pk) h
                have hdf := fun h => tenE_not (r := nv) (V := V) (p := pk) h
                obtain ⟨f0, f1⟩ := HF.out _ HE8.out
                clear hok1 hok2 hky1 hky2 hky3 hky4
                cases hdm : domB nv (chk nv (straight V ++ pk)).2 with
                | false =>
                  rw [hdm] at HDm
                  have HTe := hidP (HTk.out.trans (by rw [hdf hdm, List.append_nil]))
                  clear hdm hdt hdf hcm
                  go_wp2_with fail
                  refine HDm.out.mono ?_
                  rintro e w9 ⟨rfl, hx9⟩
                  have hE9 := HE8.out.trans hx9
                  have HC9 : Hid (∃ q f1 f2, q ≤ k + 1 ∧ Counts w9 b (b + 1) q (cntSum (tensT nv V (L.take (k + 1)))) f1 f2) := by
                    obtain ⟨q, g1, g2, hq, hC⟩ := HCn.out
                    rw [HTe.out]
                    exact ⟨q, g1, g2, by omega, hC.below hE9⟩
                  have HA9 := hidP (HA.out.below hE9)
                  have HP9 := hidP (HP.out.below hE9)
                  have HX9 := hidP (HX.out.trans hE9)
                  clear hx9 hE9 f0 f1 HO8 HoE
                  go_wp2
                  go_roundw
                  case rel => exact ⟨k + 1, by omega, by go_num, HC9, HA9, HP9, HJ2, HX9⟩
                  case measure => simp [intOf]; omega
                | true =>
                  rw [hdm] at HDm
                  have hTe := HTk.out
                  rw [hdt hdm, ← hcm] at hTe
                  have hbd := ones_bound (tensT_one nv V (L.take k)) (plusV (endR nv pk).2 1 V)
                  have htl := tensT_length nv V (L.take k)
                  rw [List.length_take] at htl
                  have HKo2 : Hid (KeyOk (plusV (endR nv pk).2 1 V)) := by
                    rw [← hcm] at HKo
                    exact HKo
                  obtain ⟨G, hG⟩ : ∃ G, G = cntSum (tensT nv V (L.take k)) := ⟨_, rfl⟩
                  have HSn : Hid (addG G (plusV (endR nv pk).2 1 V) 1 = cntSum (tensT nv V (L.take (k + 1)))) := by
                    show _ = _
                    rw [hTe, cntSum_snoc, hG]
                  rw [← hG] at HCn hbd
                  have HGb := hidP (show 0 ≤ G (plusV (endR nv pk).2 1 V) ∧ G (plusV (endR nv pk).2 1 V) ≤ 400 by omega)
                  have hnE : nE = (endR nv pk).2.length := HoE.out.ints.len.symm
                  have HElen := hidP (show nE = nv by have := HVl.out; have := HV.out.len; omega)
                  clear hnE hdm hdt hdf hbd htl hG hTe
                  go_wp2_with fail
                  refine HDm.out.mono ?_
                  rintro e w9 ⟨rfl, hx9⟩
                  have hE9 := HE8.out.trans hx9
                  have HE9 := hidP hE9
                  have HoE9 := hidP (HoE.out.below hx9)
                  have HAb := hidP (fun w' (hx : Ext w9 w') => HA.out.below (hE9.trans hx))
                  have HLp := hidP (fun w' (hx : Ext w9 w') => listPlus_any aE nE cE (endR nv pk).2 1 av nv cv V w' (HoE9.out.below hx).ints HoE9.out.nil_cap (by have := HElen.out; omega) (HV.out.below (HX1.out.trans (HX.out.trans (hE9.trans hx)))) HElen.out HPi.out)
                  have hEd : Ext w9 w9.drew := Ext.drew w9
                  clear hx9 hE9 f0 f1 HO8 HoE hcm
                  go_wp2
                  (refine walkR_start (fun w' => Ext w9 w') 4 (by kernel_rfl) ?_; simp only [numbered, List.take_succ_cons, List.take_zero, Nat.zero_add, Nat.reduceAdd, List.length_cons, List.length_nil])
                  (repeat (first | (refine walkR_still (v := ?_) rfl (by decide +kernel) rfl (fun _ _ _ h => h) hEd ?_ ?_; rotate_left; (focus (intro w' hw'; obtain ⟨z0, z1⟩ := HAb.out w' hw'; go_simp; all_goals (with_reducible rfl))); simp only [Act.put, List.setIfInBounds_toArray, List.set_cons_zero, List.set_cons_succ]) | (refine walkR_skip rfl (by decide +kernel) rfl (fun _ _ _ h => h) hEd ?_; simp only [Act.put, List.setIfInBounds_toArray, List.set_cons_zero, List.set_cons_succ])))
                  (refine walkR_only (fun w' => Ext w9 w') rfl (by decide +kernel) rfl (fun _ h => h) ?_; intro K hK; go_simp; refine (HLp.out _ hEd).mono ?_; rintro e w10 ⟨a1, c1, rfl, ho1, hx10⟩; refine hK _ _ (hEd.trans hx10) ?_; clear hK K; (try simp only [Act.put, List.setIfInBounds_toArray, List.set_cons_zero, List.set_cons_succ]))
                  have hE3 := HE9.out.trans (hEd.trans hx10)
                  obtain ⟨q, g1, g2, hqk, hCn⟩ := HCn.out
                  have HAd := hidP (cntAdd_any b (b + 1) q G g1 g2 a1 nE c1 (plusV (endR nv pk).2 1 V) 1 w10 (hCn.below hE3) HKo2.out ho1.ints ho1.nil_cap (by omega) (by have := HGb.out; omega) (by have := HGb.out; omega) (HTb.out.below (HX1.out.trans (HX.out.trans hE3))))
                  have HM1 := hidP ((hCn.below hE3).m1.is)
                  have HM2 := hidP ((hCn.below hE3).m2.is)
                  have HA6 := hidP (HA.out.below hE3)
                  have HP6 := hidP (HP.out.below hE3)
                  have HX6 := hidP (HX.out.trans hE3)
                  have Hqk := hidP hqk
                  clear ho1 hx10 hEd hE3 hCn HCn hqk
                  (refine walkR_tail (by rfl) (by kernel_rfl) ?_; simp only [List.drop_succ_cons, List.drop_zero])
                  go_wp2_with fail
                  refine HAd.out.mono ?_
                  rintro e w11 ⟨rfl, ⟨g1', g2', hC7⟩, hx7⟩
                  rw [HSn.out] at hC7
                  have HC7 : Hid (∃ q f1 f2, q ≤ k + 1 ∧ Counts w11 b (b + 1) q (cntSum (tensT nv V (L.take (k + 1)))) f1 f2) := hidP ⟨_, g1', g2', by have := Hqk.out; omega, hC7⟩
                  have HA7 := hidP (HA6.out.extM hx7 HM1.out HM2.out)
                  have HP7 := hidP (HP6.out.extM hx7 HM1.out HM2.out)
                  have HX7 := hidP (hx7.below HX6.out HB.out (Nat.le_succ_of_le HB.out) HX6.out.size)
                  clear hC7 hx7
                  go_wp2
                  go_roundw
                  case rel => exact ⟨k + 1, by omega, by go_num, HC7, HA7, HP7, HJ2, HX7⟩
                  case measure => simp [intOf]; omega
          · obtain rfl : k = L.length := by omega
            have HR := hidP (HR2.out HNe.out HHig.out (tenOk_of HJ.out))
            obtain ⟨q, g1, g2, hqk, hCn⟩ := HCn.out
            rw [List.take_of_length_le (Nat.le_refl _)] at hCn
            obtain ⟨hjo, hjt⟩ := pchT_tells (tensT nv V L)
            have HCh := hidP (cntCharacter_any nv ta tn tc ts b (b + 1) q _ g1 g2 (pchT (tensT nv V L)) wr hCn hjt hjo (by have := pchT_length (tensT nv V L); have := tensT_length nv V L; omega) HTy.out (fun w' hx => HIs.out w' (HX1.out.trans (HX.out.trans hx))))
            rw [Int.toNat_natCast, ← HR.out] at HCh
            unfold TermRes at HCh
            obtain ⟨z0, z1⟩ := HA.out
            obtain ⟨f0, f1⟩ := HC.out _ HX.out
            clear hCn hjo hjt hqk
            go_wp2_with fail
            refine HCh.out.mono ?_
            rintro e w8 ⟨a8, n8, c8, hs8, rfl, ho8, hx8⟩
            have HO8 := hidP (ho8.weaken (B' := w.heap.size) (HX1.out.trans HX.out).size (Nat.le_refl _))
            have HX8 := hidP (HX1.out.trans (HX.out.trans hx8))
            clear ho8 hx8 z0 z1 f0 f1
            go_wp2
            refine bodyPost_ret (v := .tuple #[.slice a8 n8 c8, .bool J.1]) (by simp [results, Tryz.results18, go_sem]) rfl ⟨a8, n8, c8, hs8, rfl, HO8.out, HX8.out⟩
end Go.Proofs.YtdhlapppahkjeaaGreatDoor

set_option linter.unusedVariables false
set_option linter.unusedSimpArgs false
namespace Go.Proofs.YtdhlapppahkjeaaGreatDoor
open Go.RowKit

set_option maxRecDepth 100000 in
set_option maxHeartbeats 16000000 in
theorem sTensorByPaths_any (r : Int) (ta : Option Addr) (tn tc : Nat) (ts : List Int) (av : Option Addr) (nv cv : Nat) (V : List Int) (aw : Option Addr) (nw cw : Nat) (W : List Int) (w : World) (hc : IntsAt w ta tn ts) (hv : IntsAt w av nv V) (hw : IntsAt w aw nw W) (hnilv : av = none → cv = 0) (hnil : aw = none → cw = 0) (hcn : tn ≤ 9223372036854775807) (hvn : nv ≤ 9223372036854775807) (hwn : nw ≤ 9223372036854775807) :
    TermRes 17 #[carV r ta tn tc, .slice av nv cv, .slice aw nw cw] w (tenR r ts V W) := by
  unfold TermRes
  have hx1 := Ext.alloc w (.cells #[.int .i64 r, .slice ta tn tc] 29)
  have HC := hidP (fun w' (hx : Ext (w.alloc (.cells #[.int .i64 r, .slice ta tn tc] 29)) w') => (CarAt.new w _ rfl r ta tn tc 29).below hx)
  have HX1 := hidP hx1
  have HPa := hidP (sPathsOf_any r ta tn tc ts aw nw cw W _ (hc.below hx1) (hw.below hx1) hnil hcn hwn)
  unfold PathsL at HPa
  have HEn := hidP (fun w' (hx : Ext w w') a n c xs (h : TermsAt w' a n xs) (hn : n ≤ 9223372036854775807) => sEndOf_any r ta tn tc ts a n c xs w' (hc.below hx) hcn h hn)
  unfold EndRes at HEn
  have HJn := hidP (fun w' (hx : Ext w w') a n c xs a' n' c' ys h hn h' hn' => sJoinPaths_any r ta tn tc ts a n c xs a' n' c' ys w' (hc.below hx) hcn h hn h' hn')
  unfold PathRes at HJn
  have Hc := hidP hc
  have HV := hidP hv
  have HNv := hidP hnilv
  have hsm := pathsJ_small r ts W
  have HPp := hidP (pathsJ_paths (r := r) (ts := ts) (W := W))
  have HTy := hidP (pathsJ_type (r := r) (ts := ts) (W := W))
  have HR0 : Hid (pathsJ r ts W = [] ∨ highB r.toNat V = false → tenR r ts V W = (false, [])) := fun h => by unfold tenR; rw [if_pos h]
  have HR1 : Hid (pathsJ r ts W ≠ [] → highB r.toNat V = true → tenOk r.toNat V (pathsJ r ts W) = false → tenR r ts V W = (false, [])) := fun h h1 h2 => by unfold tenR; rw [if_neg (by rw [h1]; simpa using h), h2]; rfl
  have HR2 : Hid (pathsJ r ts W ≠ [] → highB r.toNat V = true → tenOk r.toNat V (pathsJ r ts W) = true → tenR r ts V W = chrR r.toNat (pchT (tensT r.toNat V (pathsJ r ts W)))) := fun h h1 h2 => by unfold tenR; rw [if_neg (by rw [h1]; simpa using h), h2]; rfl
  obtain ⟨L, hL⟩ : ∃ L, L = pathsJ r ts W := ⟨_, rfl⟩
  rw [← hL] at HPa HPp HTy HR0 HR1 HR2 hsm
  have hLl := hsm.1
  obtain ⟨J, hJ⟩ : ∃ J, J = tenR r ts V W := ⟨_, rfl⟩
  rw [← hJ] at HR0 HR1 HR2 ⊢
  clear hc hv hw hx1 hnilv hnil hL hsm hJ
  obtain ⟨w1, hw1⟩ : ∃ w1, w1 = w.alloc (.cells #[.int .i64 r, .slice ta tn tc] 29) := ⟨_, rfl⟩
  rw [← hw1] at HC HX1 HPa
  obtain ⟨f0, f1⟩ := HC.out w1 (Ext.refl _)
  go_enter Tryz.func17, Tryz.ntmps17
  go_wp2_with fail
  rw [← hw1]
  clear hw1 f0 f1
  refine HPa.out.mono ?_
  rintro e w2 ⟨aP, nP, cP, ps, rfl, hO, hQ, hx2⟩
  have HP2 : Hid (PathsAt w2 aP nP L) := hQ ▸ hO.at_
  have hnL : nP = L.length := HP2.out.len.symm
  have HX2 := hidP hx2
  clear hO hQ hx2 HPa
  subst hnL
  by_cases h0 : L.length = 0
  · have HR := hidP (HR0.out (.inl (List.length_eq_zero_iff.1 h0)))
    have HXz := hidP (HX1.out.trans HX2.out)
    have hb0 : ((L.length : Int) == 0) = true := by simp [h0]
    clear h0
    go_wp2
    refine bodyPost_ret (v := .tuple #[.slice none 0 0, .bool false]) (by simp [results, Tryz.results17, go_sem]) rfl ⟨none, 0, 0, [], by rw [HR.out], ?_, HXz.out⟩
    rw [HR.out]
    exact OwnK.nil termK _ _ _
  · have hne : L ≠ [] := fun e => h0 (by rw [e]; rfl)
    have hb0 : ((L.length : Int) == 0) = false := beq_eq_false_iff_ne.2 (by omega)
    have HNe := hidP hne
    have hT := HTy.out hne
    have hr := typeB_rank hT
    obtain ⟨R, rfl⟩ : ∃ R : Nat, r = R := ⟨r.toNat, by omega⟩
    rw [Int.toNat_natCast] at HPp HR0 HR1 HR2
    have hR1 : 1 ≤ R := by omega
    have hR4 : R ≤ 4 := by omega
    have HHi := hidP (l8Highest_any R ta tn tc av nv cv V w2 (HV.out.below (HX1.out.trans HX2.out)) hvn (by omega))
    obtain ⟨f0, f1⟩ := HC.out w2 HX2.out
    clear h0 hne hr HTy
    cases hH : highB R V with
    | false =>
      have HR := hidP (HR0.out (.inr hH))
      rw [hH] at HHi
      clear hT hH
      go_wp2_with fail
      refine HHi.out.mono ?_
      rintro e w3 ⟨rfl, hx3⟩
      have HXz := hidP (HX1.out.trans (HX2.out.trans hx3))
      clear hx3 f0 f1
      go_wp2
      refine bodyPost_ret (v := .tuple #[.slice none 0 0, .bool false]) (by simp [results, Tryz.results17, go_sem]) rfl ⟨none, 0, 0, [], by rw [HR.out], ?_, HXz.out⟩
      rw [HR.out]
      exact OwnK.nil termK _ _ _
    | true =>
      have hl := (highB_iff hH).1
      have hl2 := HV.out.len
      obtain rfl : nv = R := by omega
      have hb := wayB_high hH
      have HSt := hidP (fun w' (h : Ext w w') => sStraight_any nv ta tn tc ts av cv V w' (Hc.out.below h) hcn hT (HV.out.below h) HNv.out hb)
      have HSp := hidP (straight_path hH)
      have HHig := hidP hH
      have HT := hidP hT
      rw [hH] at HHi
      clear hT hH hl hl2 hb
      go_wp2_with fail
      refine HHi.out.mono ?_
      rintro e w3 ⟨rfl, hx3⟩
      have HX3 := hidP (HX2.out.trans hx3)
      have HP3 := hidP (HP2.out.below hx3)
      have HM0 : Hid (OwnK termK (w3.alloc (.cells #[] 57)) w3.heap.size (w3.alloc (.cells #[] 57)).heap.size (some ⟨w3.heap.size, 0, none⟩) 0 0 [] []) := OwnK.made0 termK w3
      have HX0 := hidP (Ext.alloc w3 (.cells #[] 57))
      clear hx3 f0 f1 HHi HP2
      go_wp2
      go_loopw [9, 10] (fun out i wr => ∃ (k g co q : Nat) (hs : List Hdr), k ≤ L.length ∧ out = .slice (some ⟨g, 0, none⟩) q co ∧ i = .int .i64 k ∧ Hid (OwnK termK wr w3.heap.size wr.heap.size (some ⟨g, 0, none⟩) q co hs (putsT [] 1 (tensT nv V (L.take k)))) ∧ Hid (∀ j, j < k → tenOk1 nv V (L.getD j []) = true) ∧ Hid (Ext w3 wr)) (fun _ i _ => L.length - (intOf i).toNat)
      case atStart => exact ⟨0, _, _, _, [], Nat.zero_le _, rfl, rfl, HM0, fun j h => absurd h (Nat.not_lt_zero _), HX0⟩
      case round =>
        clear HM0 HX0
        obtain ⟨k, g, co, q, hs, hk, rfl, rfl, HO, HJ, HX⟩ := hrel
        by_cases hlt : k < L.length
        · obtain ⟨bu, o, a', c', rfl, hg, hc1, hc2⟩ := (HP3.out.below HX.out).get k hlt
          have hmem : L.getD k [] ∈ L := mem_getDL hlt
          have hpB := HPp.out _ hmem
          have hpp := pathB_iff.1 hpB
          have HW0 := hidP (fun w' (hx : Ext wr w') => HX1.out.trans (HX3.out.trans (HX.out.trans hx)))
          have HEk := hidP (fun w' (hx : Ext wr w') => HEn.out w' (HW0.out w' hx) a' _ c' (L.getD k []) (hg w' hx).2.terms (by omega))
          rw [show endT nv ts (L.getD k []) = endR nv (L.getD k []) by unfold endT; rw [HT.out, Int.toNat_natCast, hpB]; rfl] at HEk
          have HJk := hidP (fun w' (hx : Ext wr w') a4 (h4 : StepsAt w' a4 1 (straight V)) => HJn.out w' (HW0.out w' hx) a4 1 1 (straight V) a' _ c' (L.getD k []) h4 (by omega) (hg w' hx).2 (by omega))
          rw [show joinR nv ts (straight V) (L.getD k []) = chk nv (straight V ++ L.getD k []) by unfold joinR; rw [HT.out, Int.toNat_natCast, HSp.out, hpB]; rfl] at HJk
          have HF := hidP (fun w' (hx : Ext wr w') => (⟨HC.out w' (HX3.out.trans (HX.out.trans hx)), (hg w' hx).1⟩ : _ ∧ _))
          have HNo := hidP (fun h => tenOk_not (r := nv) (V := V) hlt h)
          have HTk := hidP (tensT_take nv V L hlt)
          have HKy := hidP (fun h => ten_key hR4 HHig.out hpp h)
          obtain ⟨pk, hpk⟩ : ∃ pk, pk = L.getD k [] := ⟨_, rfl⟩
          rw [← hpk] at HEk HJk HF HNo HTk HKy
          have HPk := hidP hpk
          have hE : Ext wr wr.drew := Ext.drew wr
          clear hg hc1 hc2 hmem hpB hpp hpk
          go_wp2
          (refine walkR_start (fun w' => Ext wr w') 14 (by kernel_rfl) ?_; simp only [numbered, List.take_succ_cons, List.take_zero, Nat.zero_add, Nat.reduceAdd, List.length_cons, List.length_nil])
          (repeat (first | (refine walkR_still (v := ?_) rfl (by decide +kernel) rfl (fun _ _ _ h => h) hE ?_ ?_; rotate_left; (focus (intro w' hw'; obtain ⟨⟨f0, f1⟩, q1⟩ := HF.out w' hw'; go_simp; all_goals (with_reducible rfl))); simp only [Act.put, List.setIfInBounds_toArray, List.set_cons_zero, List.set_cons_succ]) | (refine walkR_skip rfl (by decide +kernel) rfl (fun _ _ _ h => h) hE ?_; simp only [Act.put, List.setIfInBounds_toArray, List.set_cons_zero, List.set_cons_succ])))
          (refine walkR_later ?_; simp only [List.cons_append, List.nil_append])
          (repeat (first | (refine walkR_still (v := ?_) rfl (by decide +kernel) rfl (fun _ _ _ h => h) hE ?_ ?_; rotate_left; (focus (intro w' hw'; obtain ⟨⟨f0, f1⟩, q1⟩ := HF.out w' hw'; go_simp; all_goals (with_reducible rfl))); simp only [Act.put, List.setIfInBounds_toArray, List.set_cons_zero, List.set_cons_succ]) | (refine walkR_skip rfl (by decide +kernel) rfl (fun _ _ _ h => h) hE ?_; simp only [Act.put, List.setIfInBounds_toArray, List.set_cons_zero, List.set_cons_succ])))
          (refine walkR_later ?_; simp only [List.cons_append, List.nil_append]); (refine walkR_later ?_; simp only [List.cons_append, List.nil_append]); (refine walkR_later ?_; simp only [List.cons_append, List.nil_append]); (refine walkR_later ?_; simp only [List.cons_append, List.nil_append]); (refine walkR_later ?_; simp only [List.cons_append, List.nil_append]); (refine walkR_later ?_; simp only [List.cons_append, List.nil_append])
          (refine walkR_only (fun w' => Ext wr w') rfl (by decide +kernel) rfl (fun _ h => h) ?_; intro K hK; go_simp; refine (HSt.out _ (HW0.out _ hE)).mono ?_; rintro e w4 ⟨a4, hs4, rfl, ho4, hx4⟩; refine hK _ _ (hE.trans hx4) ?_; clear hK K; (try simp only [Act.put, List.setIfInBounds_toArray, List.set_cons_zero, List.set_cons_succ]))
          have hE4 := hE.trans hx4
          have HJ4 := hidP (HJk.out _ hE4 a4 ho4.stepsAt)
          clear ho4 hx4 hE
          (refine walkR_only (fun w' => Ext wr w') rfl (by decide +kernel) rfl (fun _ h => h) ?_; intro K hK; go_simp; refine (HJ4.out).mono ?_; rintro e w7 ⟨a7, n7, c7, hs7, rfl, ho7, hx7⟩; refine hK _ _ (hE4.trans hx7) ?_; clear hK K; (try simp only [Act.put, List.setIfInBounds_toArray, List.set_cons_zero, List.set_cons_succ]))
          have hE7 := hE4.trans hx7
          (repeat (first | (refine walkR_still (v := ?_) rfl (by decide +kernel) rfl (fun _ _ _ h => h) hE7 ?_ ?_; rotate_left; (focus (intro w' hw'; skip; go_simp; all_goals (with_reducible rfl))); simp only [Act.put, List.setIfInBounds_toArray, List.set_cons_zero, List.set_cons_succ]) | (refine walkR_skip rfl (by decide +kernel) rfl (fun _ _ _ h => h) hE7 ?_; simp only [Act.put, List.setIfInBounds_toArray, List.set_cons_zero, List.set_cons_succ])))
          (refine walkR_tail (by rfl) (by kernel_rfl) ?_; simp only [List.drop_succ_cons, List.drop_zero])
          have HO7 := hidP ho7
          have HE7 := hidP hE7
          have HF7 := hidP (fun w' (hx : Ext w7 w') => HF.out w' (hE7.trans hx))
          have HEk7 := hidP (fun w' (hx : Ext w7 w') => HEk.out w' (hE7.trans hx))
          have hEd : Ext w7 w7.drew := Ext.drew w7
          clear ho7 hx7 hE4 hE7 HEk HJk HJ4
          go_wp2
          (refine walkR_start (fun w' => Ext w7 w') 11 (by kernel_rfl) ?_; simp only [numbered, List.take_succ_cons, List.take_zero, Nat.zero_add, Nat.reduceAdd, List.length_cons, List.length_nil])
          (repeat (first | (refine walkR_still (v := ?_) rfl (by decide +kernel) rfl (fun _ _ _ h => h) hEd ?_ ?_; rotate_left; (focus (intro w' hw'; obtain ⟨⟨f0, f1⟩, q1⟩ := HF7.out w' hw'; go_simp; all_goals (with_reducible rfl))); simp only [Act.put, List.setIfInBounds_toArray, List.set_cons_zero, List.set_cons_succ]) | (refine walkR_skip rfl (by decide +kernel) rfl (fun _ _ _ h => h) hEd ?_; simp only [Act.put, List.setIfInBounds_toArray, List.set_cons_zero, List.set_cons_succ])))
          (refine walkR_only (fun w' => Ext w7 w') rfl (by decide +kernel) rfl (fun _ h => h) ?_; intro K hK; go_simp; refine (HEk7.out _ hEd).mono ?_; rintro e w8 ⟨aE, nE, cE, rfl, hoE, hxE⟩; refine hK _ _ (hEd.trans hxE) ?_; clear hK K; (try simp only [Act.put, List.setIfInBounds_toArray, List.set_cons_zero, List.set_cons_succ]))
          have hE3 := hEd.trans hxE
          (repeat (first | (refine walkR_still (v := ?_) rfl (by decide +kernel) rfl (fun _ _ _ h => h) hE3 ?_ ?_; rotate_left; (focus (intro w' hw'; skip; go_simp; all_goals (with_reducible rfl))); simp only [Act.put, List.setIfInBounds_toArray, List.set_cons_zero, List.set_cons_succ]) | (refine walkR_skip rfl (by decide +kernel) rfl (fun _ _ _ h => h) hE3 ?_; simp only [Act.put, List.setIfInBounds_toArray, List.set_cons_zero, List.set_cons_succ])))
          (refine walkR_tail (by rfl) (by kernel_rfl) ?_; simp only [List.drop_succ_cons, List.drop_zero])
          have HE8 := hidP (HE7.out.trans hE3)
          have HO8 := hidP (HO7.out.below hE3)
          have HoE := hidP hoE
          have HX8 := hidP (HX.out.trans HE8.out)
          have HXz := hidP (HX1.out.trans (HX3.out.trans HX8.out))
          have HOo := hidP ((HO.out.below HE8.out).weaken (Nat.le_refl _) HE8.out.size)
          clear hEd hE3 hxE hoE HEk7 HF7 HO7 HO
          cases hok1 : (chk nv (straight V ++ pk)).1 with
          | false =>
            have HR := hidP (HR1.out HNe.out HHig.out (HNo.out (by unfold tenOk1; rw [hok1]; rfl)))
            clear hok1
            go_wp2
            refine bodyPost_ret (v := .tuple #[.slice none 0 0, .bool false]) (by simp [results, Tryz.results17, go_sem]) rfl ⟨none, 0, 0, [], by rw [HR.out], ?_, HXz.out⟩
            rw [HR.out]
            exact OwnK.nil termK _ _ _
          | true =>
            cases hok2 : (endR nv pk).1 with
            | false =>
              have HR := hidP (HR1.out HNe.out HHig.out (HNo.out (by unfold tenOk1; rw [hok1, hok2]; rfl)))
              clear hok1 hok2
              go_wp2
              refine bodyPost_ret (v := .tuple #[.slice none 0 0, .bool false]) (by simp [results, Tryz.results17, go_sem]) rfl ⟨none, 0, 0, [], by rw [HR.out], ?_, HXz.out⟩
              rw [HR.out]
              exact OwnK.nil termK _ _ _
            | true =>
              obtain ⟨hky1, hky2, hky3, hky4⟩ := HKy.out hok2
              have HKo := hidP hky2
              have HPi := hidP hky3
              have HVl := hidP hky1
              have HJ2 : Hid (∀ j, j < k + 1 → tenOk1 nv V (L.getD j []) = true) := by
                show ∀ j, _
                intro j hj
                rcases Nat.lt_succ_iff_lt_or_eq.1 hj with h3 | rfl
                · exact HJ.out j h3
                · rw [← HPk.out]
                  unfold tenOk1
                  rw [hok1, hok2]
                  rfl
              have HDm := hidP (l9Dominant_any nv ta tn tc a7 n7 c7 _ w8 HO8.out.stepsAt (chk_path hok1) hR4)
              have hdt := fun h => tenE_dom (r := nv) (V := V) (p := pk) h
              have hdf := fun h => tenE_not (r := nv) (V := V) (p := pk) h
              obtain ⟨⟨f0, f1⟩, _⟩ := HF.out _ HE8.out
              clear hok1 hok2 hky1 hky2 hky3 hky4
              cases hdm : domB nv (chk nv (straight V ++ pk)).2 with
              | false =>
                rw [hdm] at HDm
                have HTe := hidP (HTk.out.trans (by rw [hdf hdm, List.append_nil]))
                clear hdm hdt hdf
                go_wp2_with fail
                refine HDm.out.mono ?_
                rintro e w9 ⟨rfl, hx9⟩
                have HO9 : Hid (OwnK termK w9 w3.heap.size w9.heap.size (some ⟨g, 0, none⟩) q co hs (putsT [] 1 (tensT nv V (L.take (k + 1))))) := by
                  have h := (HOo.out.below hx9).weaken (Nat.le_refl _) hx9.size
                  rw [HTe.out]
                  exact h
                have HX9 := hidP (HX8.out.trans hx9)
                clear hx9 f0 f1 HO8 HoE HOo
                go_wp2
                go_roundw
                case rel => exact ⟨k + 1, g, co, q, hs, by omega, rfl, by go_num, HO9, HJ2, HX9⟩
                case measure => simp [intOf]; omega
              | true =>
                rw [hdm] at HDm
                have HTe := hidP (HTk.out.trans (by rw [hdt hdm]))
                have htl := tensT_length nv V (L.take k)
                rw [List.length_take] at htl
                have hfew := puts_few (tensT_one nv V (L.take k))
                have hql := HOo.out.xl
                have hnE : nE = (endR nv pk).2.length := HoE.out.ints.len.symm
                have HElen := hidP (show nv = nE by have := HVl.out; have := HV.out.len; omega)
                have HVn := hidP (show (plusV V 1 (endR nv pk).2).length = nv by rw [plusV_length]; exact HV.out.len)
                clear hnE hdm hdt hdf
                go_wp2_with fail
                refine HDm.out.mono ?_
                rintro e w9 ⟨rfl, hx9⟩
                have HX9 := hidP (HX8.out.trans hx9)
                have HO9 := hidP ((HOo.out.below hx9).weaken (Nat.le_refl _) hx9.size)
                have HPl := hidP (l5Plus_any av nv cv V 1 aE nE cE (endR nv pk).2 w9 (HV.out.below (HX1.out.trans (HX3.out.trans HX9.out))) HNv.out (by omega) (HoE.out.below hx9).ints HElen.out HPi.out)
                clear hx9 f0 f1 HO8 HoE HOo
                go_wp2_with fail
                refine HPl.out.mono ?_
                rintro e w10 ⟨a1, c1, rfl, ho1, hx10⟩
                have HX10 := hidP (HX9.out.trans hx10)
                have hi1 : IntsAt w10 a1 (plusV V 1 (endR nv pk).2).length (plusV V 1 (endR nv pk).2) := by rw [HVn.out]; exact ho1.ints
                have hn1 := ho1.nil_cap
                have HPt := hidP (l8Put_any w3.heap.size g q co hs (putsT [] 1 (tensT nv V (L.take k))) a1 c1 (plusV V 1 (endR nv pk).2) 1 w10 ((HO9.out.below hx10).weaken (Nat.le_refl _) hx10.size) hi1 hn1 (by have := HVn.out; omega) (by omega) HX10.out.size (fun i hi => by
                  have := puts_ones (tensT_one nv V (L.take k)) (i := i) (by omega)
                  omega))
                rw [HVn.out, ← puts_snoc, ← HTe.out] at HPt
                clear ho1 hx10 hi1 hn1 htl hfew hql HO9
                go_wp2_with fail
                refine HPt.out.mono ?_
                rintro e w11 ⟨g7, q7, c7', hs7', rfl, ho7, hx7⟩
                have HO11 := hidP ho7
                have HX11 : Hid (Ext w3 w11) := Below.trans HX10.out hx7
                clear ho7 hx7 HPt
                go_wp2
                go_roundw
                case rel => exact ⟨k + 1, g7, c7', q7, hs7', by omega, rfl, by go_num, HO11, HJ2, HX11⟩
                case measure => simp [intOf]; omega
        · obtain rfl : k = L.length := by omega
          have hR := HR2.out HNe.out HHig.out (tenOk_of HJ.out)
          rw [List.take_of_length_le (Nat.le_refl _)] at HO
          rw [pchT_eq (ones_pos (tensT_one nv V L))] at hR
          have hfew := puts_few (tensT_one nv V L)
          have htl := tensT_length nv V L
          have hql := HO.out.xl
          obtain ⟨T, hT⟩ : ∃ T, T = putsT [] 1 (tensT nv V L) := ⟨_, rfl⟩
          rw [← hT] at HO hR hql hfew
          have HGv := hidP (l8Give_any nv ta tn tc (some ⟨g, 0, none⟩) q co T wr HO.out.termsAtT (by omega) (by omega))
          have HR := hidP hR
          have HO9 := hidP (HO.out.weaken (B' := w.heap.size) (HX1.out.trans HX3.out).size (Nat.le_refl _))
          have HX9 := hidP (HX1.out.trans (HX3.out.trans HX.out))
          obtain ⟨f0, f1⟩ := HC.out _ (HX3.out.trans HX.out)
          clear hT hql hfew htl hR HO
          cases hb : chrB nv T
          · rw [hb, if_neg Bool.false_ne_true] at HGv
            have hJ : Hid (J = (false, [])) := by
              show _ = _
              rw [HR.out]
              unfold chrR
              rw [hb]
              rfl
            clear hb
            go_wp2_with fail
            refine HGv.out.mono ?_
            rintro e w8 ⟨rfl, hx8⟩
            have HX8 := hidP (HX9.out.trans hx8)
            clear hx8 f0 f1
            go_wp2
            refine bodyPost_ret (v := .tuple #[.slice none 0 0, .bool false]) (by simp [results, Tryz.results17, go_sem]) rfl ⟨none, 0, 0, [], by rw [hJ.out], ?_, HX8.out⟩
            rw [hJ.out]
            exact OwnK.nil termK _ _ _
          · rw [hb, if_pos rfl] at HGv
            have hJ : Hid (J = (true, T)) := by
              show _ = _
              rw [HR.out]
              unfold chrR
              rw [hb]
              rfl
            clear hb
            go_wp2_with fail
            refine HGv.out.mono ?_
            rintro e w8 ⟨rfl, hx8⟩
            have HX8 := hidP (HX9.out.trans hx8)
            have HO8 := hidP ((HO9.out.below hx8).weaken (Nat.le_refl _) hx8.size)
            clear hx8 f0 f1
            go_wp2
            refine bodyPost_ret (v := .tuple #[.slice (some ⟨g, 0, none⟩) q co, .bool true]) (by simp [results, Tryz.results17, go_sem]) rfl ⟨_, _, _, hs, by rw [hJ.out], ?_, HX8.out⟩
            rw [hJ.out]
            exact HO8.out
end Go.Proofs.YtdhlapppahkjeaaGreatDoor

namespace Go.Proofs.YtdhlapppahkjeaaGreatDoor
open Go.RowKit

set_option maxHeartbeats 1000000 in
theorem eqStep_any (m1 m2 : Int) (a1 a2 : Option Addr) (n1 n2 c1 c2 : Nat) (xs ys : List Int) (w : World) (h1 : IntsAt w a1 n1 xs) (h2 : IntsAt w a2 n2 ys) (hm1 : n1 ≤ 9223372036854775807) (hm2 : n2 ≤ 9223372036854775807) :
    Calls Tryz.prog 29 #[.agg #[.slice a1 n1 c1, .int .i64 m1], .agg #[.slice a2 n2 c2, .int .i64 m2]] w fun e w' => e = .returned (.bool ((xs == ys) && (m1 == m2))) ∧ Ext w w' := by
  have HQ := hidP (fun w' (hx : Ext w w') => eqIntS_any a1 a2 n1 n2 c1 c2 xs ys w' (h1.below hx) (h2.below hx) hm1 hm2)
  have hx0 := (Ext.alloc w (.cells #[.slice a1 n1 c1, .int .i64 m1] 57)).trans (Ext.alloc _ (.cells #[.slice a2 n2 c2, .int .i64 m2] 57))
  have HX0 := hidP hx0
  clear h1 h2 hx0
  cases hb : (xs == ys)
  · rw [hb] at HQ
    go_enter Tryz.func29, Tryz.ntmps29
    go_wp2_with (go_at_call 12; refine (HQ.out _ HX0.out).mono ?_; rintro e w' ⟨rfl, m, rfl⟩)
    go_ret
    exact ⟨rfl, HX0.out.trans (Ext.drewN _ _)⟩
  · rw [hb] at HQ
    have hz : w.heap.size + 1 < ((w.alloc (.cells #[.slice a1 n1 c1, .int .i64 m1] 57)).alloc (.cells #[.slice a2 n2 c2, .int .i64 m2] 57)).heap.size := by simp
    by_cases hmm : m1 = m2
    · have hb2 : (m1 != m2) = false := by simp [hmm]
      have HR : Hid ((true && (m1 == m2)) = true) := by show _ = _; simp [hmm]
      clear hmm
      go_enter Tryz.func29, Tryz.ntmps29
      go_wp2_with (go_at_call 12; refine (HQ.out _ HX0.out).mono ?_; rintro e w' ⟨rfl, m, rfl⟩)
      go_ret
      exact ⟨ret_bool HR.out.symm, HX0.out.trans (Ext.drewN _ _)⟩
    · have hb2 : (m1 != m2) = true := by simp [hmm]
      have HR : Hid ((true && (m1 == m2)) = false) := by show _ = _; simp [hmm]
      clear hmm
      go_enter Tryz.func29, Tryz.ntmps29
      go_wp2_with (go_at_call 12; refine (HQ.out _ HX0.out).mono ?_; rintro e w' ⟨rfl, m, rfl⟩)
      go_ret
      exact ⟨ret_bool HR.out.symm, HX0.out.trans (Ext.drewN _ _)⟩
set_option maxHeartbeats 1000000 in
theorem eqStepS_any (a1 a2 : Option Addr) (n1 n2 c1 c2 : Nat) (us vs : List (List Int × Int)) (w : World) (h1 : TermsAt w a1 n1 us) (h2 : TermsAt w a2 n2 vs) (hn1 : n1 ≤ 9223372036854775807) (hn2 : n2 ≤ 9223372036854775807) :
    Calls Tryz.prog 10 #[.slice a1 n1 c1, .slice a2 n2 c2] w fun e w' => e = .returned (.bool (us == vs)) ∧ Ext w w' := by
  have L1 := hidP h1.len
  have L2 := hidP h2.len
  have G1 := hidP h1
  have G2 := hidP h2
  clear h1 h2
  by_cases hne : n1 = n2
  · subst hne
    have hb : (((n1 : Nat) : Int) != (n1 : Nat)) = false := by simp
    go_enter Tryz.func10, Tryz.ntmps10
    go_wp2
    go_loopw [5] (fun i wr => ∃ k : Nat, k ≤ n1 ∧ Hid (∀ j, j < k → us.getD j ([], 0) = vs.getD j ([], 0)) ∧ i = .int .i64 k ∧ Hid (Ext w wr)) (fun i _ => n1 - (intOf i).toNat)
    case atStart => exact ⟨0, Nat.zero_le _, fun j h => by omega, rfl, Ext.refl _⟩
    case round =>
      obtain ⟨k, hk, HJ, rfl, HX⟩ := hrel
      by_cases hlt : k < n1
      · obtain ⟨b, o, aw, cw, rfl, _⟩ := G1.out.get k hlt
        obtain ⟨b', o', aw', cw', rfl, _⟩ := G2.out.get k hlt
        obtain ⟨aw, cw, hm, hq⟩ := G1.out.keeps k hlt
        obtain ⟨aw1, cw1, hm1, hq1⟩ := G2.out.keeps k hlt
        have HQ := hidP hq
        have HQ1 := hidP hq1
        have HE := hidP (fun w' (hx : Ext w w') => eqStep_any (us.getD k ([], 0)).2 (vs.getD k ([], 0)).2 aw aw1 _ _ cw cw1 _ _ w' (HQ.out w' hx).2.2 (HQ1.out w' hx).2.2 hm hm1)
        have HEQ : Hid (((us.getD k ([], 0)).1 == (vs.getD k ([], 0)).1 && (us.getD k ([], 0)).2 == (vs.getD k ([], 0)).2) = true → us.getD k ([], 0) = vs.getD k ([], 0)) := by
          intro h
          simp only [Bool.and_eq_true, beq_iff_eq] at h
          exact Prod.ext h.1 h.2
        have HNE : Hid (((us.getD k ([], 0)).1 == (vs.getD k ([], 0)).1 && (us.getD k ([], 0)).2 == (vs.getD k ([], 0)).2) = false → (us == vs) = false) := by
          intro h
          rw [beq_eq_false_iff_ne]
          rintro rfl
          simp at h
        have HS := hidP (fun (hs : us.getD k ([], 0) = vs.getD k ([], 0)) => (by
          intro j hj
          rcases Nat.lt_succ_iff_lt_or_eq.1 hj with h3 | rfl
          · exact HJ.out j h3
          · exact hs : ∀ j, j < k + 1 → us.getD j ([], 0) = vs.getD j ([], 0)))
        clear hq hq1
        generalize us.getD k ([], 0) = U at *
        generalize vs.getD k ([], 0) = V at *
        generalize (U.1 == V.1 && U.2 == V.2) = B at *
        have hE : Ext wr wr.drew := Ext.drew wr
        cases B
        all_goals
          go_wp2
          (refine walkR_start (fun w' => Ext wr w') 10 (by kernel_rfl) ?_; simp only [numbered, List.take_succ_cons, List.take_zero, Nat.zero_add, Nat.reduceAdd, List.length_cons, List.length_nil])
          (repeat (first | (refine walkR_still (v := ?_) rfl (by decide +kernel) rfl (fun _ _ _ h => h) hE ?_ ?_; rotate_left; (focus (intro w' hw'; obtain ⟨q, q', _⟩ := HQ.out w' (HX.out.trans hw'); obtain ⟨p, p', _⟩ := HQ1.out w' (HX.out.trans hw'); go_simp; all_goals (with_reducible rfl))); simp only [Act.put, List.setIfInBounds_toArray, List.set_cons_zero, List.set_cons_succ]) | (refine walkR_skip rfl (by decide +kernel) rfl (fun _ _ _ h => h) hE ?_; simp only [Act.put, List.setIfInBounds_toArray, List.set_cons_zero, List.set_cons_succ])))
          (refine walkR_only (fun w' => Ext wr w') rfl (by decide +kernel) rfl (fun _ h => h) ?_; intro K hK; go_simp; refine (HE.out _ (HX.out.trans hE)).mono ?_; rintro e w1 ⟨rfl, hx1⟩; refine hK _ _ (hE.trans hx1) ?_; clear hK K; (try simp only [Act.put, List.setIfInBounds_toArray, List.set_cons_zero, List.set_cons_succ]))
          have hE1 := hE.trans hx1
          clear hx1
          (repeat (first | (refine walkR_still (v := ?_) rfl (by decide +kernel) rfl (fun _ _ _ h => h) hE1 ?_ ?_; rotate_left; (focus (intro w' hw'; skip; go_simp; all_goals (with_reducible rfl))); simp only [Act.put, List.setIfInBounds_toArray, List.set_cons_zero, List.set_cons_succ]) | (refine walkR_skip rfl (by decide +kernel) rfl (fun _ _ _ h => h) hE1 ?_; simp only [Act.put, List.setIfInBounds_toArray, List.set_cons_zero, List.set_cons_succ])))
          (refine walkR_tail (by rfl) (by kernel_rfl) ?_; simp only [List.drop_succ_cons, List.drop_zero])
          go_wp2
        · go_ret
          exact ⟨ret_bool (HNE.out (by trivial)).symm, HX.out.trans hE1⟩
        · have hs := hidP (HS.out (HEQ.out (by trivial)))
          go_roundw
          case rel => exact ⟨k + 1, by omega, hs, by go_num, HX.out.trans hE1⟩
          case measure => simp [intOf]; omega
      · have HB : Hid ((us == vs) = true) := by
          show _ = _
          rw [beq_iff_eq]
          apply List.ext_getElem (L1.out.trans L2.out.symm)
          intro j p1 p2
          have := HJ.out j (by have := L1.out; omega)
          simpa [List.getD_eq_getElem?_getD, List.getElem?_eq_getElem p1, List.getElem?_eq_getElem p2] using this
        go_wp2
        go_ret
        exact ⟨ret_bool HB.out.symm, HX.out⟩
  · have HB : Hid ((us == vs) = false) := by
      show _ = _
      rw [beq_eq_false_iff_ne]
      exact fun e => hne (by rw [← L1.out, ← L2.out, e])
    have hb : (((n1 : Nat) : Int) != (n2 : Nat)) = true := bne_iff_ne.2 (by omega)
    clear hne
    go_enter Tryz.func10, Tryz.ntmps10
    go_wp2
    go_ret
    exact ⟨ret_bool HB.out.symm, Ext.refl _⟩
set_option maxHeartbeats 2000000 in
theorem markStepS_any (B U : Nat) (a : Option Addr) (n c : Nat) (hs : List Hdr) (us : List Stp) (k0 : Int) (w : World) (h : OwnK termK w B U a n c hs us) (hn : mkAt us n ≤ 10000000) (hk0 : 0 ≤ k0) (hk1 : k0 ≤ 10000000000) :
    Calls Tryz.prog 15 #[.slice a n c, .int .i64 k0] w fun e w' => e = .returned (.int .i64 (k0 + mkAt us n)) ∧ ∃ xs, OwnK termK w' B U a n c hs xs ∧ Hid (∀ j, j < n → MarkedAt k0 us xs j) ∧ UpdB w w' B U := by
  have H0 := hidP h
  clear h
  have hnm : n ≤ 10000000 := Nat.le_trans (mkAt_len us n) hn
  go_enter Tryz.func15, Tryz.ntmps15
  go_wp2
  go_loopw [1, 5] (fun kk i wr => ∃ (k : Nat) (m : Int) (xs : List Stp), k ≤ n ∧ 0 ≤ m ∧ m ≤ 20000000000 ∧ i = .int .i64 k ∧ kk = .int .i64 m ∧ Hid (m = k0 + mkAt us k) ∧ Hid (OwnK termK wr B U a n c hs xs) ∧ Hid (∀ j, j < k → MarkedAt k0 us xs j) ∧ Hid (∀ j, k ≤ j → j < n → xs.getD j ([], 0) = us.getD j ([], 0)) ∧ Hid (UpdB w wr B U)) (fun _ i _ => n - (intOf i).toNat)
  case atStart => exact ⟨0, k0, us, Nat.zero_le _, hk0, by omega, rfl, rfl, by show _ = _; simp [mkAt], H0, fun j hj => absurd hj (Nat.not_lt_zero _), fun j _ _ => rfl, UpdB.refl _ _ _⟩
  case round =>
    obtain ⟨k, m, xs, hk, hm0, hm1, rfl, rfl, Hm, HO, HJ, HR, HU⟩ := hrel
    by_cases hlt : k < n
    · obtain ⟨g, aw, cw, rfl, hh, c0, c1, f0, f1, hI⟩ := HO.out.stepCellT k hlt
      have hxk : xs.getD k ([], 0) = us.getD k ([], 0) := HR.out k (Nat.le_refl _) hlt
      have hwk : wayAt xs k = (us.getD k ([], 0)).1 := by unfold wayAt; rw [hxk]
      rw [hwk] at c0 hI
      have hb1 := mkAt_le us (show k + 1 ≤ n by omega)
      have hs1 : mkAt us (k + 1) = mkAt us k + ((us.getD k ([], 0)).1.length + 1) := rfl
      have Hs1 := hidP hs1
      have hme := Hm.out
      obtain ⟨V, hV⟩ : ∃ V, V = us.getD k ([], 0) := ⟨_, rfl⟩
      rw [← hV] at c0 hI hs1 hxk Hs1
      have hVl : V.1.length ≤ 10000000 := by omega
      have hm2 : m + V.1.length ≤ 10010000000 := by omega
      have HG := hidP (markIntS_any aw V.1.length cw m V.1 wr hI.ints hI.unfrozen (by omega) (by omega) (by omega))
      have HB : Hid (∀ b o, aw = some ⟨b, o, none⟩ → B ≤ b ∧ b < U) := fun b o e => ⟨(hI.at_base b o e).1, HO.out.lt k hlt b o (by rw [hh]; exact e)⟩
      have HB2 : Hid (B ≤ g ∧ g < U) := ⟨(HO.out.base_lt g 0 rfl).1, HO.out.olt g 0 rfl⟩
      have HP : Hid (∀ w1, UpdI wr w1 aw V.1.length (upFrom m V.1.length) →
          (∃ v, w1.cell? ⟨g, k * 2 + 1, none⟩ = some v) ∧ w1.frozen? ⟨g, k * 2 + 1, none⟩ = false ∧
          OwnK termK (w1.setCell ⟨g, k * 2 + 1, none⟩ (.int .i64 (m + V.1.length))) B U (some ⟨g, 0, none⟩) n c hs (xs.set k (upFrom m V.1.length, m + V.1.length)) ∧ ((∃ aw2 cw2, w1.cell? ⟨g, k * 2, none⟩ = some (.slice aw2 V.1.length cw2)))) := by
        show ∀ w1, _
        intro w1 hu
        have e1 : (hs.getD k (none, 0)).1 = aw := by rw [hh]
        have e2 : (termK.ints (xs.getD k termK.dft)).length = V.1.length := by
          show (xs.getD k ([], 0)).1.length = _
          rw [hxk]
        have h1 := HO.out.upd (w' := w1) k hlt (ys := upFrom m V.1.length) (by rw [e1, e2]; exact hu)
        obtain ⟨g', aw', cw', e', hh', d0, d1, _, y1, _⟩ := h1.stepCellT k hlt
        simp only [Option.some.injEq, Addr.mk.injEq, and_true] at e'
        subst e'
        have hw2 : wayAt (xs.set k (termK.put (xs.getD k termK.dft) (upFrom m V.1.length))) k = upFrom m V.1.length := by
          unfold wayAt
          rw [OwnK.getD_set _ _ _ _ _ (by rw [HO.out.xl]; exact hlt), if_pos rfl]
          rfl
        refine ⟨⟨_, d1⟩, y1, ?_, ⟨aw', cw', by rw [d0, hw2, upFrom_length]⟩⟩
        have h2 := h1.stored k 1 hlt (by decide) (.int .i64 (m + V.1.length)) (upFrom m V.1.length, m + V.1.length) (by
          rw [OwnK.getD_set _ _ _ _ _ (by rw [HO.out.xl]; exact hlt), if_pos rfl]; rfl) (by
          rw [OwnK.getD_set _ _ _ _ _ (by rw [HO.out.xl]; exact hlt), if_pos rfl]; rfl) (g := g) rfl
        rw [set_set_same] at h2
        exact h2
      have HM2 : Hid (∀ j, j < k + 1 → MarkedAt k0 us (xs.set k (upFrom m V.1.length, m + V.1.length)) j) := by
        show ∀ j, _
        intro j hj
        unfold MarkedAt
        rw [OwnK.getD_set _ _ _ _ _ (by rw [HO.out.xl]; exact hlt)]
        by_cases e : k = j
        · subst e
          rw [if_pos rfl, ← hV, hme]
        · rw [if_neg e]
          exact HJ.out j (by omega)
      have HR2 : Hid (∀ j, k + 1 ≤ j → j < n → (xs.set k (upFrom m V.1.length, m + V.1.length)).getD j ([], 0) = us.getD j ([], 0)) := by
        show ∀ j, _
        intro j hj hjn
        rw [OwnK.getD_set _ _ _ _ _ (by rw [HO.out.xl]; exact hlt), if_neg (by omega)]
        exact HR.out j (by omega) hjn
      have Hm2 : Hid (m + V.1.length + 1 = k0 + mkAt us (k + 1)) := by
        show _ = _
        rw [hs1, hme]
        omega
      clear hI hxk hwk hV hh hs1 hme hb1 Hs1 Hm HJ HR f0 f1 c1
      go_wp2_with fail
      refine HG.out.mono ?_
      rintro e w1 ⟨rfl, hu⟩
      obtain ⟨⟨v1, d1⟩, y1, ho, _⟩ := HP.out w1 hu
      have HU2 := hidP ((HU.out.trans (hu.updB HB.out)).setCell g (k * 2 + 1) (.int .i64 (m + V.1.length)) HB2.out)
      have HO2 := hidP ho
      clear ho hu HP HG c0
      go_wp2
      go_roundw
      case rel => exact ⟨k + 1, m + V.1.length + 1, _, by omega, by omega, by omega, by go_num, by go_num, Hm2, HO2, HM2, HR2, HU2⟩
      case measure => simp [intOf]; omega
    · obtain rfl : k = n := by omega
      have hme := Hm.out
      go_wp2
      go_ret
      exact ⟨ret_int hme, xs, HO.out, HJ, HU.out⟩
set_option maxHeartbeats 2000000 in
theorem heldStepS_any (a : Option Addr) (n c : Nat) (us xs : List Stp) (k0 : Int) (w : World) (h : TermsAt w a n xs) (hM : ∀ j, j < n → MarkedAt k0 us xs j) (hn : mkAt us n ≤ 10000000) (hk0 : 0 ≤ k0) (hk1 : k0 ≤ 10000000000) :
    Calls Tryz.prog 16 #[.slice a n c, .int .i64 k0] w fun e w' => e = .returned (.int .i64 (k0 + mkAt us n)) ∧ Ext w w' := by
  have G := hidP h
  have HM := hidP hM
  clear h hM
  have hnm : n ≤ 10000000 := Nat.le_trans (mkAt_len us n) hn
  go_enter Tryz.func16, Tryz.ntmps16
  go_wp2
  go_loopw [1, 5] (fun kk i wr => ∃ (k : Nat) (m : Int), k ≤ n ∧ 0 ≤ m ∧ m ≤ 20000000000 ∧ i = .int .i64 k ∧ kk = .int .i64 m ∧ Hid (m = k0 + mkAt us k) ∧ Hid (Ext w wr)) (fun _ i _ => n - (intOf i).toNat)
  case atStart => exact ⟨0, k0, Nat.zero_le _, hk0, by omega, rfl, rfl, by show _ = _; simp [mkAt], Ext.refl _⟩
  case round =>
    obtain ⟨k, m, hk, hm0, hm1, rfl, rfl, Hm, HX⟩ := hrel
    by_cases hlt : k < n
    · obtain ⟨b, o, aw, cw, rfl, _⟩ := G.out.get k hlt
      obtain ⟨aw, cw, _, hq⟩ := G.out.keeps k hlt
      have hxk := HM.out k hlt
      unfold MarkedAt at hxk
      have hb1 := mkAt_le us (show k + 1 ≤ n by omega)
      have hs1 : mkAt us (k + 1) = mkAt us k + ((us.getD k ([], 0)).1.length + 1) := rfl
      have hme := Hm.out
      rw [← hme] at hxk
      obtain ⟨V, hV⟩ : ∃ V, V = us.getD k ([], 0) := ⟨_, rfl⟩
      rw [← hV] at hs1 hxk
      rw [hxk] at hq
      simp only [upFrom_length] at hq
      have hVl : V.1.length ≤ 10000000 := by omega
      have hm2 : m + V.1.length ≤ 10010000000 := by omega
      have hmn : ¬ (m + (V.1.length : Int) < 0) := by omega
      have hne : (m + (V.1.length : Int) != m + (V.1.length : Int)) = false := by simp
      have HQ := hidP (fun w' (hx : Ext wr w') => hq w' (HX.out.trans hx))
      have HG := hidP (fun w' (hx : Ext wr w') => heldIntS_any aw V.1.length cw m w' (HQ.out w' hx).2.2 (by omega) (by omega) (by omega))
      have Hm2 : Hid (m + V.1.length + 1 = k0 + mkAt us (k + 1)) := by
        show _ = _
        rw [hs1, hme]
        omega
      obtain ⟨q0, q1, _⟩ := HQ.out wr (Ext.refl _)
      clear hxk hV hs1 hme hb1 Hm hq q1
      go_wp2_with fail
      refine (HG.out _ (Ext.refl _)).mono ?_
      rintro e w1 ⟨rfl, q, rfl⟩
      obtain ⟨p0, p1, _⟩ := HQ.out (wr.drewN q) (Ext.drewN _ _)
      clear q0 p0
      go_wp2
      go_roundw
      case rel => exact ⟨k + 1, m + V.1.length + 1, by omega, by omega, by omega, by go_num, by go_num, Hm2, HX.out.trans (Ext.drewN _ _)⟩
      case measure => simp [intOf]; omega
    · obtain rfl : k = n := by omega
      have hme := Hm.out
      go_wp2
      go_ret
      exact ⟨ret_int hme, HX.out⟩
end Go.Proofs.YtdhlapppahkjeaaGreatDoor

namespace Go.Proofs.YtdhlapppahkjeaaGreatDoor.fnExactTensorByPaths
open Go.ChangeShapes Go.WideShapes Go.ChangeAt Go.RowKit
set_option linter.unusedVariables false

theorem ownI_hi {w w' : World} {B' B U n c : Nat} {a : Option Addr} {xs : List Int} (h : OwnI w B' a n c xs) (hu : UpdB w w' B U) (hB : U ≤ B') : OwnI w' B' a n c xs :=
  h.updB hu fun b o e => .inr (Nat.le_trans hB (h.at_base b o e).1)

set_option maxHeartbeats 8000000 in
/-- The Go text returns true, and leaves what was there. -/
theorem walk (r : Int) (ta : Option Addr) (tn tc : Nat) (ts : List Int) (a1 : Option Addr) (n1 c1 : Nat) (xs1 : List Int) (a2 : Option Addr) (n2 c2 : Nat) (xs2 : List Int) (w : World) (hc : IntsAt w ta tn ts) (h1 : IntsAt w a1 n1 xs1) (h2 : IntsAt w a2 n2 xs2) (hcn : tn ≤ 9223372036854775807) (hn1 : n1 ≤ 9223372036854775807) (hn2 : n2 ≤ 9223372036854775807) (hm : MaxL w) (htb : Tab w) :
    Calls Tryz.prog 4 #[carV r ta tn tc, .slice a1 n1 c1, .slice a2 n2 c2] w fun e w' => e = .returned (.bool true) ∧ Ext w w' := by
  have hx0 := Ext.alloc w (.cells #[.int .i64 r, .slice ta tn tc] 24)
  have HF := hidP (fun w' (hx : Ext (w.alloc (.cells #[.int .i64 r, .slice ta tn tc] 24)) w') => (CarAt.new w _ rfl r ta tn tc 24).below hx)
  have X := hidP hx0
  have HT := hidP hc
  have HU1 := hidP h1
  have HU2 := hidP h2
  have HTb := hidP htb
  have HM := hidP hm
  clear hc h1 h2 hm hx0 htb
  have hz0 : w.heap.size < (w.alloc (.cells #[.int .i64 r, .slice ta tn tc] 24)).heap.size := by simp
  obtain ⟨⟨J1, J2⟩, hJ⟩ : ∃ J, J = tenR r ts xs1 xs2 := ⟨_, rfl⟩
  have HJ := hidP hJ
  clear hJ
  obtain ⟨w0, hw0⟩ : ∃ w0, w0 = w.alloc (.cells #[.int .i64 r, .slice ta tn tc] 24) := ⟨_, rfl⟩
  rw [← hw0] at X HF hz0
  have Hz0 := hidP hz0
  clear hz0
  have HSC := hidP (fun w' => szCartan_any r ta tn tc 1048576 w' hcn (by omega) (by omega))
  obtain ⟨f0, f1⟩ := HF.out w0 (Ext.refl _)
  go_enter Tryz.func4, Tryz.ntmps4
  by_cases hi1 : (n1 : Int) ≤ 1048576
  rotate_left
  · have hi1n : 1048576 < (n1 : Int) := by omega
    go_wp2
    go_ret
    exact ⟨rfl, Ext.alloc _ _⟩
  have hi1n : ¬ (1048576 < (n1 : Int)) := by omega
  have hi1m : n1 ≤ 1048576 := by omega
  by_cases hi2 : (n2 : Int) ≤ 1048576
  rotate_left
  · have hi2n : 1048576 < (n2 : Int) := by omega
    go_wp2
    go_ret
    exact ⟨rfl, Ext.alloc _ _⟩
  have hi2n : ¬ (1048576 < (n2 : Int)) := by omega
  have hi2m : n2 ≤ 1048576 := by omega
  by_cases hle : (tn : Int) ≤ 1048576
  · have HE : Hid (szLeft tn 1048576 = 1048576 - tn) := if_pos hle
    rw [HE.out] at HSC
    have hng : ¬ (1048576 - (tn : Int) < 0) := by omega
    go_wp2_with fail
    rw [← hw0]
    clear hw0
    refine (HSC.out _).mono ?_
    rintro e w1 ⟨rfl, hx⟩
    have Xw0 : Hid (Ext w0 w0) := hidP (Ext.refl w0)
    clear HSC f0 f1
    have Xw1 := hidP (Xw0.out.trans hx)
    have Zw1 : Hid (w0.heap.size ≤ w1.heap.size) := hx.size
    clear hx
    have htn : tn ≤ 1048576 := by omega
    have HTC := hidP (fun w' (hx : Ext w w') => toCartan_any r ta tn tc ts w' (HT.out.below hx) htn)
    have HTS1 := hidP (fun w' (hx : Ext w w') => toIntS_any a1 n1 c1 xs1 w' (HU1.out.below hx) hi1m)
    have HTS2 := hidP (fun w' (hx : Ext w w') => toIntS_any a2 n2 c2 xs2 w' (HU2.out.below hx) hi2m)
    obtain ⟨f0, f1⟩ := HF.out w1 Xw1.out
    go_wp2_with fail
    refine (HTC.out _ (X.out.trans Xw1.out)).mono ?_
    rintro e w2 ⟨CS, rfl, hC, hx⟩
    clear f0 f1
    have FCS := hidP hC
    clear hC
    have Xw2 := hidP (Xw1.out.trans hx)
    have Zw2 : Hid (w1.heap.size ≤ w2.heap.size) := hx.size
    clear hx
    go_wp2_with fail
    refine (HTS1.out _ (X.out.trans Xw2.out)).mono ?_
    rintro e w3 ⟨PS1, rfl, hP, hx⟩
    have FPS1 := hidP hP
    clear hP
    have Xw3 := hidP (Xw2.out.trans hx)
    have Zw3 : Hid (w2.heap.size ≤ w3.heap.size) := hx.size
    have FCS_w3 := hidP (FCS.out.below hx)
    clear hx
    clear FCS
    go_wp2_with fail
    refine (HTS2.out _ (X.out.trans Xw3.out)).mono ?_
    rintro e w4 ⟨PS2, rfl, hP, hx⟩
    have FPS2 := hidP hP
    clear hP
    have Xw4 := hidP (Xw3.out.trans hx)
    have Zw4 : Hid (w3.heap.size ≤ w4.heap.size) := hx.size
    have FCS_w4 := hidP (FCS_w3.out.below hx)
    have FPS1_w4 := hidP (FPS1.out.below hx)
    clear hx
    clear FCS_w3 FPS1
    have HR := hidP (sTensorByPaths_any r CS tn tn ts PS1 n1 n1 xs1 PS2 n2 n2 xs2 w4 FCS_w4.out.ints FPS1_w4.out.ints FPS2.out.ints FPS1_w4.out.nil_cap FPS2.out.nil_cap (by omega) (by omega) (by omega))
    unfold TermRes at HR
    rw [← HJ.out] at HR
    dsimp only at HR
    go_wp2_with fail
    refine HR.out.mono ?_
    rintro e w5 ⟨aS, nS, cS, KS, rfl, hR, hx⟩
    clear HR
    have FS := hidP hR
    clear hR
    clear FCS_w4 FPS1_w4 FPS2
    have Xw5 := hidP (Xw4.out.trans hx)
    have Zw5 : Hid (w4.heap.size ≤ w5.heap.size) := hx.size
    clear hx
    obtain ⟨f0, f1⟩ := HF.out w5 Xw5.out
    go_wp2_with fail
    refine (HTC.out _ (X.out.trans Xw5.out)).mono ?_
    rintro e w6 ⟨CX, rfl, hC, hx⟩
    clear f0 f1
    have FCX := hidP hC
    have LCX : Hid (∀ b o, CX = some ⟨b, o, none⟩ → w5.heap.size ≤ b ∧ b < w6.heap.size) := fun b o e => hC.at_base b o e
    clear hC
    have Xw6 := hidP (Xw5.out.trans hx)
    have Zw6 : Hid (w5.heap.size ≤ w6.heap.size) := hx.size
    have FS_w6 := hidP (FS.out.below hx)
    clear hx
    clear FS
    go_wp2_with fail
    have hxa := Ext.alloc w6 (.cells #[.int .i64 r, .slice CX tn tn] 29)
    have FB := hidP (CarAt.new w6 _ rfl r CX tn tn 29)
    have hzz : w6.heap.size < (w6.alloc (.cells #[.int .i64 r, .slice CX tn tn] 29)).heap.size := by simp
    obtain ⟨w7, hww⟩ : ∃ x, x = w6.alloc (.cells #[.int .i64 r, .slice CX tn tn] 29) := ⟨_, rfl⟩
    rw [← hww] at hxa FB hzz ⊢
    clear hww
    have Hzz := hidP hzz
    clear hzz
    have Xw7 := hidP (Xw6.out.trans hxa)
    have Zw7 : Hid (w6.heap.size ≤ w7.heap.size) := hxa.size
    have FS_w7 := hidP (FS_w6.out.below hxa)
    have FCX_w7 := hidP (FCX.out.below hxa)
    clear hxa
    clear FS_w6 FCX
    refine (HTS1.out _ (X.out.trans Xw7.out)).mono ?_
    rintro e w8 ⟨PX1, rfl, hP, hx⟩
    have LPX1 : Hid (∀ b o, PX1 = some ⟨b, o, none⟩ → w7.heap.size ≤ b ∧ b < w8.heap.size) := fun b o e => hP.at_base b o e
    have FPX1 := hidP hP
    clear hP
    have Xw8 := hidP (Xw7.out.trans hx)
    have Zw8 : Hid (w7.heap.size ≤ w8.heap.size) := hx.size
    have FS_w8 := hidP (FS_w7.out.below hx)
    have FCX_w8 := hidP (FCX_w7.out.below hx)
    have FB_w8 := hidP (FB.out.below hx)
    clear hx
    clear FS_w7 FCX_w7 FB
    go_wp2_with fail
    refine (HTS2.out _ (X.out.trans Xw8.out)).mono ?_
    rintro e w9 ⟨PX2, rfl, hP, hx⟩
    have LPX2 : Hid (∀ b o, PX2 = some ⟨b, o, none⟩ → w8.heap.size ≤ b ∧ b < w9.heap.size) := fun b o e => hP.at_base b o e
    have FPX2 := hidP hP
    clear hP
    have Xw9 := hidP (Xw8.out.trans hx)
    have Zw9 : Hid (w8.heap.size ≤ w9.heap.size) := hx.size
    have FS_w9 := hidP (FS_w8.out.below hx)
    have FCX_w9 := hidP (FCX_w8.out.below hx)
    have FB_w9 := hidP (FB_w8.out.below hx)
    have FPX1_w9 := hidP (FPX1.out.below hx)
    clear hx
    clear FS_w8 FCX_w8 FB_w8 FPX1
    obtain ⟨y0, y1⟩ := FB_w9.out
    have HR := hidP (tensorByPaths_any r CX tn tn ts PX1 n1 n1 xs1 PX2 n2 n2 xs2 w9 FCX_w9.out.ints FPX1_w9.out.ints FPX2.out.ints FPX1_w9.out.nil_cap FPX2.out.nil_cap (by omega) (by omega) (by omega) (HM.out.below (X.out.trans Xw9.out)) (HTb.out.below (X.out.trans Xw9.out)))
    unfold TermRes at HR
    rw [← HJ.out] at HR
    dsimp only at HR
    go_wp2_with fail
    refine HR.out.mono ?_
    rintro e w10 ⟨aG, nG, cG, KG, rfl, hR, hx⟩
    clear HR
    have FG := hidP hR
    clear hR
    clear y0 y1
    have Xw10 := hidP (Xw9.out.trans hx)
    have Zw10 : Hid (w9.heap.size ≤ w10.heap.size) := hx.size
    have FS_w10 := hidP (FS_w9.out.below hx)
    have FCX_w10 := hidP (FCX_w9.out.below hx)
    have FB_w10 := hidP (FB_w9.out.below hx)
    have FPX1_w10 := hidP (FPX1_w9.out.below hx)
    have FPX2_w10 := hidP (FPX2.out.below hx)
    clear hx
    clear FS_w9 FCX_w9 FB_w9 FPX1_w9 FPX2
    have hJJ : (J1 != J1) = false := by simp
    have HQ := hidP (fun w' (hx : Ext w10 w') => eqStepS_any aG aS nG nS cG cS J2 J2 w' (FG.out.below hx).termsAtT (FS_w10.out.below hx).termsAtT FG.out.small FS_w10.out.small)
    simp only [beq_self_eq_true] at HQ
    go_wp2_with fail
    refine (HQ.out _ (Ext.refl _)).mono ?_
    rintro e w11 ⟨rfl, hx⟩
    clear HQ
    have Xw11 := hidP (Xw10.out.trans hx)
    have Zw11 : Hid (w10.heap.size ≤ w11.heap.size) := hx.size
    have FS_w11 := hidP (FS_w10.out.below hx)
    have FCX_w11 := hidP (FCX_w10.out.below hx)
    have FB_w11 := hidP (FB_w10.out.below hx)
    have FPX1_w11 := hidP (FPX1_w10.out.below hx)
    have FPX2_w11 := hidP (FPX2_w10.out.below hx)
    have FG_w11 := hidP (FG.out.below hx)
    clear hx
    clear FS_w10 FCX_w10 FB_w10 FPX1_w10 FPX2_w10 FG
    have hE : Ext w11 w11.drew := Ext.drew w11
    have HTCd := hidP (fun w' (hx : Ext w11 w') => (HTC.out w' ((X.out.trans Xw11.out).trans hx)).mono (fun (e : Ending) (w'' : World) ⟨a', he, ho, hx'⟩ => (⟨a', he, OwnI.base ho hx.size, hx'⟩ : ∃ a', e = Ending.returned (carV r a' tn tn) ∧ OwnI w'' w11.heap.size a' tn tn ts ∧ Ext w' w'')))
    have HQ := hidP (fun w' (hx : Ext w11 w') (a' : Option Addr) (ho : OwnI w' w11.heap.size a' tn tn ts) => eqCartan_any r r CX a' tn tn tn tn ts ts w' (FCX_w11.out.below hx).ints ho.ints (by omega) (by omega))
    simp only [and_self, decide_true] at HQ
    go_wp2
    (refine walkR_start (fun w' => Ext w11 w') 5 (by kernel_rfl) ?_; simp only [numbered, List.take_succ_cons, List.take_zero, Nat.zero_add, Nat.reduceAdd, List.length_cons, List.length_nil])
    (repeat (first | (refine walkR_still (v := ?_) rfl (by decide +kernel) rfl (fun _ _ _ h => h) hE ?_ ?_; rotate_left; (focus (intro w' hw'; obtain ⟨f0, f1⟩ := HF.out w' (Xw11.out.trans hw'); obtain ⟨y0, y1⟩ := FB_w11.out.below hw'; go_simp; all_goals (with_reducible rfl))); simp only [Act.put, List.setIfInBounds_toArray, List.set_cons_zero, List.set_cons_succ]) | (refine walkR_skip rfl (by decide +kernel) rfl (fun _ _ _ h => h) hE ?_; simp only [Act.put, List.setIfInBounds_toArray, List.set_cons_zero, List.set_cons_succ])))
    (refine walkR_only (fun w' => Ext w11 w') rfl (by decide +kernel) rfl (fun _ h => h) ?_; intro K hK; go_simp; refine (HTCd.out _ hE).mono ?_; rintro e wd ⟨ad, rfl, hod, hxd⟩; refine hK _ _ (hE.trans hxd) ?_; clear hK K; (try simp only [Act.put, List.setIfInBounds_toArray, List.set_cons_zero, List.set_cons_succ]))
    have hE1 := hE.trans hxd
    have HQ1 := hidP (HQ.out _ hE1 ad hod)
    clear hxd hod
    (refine walkR_only (fun w' => Ext w11 w') rfl (by decide +kernel) rfl (fun _ h => h) ?_; intro K hK; go_simp; refine (HQ1.out).mono ?_; rintro e w12 ⟨rfl, hxd⟩; refine hK _ _ (hE1.trans hxd) ?_; clear hK K; (try simp only [Act.put, List.setIfInBounds_toArray, List.set_cons_zero, List.set_cons_succ]))
    have hx := hE1.trans hxd
    have hxx := hx
    clear hxd hE hE1 HQ HQ1 HTCd
    have Xw12 := hidP (Xw11.out.trans hx)
    have Zw12 : Hid (w11.heap.size ≤ w12.heap.size) := hx.size
    have FS_w12 := hidP (FS_w11.out.below hx)
    have FCX_w12 := hidP (FCX_w11.out.below hx)
    have FB_w12 := hidP (FB_w11.out.below hx)
    have FPX1_w12 := hidP (FPX1_w11.out.below hx)
    have FPX2_w12 := hidP (FPX2_w11.out.below hx)
    have FG_w12 := hidP (FG_w11.out.below hx)
    clear FS_w11 FCX_w11 FB_w11 FPX1_w11 FPX2_w11 FG_w11
    clear hx
    (repeat (first | (refine walkR_still (v := ?_) rfl (by decide +kernel) rfl (fun _ _ _ h => h) hxx ?_ ?_; rotate_left; (focus (intro w' hw'; skip; go_simp; all_goals (with_reducible rfl))); simp only [Act.put, List.setIfInBounds_toArray, List.set_cons_zero, List.set_cons_succ]) | (refine walkR_skip rfl (by decide +kernel) rfl (fun _ _ _ h => h) hxx ?_; simp only [Act.put, List.setIfInBounds_toArray, List.set_cons_zero, List.set_cons_succ])))
    (refine walkR_tail (by rfl) (by kernel_rfl) ?_; simp only [List.drop_succ_cons, List.drop_zero])
    clear hxx
    go_wp2_with fail
    refine (HTS1.out _ (X.out.trans Xw12.out)).mono ?_
    rintro e w13 ⟨gd, rfl, hP, hx⟩
    have FD := hidP hP
    clear hP
    have Xw13 := hidP (Xw12.out.trans hx)
    have Zw13 : Hid (w12.heap.size ≤ w13.heap.size) := hx.size
    have FS_w13 := hidP (FS_w12.out.below hx)
    have FCX_w13 := hidP (FCX_w12.out.below hx)
    have FB_w13 := hidP (FB_w12.out.below hx)
    have FPX1_w13 := hidP (FPX1_w12.out.below hx)
    have FPX2_w13 := hidP (FPX2_w12.out.below hx)
    have FG_w13 := hidP (FG_w12.out.below hx)
    clear hx
    clear FS_w12 FCX_w12 FB_w12 FPX1_w12 FPX2_w12 FG_w12
    have HQ := hidP (eqIntS_any PX1 gd n1 n1 n1 n1 xs1 xs1 w13 FPX1_w13.out.ints FD.out.ints (by omega) (by omega))
    simp only [beq_self_eq_true] at HQ
    go_wp2_with fail
    refine HQ.out.mono ?_
    rintro e w14 ⟨rfl, m, hd⟩
    have hx : Ext w13 w14 := by rw [hd]; exact Ext.drewN _ _
    clear hd HQ FD
    have Xw14 := hidP (Xw13.out.trans hx)
    have Zw14 : Hid (w13.heap.size ≤ w14.heap.size) := hx.size
    have FS_w14 := hidP (FS_w13.out.below hx)
    have FCX_w14 := hidP (FCX_w13.out.below hx)
    have FB_w14 := hidP (FB_w13.out.below hx)
    have FPX1_w14 := hidP (FPX1_w13.out.below hx)
    have FPX2_w14 := hidP (FPX2_w13.out.below hx)
    have FG_w14 := hidP (FG_w13.out.below hx)
    clear hx
    clear FS_w13 FCX_w13 FB_w13 FPX1_w13 FPX2_w13 FG_w13
    go_wp2_with fail
    refine (HTS2.out _ (X.out.trans Xw14.out)).mono ?_
    rintro e w15 ⟨gd, rfl, hP, hx⟩
    have FD := hidP hP
    clear hP
    have Xw15 := hidP (Xw14.out.trans hx)
    have Zw15 : Hid (w14.heap.size ≤ w15.heap.size) := hx.size
    have FS_w15 := hidP (FS_w14.out.below hx)
    have FCX_w15 := hidP (FCX_w14.out.below hx)
    have FB_w15 := hidP (FB_w14.out.below hx)
    have FPX1_w15 := hidP (FPX1_w14.out.below hx)
    have FPX2_w15 := hidP (FPX2_w14.out.below hx)
    have FG_w15 := hidP (FG_w14.out.below hx)
    clear hx
    clear FS_w14 FCX_w14 FB_w14 FPX1_w14 FPX2_w14 FG_w14
    have HQ := hidP (eqIntS_any PX2 gd n2 n2 n2 n2 xs2 xs2 w15 FPX2_w15.out.ints FD.out.ints (by omega) (by omega))
    simp only [beq_self_eq_true] at HQ
    go_wp2_with fail
    refine HQ.out.mono ?_
    rintro e w16 ⟨rfl, m, hd⟩
    have hx : Ext w15 w16 := by rw [hd]; exact Ext.drewN _ _
    clear hd HQ FD
    have Xw16 := hidP (Xw15.out.trans hx)
    have Zw16 : Hid (w15.heap.size ≤ w16.heap.size) := hx.size
    have FS_w16 := hidP (FS_w15.out.below hx)
    have FCX_w16 := hidP (FCX_w15.out.below hx)
    have FB_w16 := hidP (FB_w15.out.below hx)
    have FPX1_w16 := hidP (FPX1_w15.out.below hx)
    have FPX2_w16 := hidP (FPX2_w15.out.below hx)
    have FG_w16 := hidP (FG_w15.out.below hx)
    clear hx
    clear FS_w15 FCX_w15 FB_w15 FPX1_w15 FPX2_w15 FG_w15
    have HZ : Hid (w0.heap.size ≤ w5.heap.size ∧ w5.heap.size ≤ w6.heap.size ∧ w6.heap.size ≤ w7.heap.size ∧ w7.heap.size ≤ w8.heap.size ∧ w8.heap.size ≤ w9.heap.size ∧ w9.heap.size ≤ w10.heap.size) := by
      refine ⟨Xw5.out.size, Zw6.out, Zw7.out, Zw8.out, Zw9.out, Zw10.out⟩
    obtain ⟨y0, y1⟩ := FB_w16.out
    have HMk := hidP (markCartan_any r _ CX tn tn 1 ts w16 FCX_w16.out (by omega) (by omega) (by omega))
    go_wp2_with fail
    refine HMk.out.mono ?_
    rintro e w17 ⟨rfl, hu⟩
    clear HMk y0 y1
    have hub := hu.updB LCX.out
    clear hu
    clear FCX_w16 FB_w16
    have Xw17 : Hid (Ext w0 w17) := hub.below Xw16.out Xw16.out.size (by have hZ := HZ.out; omega)
    have Zw17 : Hid (w16.heap.size ≤ w17.heap.size) := hub.size
    have FS_w17 := hidP (FS_w16.out.updB_lo hub (by have hZ := HZ.out; omega))
    have FPX1_w17 := hidP (ownI_hi FPX1_w16.out hub (by have hZ := HZ.out; omega))
    have FPX2_w17 := hidP (ownI_hi FPX2_w16.out hub (by have hZ := HZ.out; omega))
    have FG_w17 := hidP (FG_w16.out.updB_hi hub (by have hZ := HZ.out; omega))
    clear hub FS_w16 FPX1_w16 FPX2_w16 FG_w16
    have HMk := hidP (markIntS_any PX1 n1 n1 (1 + (tn : Int)) xs1 w17 FPX1_w17.out.ints FPX1_w17.out.unfrozen (by omega) (by omega) (by omega))
    go_wp2_with fail
    refine HMk.out.mono ?_
    rintro e w18 ⟨rfl, hu⟩
    clear HMk
    have hub := hu.updB LPX1.out
    clear hu
    clear FPX1_w17
    have Xw18 : Hid (Ext w0 w18) := hub.below Xw17.out Xw17.out.size (by have hZ := HZ.out; omega)
    have Zw18 : Hid (w17.heap.size ≤ w18.heap.size) := hub.size
    have FS_w18 := hidP (FS_w17.out.updB_lo hub (by have hZ := HZ.out; omega))
    have FPX2_w18 := hidP (ownI_hi FPX2_w17.out hub (by have hZ := HZ.out; omega))
    have FG_w18 := hidP (FG_w17.out.updB_hi hub (by have hZ := HZ.out; omega))
    clear hub FS_w17 FPX2_w17 FG_w17
    have HMk := hidP (markIntS_any PX2 n2 n2 ((1 + (tn : Int)) + (n1 : Int)) xs2 w18 FPX2_w18.out.ints FPX2_w18.out.unfrozen (by omega) (by omega) (by omega))
    go_wp2_with fail
    refine HMk.out.mono ?_
    rintro e w19 ⟨rfl, hu⟩
    clear HMk
    have hub := hu.updB LPX2.out
    clear hu
    clear FPX2_w18
    have Xw19 : Hid (Ext w0 w19) := hub.below Xw18.out Xw18.out.size (by have hZ := HZ.out; omega)
    have Zw19 : Hid (w18.heap.size ≤ w19.heap.size) := hub.size
    have FS_w19 := hidP (FS_w18.out.updB_lo hub (by have hZ := HZ.out; omega))
    have FG_w19 := hidP (FG_w18.out.updB_hi hub (by have hZ := HZ.out; omega))
    clear hub FS_w18 FG_w18
    have hk0 : ¬ ((((1 + (tn : Int)) + (n1 : Int)) + (n2 : Int)) < 0) := by omega
    have HQ := hidP (fun w' (hx : Ext w19 w') => eqStepS_any aG aS nG nS cG cS J2 J2 w' (FG_w19.out.below hx).termsAtT (FS_w19.out.below hx).termsAtT FG_w19.out.small FS_w19.out.small)
    simp only [beq_self_eq_true] at HQ
    go_wp2_with fail
    refine (HQ.out _ (Ext.refl _)).mono ?_
    rintro e w20 ⟨rfl, hx⟩
    clear HQ
    have Xw20 := hidP (Xw19.out.trans hx)
    have Zw20 : Hid (w19.heap.size ≤ w20.heap.size) := hx.size
    have FS_w20 := hidP (FS_w19.out.below hx)
    have FG_w20 := hidP (FG_w19.out.below hx)
    clear hx
    clear FS_w19 FG_w19
    have hJn : mkAt J2 nG ≤ 10000000 := termsJ_small (HJ.out ▸ tenR_small r ts xs1 xs2) FG_w20.out.xl
    have HMk := hidP (markStepS_any _ _ aG nG cG KG J2 1 w20 FG_w20.out hJn (by omega) (by omega))
    go_wp2_with fail
    refine HMk.out.mono ?_
    rintro e w21 ⟨rfl, ym, ho, HMm, hub⟩
    clear HMk
    have FM := hidP ho
    clear ho
    clear FG_w20
    have Xw21 : Hid (Ext w0 w21) := hub.below Xw20.out Xw20.out.size (by have hZ := HZ.out; omega)
    have Zw21 : Hid (w20.heap.size ≤ w21.heap.size) := hub.size
    have FS_w21 := hidP (FS_w20.out.updB_lo hub (by have hZ := HZ.out; omega))
    clear hub FS_w20
    have hq0 : ¬ ((1 : Int) + (mkAt J2 nG : Int) < 0) := by omega
    have hqq : ((1 : Int) + (mkAt J2 nG : Int) != 1 + (mkAt J2 nG : Int)) = false := by simp
    have HH := hidP (heldStepS_any aG nG cG J2 ym 1 w21 FM.out.termsAtT HMm.out hJn (by omega) (by omega))
    go_wp2_with fail
    refine HH.out.mono ?_
    rintro e w22 ⟨rfl, hx⟩
    clear HH
    have Xw22 := hidP (Xw21.out.trans hx)
    have Zw22 : Hid (w21.heap.size ≤ w22.heap.size) := hx.size
    have FS_w22 := hidP (FS_w21.out.below hx)
    have FM_w22 := hidP (FM.out.below hx)
    clear hx
    clear FS_w21 FM
    obtain ⟨f0, f1⟩ := HF.out w22 Xw22.out
    go_wp2_with fail
    refine (HTC.out _ (X.out.trans Xw22.out)).mono ?_
    rintro e w23 ⟨CH, rfl, hC, hx⟩
    clear f0 f1
    have FCH := hidP hC
    clear hC
    have Xw23 := hidP (Xw22.out.trans hx)
    have Zw23 : Hid (w22.heap.size ≤ w23.heap.size) := hx.size
    have FS_w23 := hidP (FS_w22.out.below hx)
    have FM_w23 := hidP (FM_w22.out.below hx)
    clear hx
    clear FS_w22 FM_w22
    go_wp2_with fail
    refine (HTS1.out _ (X.out.trans Xw23.out)).mono ?_
    rintro e w24 ⟨PH1, rfl, hP, hx⟩
    have FPH1 := hidP hP
    clear hP
    have Xw24 := hidP (Xw23.out.trans hx)
    have Zw24 : Hid (w23.heap.size ≤ w24.heap.size) := hx.size
    have FS_w24 := hidP (FS_w23.out.below hx)
    have FM_w24 := hidP (FM_w23.out.below hx)
    have FCH_w24 := hidP (FCH.out.below hx)
    clear hx
    clear FS_w23 FM_w23 FCH
    go_wp2_with fail
    refine (HTS2.out _ (X.out.trans Xw24.out)).mono ?_
    rintro e w25 ⟨PH2, rfl, hP, hx⟩
    have FPH2 := hidP hP
    clear hP
    have Xw25 := hidP (Xw24.out.trans hx)
    have Zw25 : Hid (w24.heap.size ≤ w25.heap.size) := hx.size
    have FS_w25 := hidP (FS_w24.out.below hx)
    have FM_w25 := hidP (FM_w24.out.below hx)
    have FCH_w25 := hidP (FCH_w24.out.below hx)
    have FPH1_w25 := hidP (FPH1.out.below hx)
    clear hx
    clear FS_w24 FM_w24 FCH_w24 FPH1
    have HR := hidP (tensorByPaths_any r CH tn tn ts PH1 n1 n1 xs1 PH2 n2 n2 xs2 w25 FCH_w25.out.ints FPH1_w25.out.ints FPH2.out.ints FPH1_w25.out.nil_cap FPH2.out.nil_cap (by omega) (by omega) (by omega) (HM.out.below (X.out.trans Xw25.out)) (HTb.out.below (X.out.trans Xw25.out)))
    unfold TermRes at HR
    rw [← HJ.out] at HR
    dsimp only at HR
    go_wp2_with fail
    refine HR.out.mono ?_
    rintro e w26 ⟨aH, nH, cH, KH, rfl, hR, hx⟩
    clear HR
    have FH := hidP hR
    clear hR
    clear FCH_w25
    clear FPH1_w25
    clear FPH2
    have Xw26 := hidP (Xw25.out.trans hx)
    have Zw26 : Hid (w25.heap.size ≤ w26.heap.size) := hx.size
    have FS_w26 := hidP (FS_w25.out.below hx)
    have FM_w26 := hidP (FM_w25.out.below hx)
    clear hx
    clear FS_w25 FM_w25
    have HQ := hidP (fun w' (hx : Ext w26 w') => eqStepS_any aH aS nH nS cH cS J2 J2 w' (FH.out.below hx).termsAtT (FS_w26.out.below hx).termsAtT FH.out.small FS_w26.out.small)
    simp only [beq_self_eq_true] at HQ
    go_wp2_with fail
    refine (HQ.out _ (Ext.refl _)).mono ?_
    rintro e w27 ⟨rfl, hx⟩
    clear HQ
    have Xw27 := hidP (Xw26.out.trans hx)
    have Zw27 : Hid (w26.heap.size ≤ w27.heap.size) := hx.size
    have FS_w27 := hidP (FS_w26.out.below hx)
    have FM_w27 := hidP (FM_w26.out.below hx)
    have FH_w27 := hidP (FH.out.below hx)
    clear hx
    clear FS_w26 FM_w26 FH
    have HH := hidP (heldStepS_any aG nG cG J2 ym 1 w27 FM_w27.out.termsAtT HMm.out hJn (by omega) (by omega))
    go_wp2_with fail
    refine HH.out.mono ?_
    rintro e w28 ⟨rfl, hx⟩
    clear HH
    have Xw28 := hidP (Xw27.out.trans hx)
    have Zw28 : Hid (w27.heap.size ≤ w28.heap.size) := hx.size
    have FS_w28 := hidP (FS_w27.out.below hx)
    have FM_w28 := hidP (FM_w27.out.below hx)
    have FH_w28 := hidP (FH_w27.out.below hx)
    clear hx
    clear FS_w27 FM_w27 FH_w27
    go_wp2
    go_ret
    exact ⟨rfl, X.out.trans Xw28.out⟩
  · have HE : Hid (szLeft tn 1048576 = -1) := if_neg hle
    rw [HE.out] at HSC
    go_wp2_with fail
    rw [← hw0]
    clear hw0
    refine (HSC.out _).mono ?_
    rintro e w1 ⟨rfl, hx1⟩
    go_wp2
    go_ret
    exact ⟨rfl, X.out.trans hx1⟩
end Go.Proofs.YtdhlapppahkjeaaGreatDoor.fnExactTensorByPaths

namespace Go.Proofs.YtdhlapppahkjeaaGreatDoor.fnExactTensorByPaths
open Go.ChangeShapes Go.WideShapes Go.ChangeAt Go.RowKit
set_option linter.unusedVariables false

theorem tab_of {w : World} (hL : laidMetH Tryz.prog Rows.fnExactTensorByPathsRow.laid w) : Tab w := by
  have h0 : laidMet Tryz.prog Rows.fnExactTensorByPathsRow.laid w := hL
  have h1 := laidMet.tail (laidMet.tail (h0))
  have e : (Rows.laid_internal_strconv_uint64pow10 : DataW Unit) = Lib.tabData .u64 Lib.pow10Tab := by kernel_rfl
  have h2 : laidMet Tryz.prog (("internal/strconv.uint64pow10", Lib.tabData .u64 Lib.pow10Tab) :: Rows.fnExactTensorByPathsRow.laid.drop 3) w := by rw [← e]; exact h1
  exact Lib.tabIs_of_head (g := 1) (t := 178) (e := 148) (n := 20) (by kernel_rfl) (by kernel_rfl) (by kernel_rfl) (by kernel_rfl) (by kernel_rfl) (by kernel_rfl) h2
theorem maxL_of {W : World} (h : W.ShapedOpen Tryz.prog) : MaxL W :=
  cell_of_shapedOpen_int (P := Tryz.prog) (g := 0) (t := 3) (zero := #[.int .i64 0]) h (of_decide_eq_true (by kernel_rfl)) (by kernel_rfl) rfl (by kernel_rfl) (by kernel_rfl) Tryz.underlying3

theorem own : ownKnob Tryz.prog.godebug = none := by kernel_rfl
theorem laidOut : laidOutB Tryz.prog = true := by kernel_rfl
/-! ### THE ROW's STEP -/
set_option maxRecDepth 100000 in
theorem lifted (os : Os) (started : os.Started) (H : Type) (enc : TypeId × Value → H) :
    ReturnsInHanded {} Tryz.checked os 4 .any (fun w args => (Rows.fnExactTensorByPathsSpec.pre enc Tryz.prog Tryz.f4 [] false w args ∧ laidMetH Tryz.prog Rows.fnExactTensorByPathsRow.laid w) ∧ sizedMet enc Tryz.prog Tryz.f4 (OpenSpec.ofChange Rows.fnExactTensorByPathsSpec) false w args)
      (Rows.fnExactTensorByPathsSpec.post enc Tryz.prog Tryz.f4 false true false false) := by
  refine returnsInHanded_of_calls (C := Tryz.checked) own started (by kernel_rfl)
    (ChangeSpec.witness_shaped (enc := enc) (C := Tryz.checked) (os := os) (X := fun w _ => laidMetH Tryz.prog Rows.fnExactTensorByPathsRow.laid w) false (World.laidAll Tryz.prog os Rows.fnExactTensorByPathsRow.laid) #[.agg #[.int .i64 0, .slice none 0 0], .slice none 0 0, .slice none 0 0] 8 (World.laidAll_os _ _ _)
      (World.shaped_of_ZipB (by kernel_rfl) (by kernel_rfl)) (by kernel_rfl) (by kernel_rfl) (by kernel_rfl)
      (by rw [MakeChecks.laidMetH_plain _ _ _ (by kernel_rfl)]; exact laidMet_laidAll _ (by kernel_rfl) (by kernel_rfl))) ?_
  intro w0 tape i _ hsh0 _ hok hpre _
  obtain ⟨_, _, _, fn', hfn', _, _, _, _, hval1⟩ := hok
  obtain rfl : fn' = Tryz.f4 := Option.some.inj (hfn'.symm.trans Tryz.func4)
  obtain ⟨⟨⟨ds, gs, before, hw, _⟩, hx⟩, _⟩ := hpre
  have hW0 := DataW.Whole.of_heap (w' := w0.forCall tape i) (by rfl) hw
  have hmax0 : MaxL (w0.forCall tape i) := maxL_of hsh0
  have htab0 : Tab (w0.forCall tape i) := tab_of (laidMetH.of_heap (w := (w0.forCall tape i).memory) (w' := w0.forCall tape i) rfl hx)
  suffices hS : Calls Tryz.prog 4 i.args (w0.forCall tape i) fun e W' => ∃ v, e = .returned v ∧ Rows.fnExactTensorByPathsSpec.post enc Tryz.prog Tryz.f4 false true false false (w0.forCall tape i) i.args v W' from
    hS.mono fun e W' ⟨v, he, hp⟩ => by subst he; exact ChangeSpec.post_blind hp
  clear hw hx hfn' hsh0
  obtain ⟨W, eW⟩ : ∃ W, W = w0.forCall tape i := ⟨_, rfl⟩
  obtain ⟨args, eA⟩ : ∃ args, args = i.args := ⟨_, rfl⟩
  obtain ⟨base, eB⟩ : ∃ base, base = w0.heap.size := ⟨_, rfl⟩
  rw [← eW, ← eA] at hW0 hval1 ⊢
  rw [← eB] at hval1
  rw [← eW] at hmax0 htab0
  clear eW eA eB
  have hW := hW0
  have hval0 := hval1
  have hval : ∀ (j : Nat) t v, Tryz.f4.params[j]? = some t → args[j]? = some v → Value.okWide Tryz.prog W .any base t v := hval0
  have hW' := hW
  obtain ⟨p, q, hA0, hV, rfl, hfz, hnd⟩ := hW
  have hA : DataW.TrodAll enc Tryz.prog W 0 (fun _ => true) true Tryz.f4.params.toList args.toList ds p := hA0
  rw [Tryz.params4] at hA hval
  obtain ⟨v0, vs0, d0, ds0, p0, q0, hargs, rfl, rfl, h0, r0⟩ := trodAll_cons hA
  obtain ⟨v1, vs1, d1, ds1, p1, q1, rfl, rfl, rfl, h1, r1⟩ := trodAll_cons r0
  obtain ⟨v2, vs2, d2, ds2, p2, q2, rfl, rfl, rfl, h2, r2⟩ := trodAll_cons r1
  obtain ⟨rfl, rfl, rfl⟩ := trodAll_nil r2
  obtain rfl : args = #[v0, v1, v2] := by cases args; simp_all
  obtain ⟨rfl, rfl⟩ := trodVars_none hV
  have lt0 : ∀ x ∈ p0, x.block < W.heap.size := fun x hx => hW'.lt x (by simp [hx])
  obtain ⟨b0, e0, n0, k0, xs0, rfl, i0, g0, s0⟩ := car_in Tryz.underlying24 (by kernel_rfl) (by kernel_rfl) Tryz.underlying3 Tryz.underlying22 Tryz.underlying3 (by kernel_rfl) (hval 0 24 v0 rfl rfl) h0
  have lt1 : ∀ x ∈ p1, x.block < W.heap.size := fun x hx => hW'.lt x (by simp [hx])
  obtain ⟨z1, l1, m1, rfl⟩ := okWide_slice Tryz.underlying22 (hval 1 22 v1 rfl rfl)
  obtain ⟨fuel1, hf1⟩ := id h1
  obtain ⟨e1, n1, k1, xs1, q1, i1, g1, s1, t1, u1⟩ := ints_in Tryz.underlying22 Tryz.underlying3 (by kernel_rfl) hf1
  simp only [Value.cells, List.cons.injEq, and_true, Value.slice.injEq] at q1
  obtain ⟨rfl, rfl, rfl⟩ := q1
  have lt2 : ∀ x ∈ p2, x.block < W.heap.size := fun x hx => hW'.lt x (by simp [hx])
  obtain ⟨z2, l2, m2, rfl⟩ := okWide_slice Tryz.underlying22 (hval 2 22 v2 rfl rfl)
  obtain ⟨fuel2, hf2⟩ := id h2
  obtain ⟨e2, n2, k2, xs2, q2, i2, g2, s2, t2, u2⟩ := ints_in Tryz.underlying22 Tryz.underlying3 (by kernel_rfl) hf2
  simp only [Value.cells, List.cons.injEq, and_true, Value.slice.injEq] at q2
  obtain ⟨rfl, rfl, rfl⟩ := q2
  clear hA0 hval0
  refine (walk b0 e0 n0 k0 xs0 z1 l1 m1 xs1 z2 l2 m2 xs2 W i0 i1 i2 s0 s1 s2 hmax0 htab0).mono fun e W' ⟨he, bel⟩ => ?_
  subst he
  exact ⟨_, rfl, _, _, _, [], _, [], hW', trodAll_mk1 (shut_bool Tryz.underlying4 _), (trodAll_cons_mk (Below.trod laidOut (by kernel_rfl) (of_decide_eq_true (by kernel_rfl)) h0 bel lt0) (trodAll_cons_mk (Below.trod laidOut (by kernel_rfl) (of_decide_eq_true (by kernel_rfl)) h1 bel lt1) (trodAll_cons_mk (Below.trod laidOut (by kernel_rfl) (of_decide_eq_true (by kernel_rfl)) h2 bel lt2) trodAll_mk0))), rfl, bel.frame _, fun h => by cases h⟩

theorem over : Rows.FnExactTensorByPathsSaid :=
  OpenClaim.holds_of_wide 4 Tryz.f4 rfl rfl rfl rfl rfl rfl rfl ⟨rfl, rfl, rfl, rfl, rfl⟩ rfl rfl rfl rfl rfl (by kernel_rfl) Tryz.func4 closed
    (of_decide_eq_true (by kernel_rfl)) (by unfold Func.isWrapper; first | (rw [if_pos (by decide +kernel)]; kernel_rfl) | (rw [if_neg (by decide +kernel)]; exact ⟨rfl, rfl⟩))
    (fun os started H enc _ => lifted os started H enc)

/-- THE STATEMENT: the tied card -/
theorem proved : Rows.FnExactTensorByPathsCardSaid :=
  Claim7.holds_tied_plain_at .later [] [.data, .data, .data, .data, .pinned] true _ false
    over (fun _ h => by cases h) (by kernel_rfl) (fun _ h => by cases h) fnExactTensorByPaths_row_tie rfl ⟨rfl, rfl⟩ (by kernel_rfl) rfl
    (fun f fn hf hfn => by
      obtain rfl : f = 4 := Option.some.inj ((show Tryz.prog.funcNamed Rows.fnExactTensorByPathsRow.func = some 4 from fnum).symm.trans hf) |>.symm
      obtain rfl : fn = Tryz.f4 := (Option.some.inj (Tryz.func4.symm.trans hfn)).symm
      refine ⟨looks0, fun j t ht => ?_⟩
      have hall : (Tryz.f4.params.toList.all fun t => !Tryz.prog.wantsStandIn t) = true := wants
      have hm : t ∈ Tryz.f4.params.toList := by rw [Array.mem_toList_iff]; exact Array.mem_of_getElem? ht
      have := List.all_eq_true.1 hall t hm
      exact (show Tryz.prog.wantsStandIn t = false by simpa using this))
    goes
#print axioms proved

end Go.Proofs.YtdhlapppahkjeaaGreatDoor.fnExactTensorByPaths
