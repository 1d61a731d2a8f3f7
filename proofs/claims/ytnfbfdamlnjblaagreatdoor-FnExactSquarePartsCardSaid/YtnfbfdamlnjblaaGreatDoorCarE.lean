/-
  The program's search for an order of rows.
-/
import Derived.Test.YtnfbfdamlnjblaaGreatDoorCarA
import Derived.Test.YtnfbfdamlnjblaaGreatDoorSlw
import Derived.BigQuiet
namespace Go.Proofs.YtnfbfdamlnjblaaGreatDoor
open Go.RowKit

def natI (l : List Nat) : List Int := l.map fun x : Nat => (x : Int)
theorem natI_length (l : List Nat) : (natI l).length = l.length := by simp [natI]
theorem natI_getD (l : List Nat) (j : Nat) : (natI l).getD j 0 = (l.getD j 0 : Nat) := by
  simp only [natI, List.getD_eq_getElem?_getD, List.getElem?_map]
  cases l[j]? <;> simp
theorem natI_contains (l : List Nat) (i : Nat) : (natI l).contains (i : Int) = l.contains i := by
  rw [Bool.eq_iff_iff]
  simp only [natI, List.contains_eq_mem, decide_eq_true_eq, List.mem_map]
  exact ⟨fun ⟨a, h, e⟩ => by obtain rfl : a = i := by omega
                             exact h, fun h => ⟨i, h, rfl⟩⟩
theorem natI_append (l m : List Nat) : natI (l ++ m) = natI l ++ natI m := by simp [natI]
/-- an entry's cell -/
theorem IntsAt.entry {w : World} {a : Option Addr} {r : Nat} {xs : List Int} (h : IntsAt w a (r * r) xs) {i j : Nat} (hi : i < r) (hj : j < r) :
    ∃ b o, a = some ⟨b, o, none⟩ ∧ w.cell? ⟨b, o + (i * r + j), none⟩ = some (.int .i64 (atM xs r i j)) ∧ i * r + j < r * r := by
  have h1 : i * r + j < r * r := by
    have : (i + 1) * r ≤ r * r := Nat.mul_le_mul_right _ hi
    rw [Nat.add_mul, Nat.one_mul] at this
    omega
  obtain ⟨b, o, rfl, hc⟩ := h.get _ h1
  exact ⟨b, o, rfl, hc, h1⟩
theorem IntsAt.entryC {w : World} {b o r : Nat} {xs : List Int} (h : IntsAt w (some ⟨b, o, none⟩) (r * r) xs) {i j : Nat} (hi : i < r) (hj : j < r) : w.cell? ⟨b, o + (i * r + j), none⟩ = some (.int .i64 (atM xs r i j)) := by
  obtain ⟨b', o', e, hc, _⟩ := h.entry hi hj
  simp only [Option.some.injEq, Addr.mk.injEq, and_true] at e
  obtain ⟨rfl, rfl⟩ := e
  exact hc
/-- sums for a place in a matrix -/
structure PlaceF (i j r : Nat) : Prop where
  w1 : IntKind.i64.wrap ((i : Int) * r) = (i : Int) * r
  w2 : IntKind.i64.wrap ((i : Int) * r + j) = (i : Int) * r + j
  p0 : 0 ≤ (i : Int) * r + j
  p1 : (i : Int) * r + j < (r : Int) * r
  pn : ((i : Int) * r + j).toNat = i * r + j
theorem placeF {i j r : Nat} (hr : r ≤ 4) (hi : i < r) (hj : j < r) : PlaceF i j r := by
  obtain ⟨h0, h1, h2, h3⟩ := idx4 (r := (r : Int)) (i := i) (j := j) (by omega) (by omega) (by omega) (by omega) (by omega)
  refine ⟨wrap_in (by omega) (by omega), wrap_in (by omega) (by omega), by omega, h2, ?_⟩
  rw [← Int.natCast_mul, ← Int.natCast_add]
  rfl

set_option maxRecDepth 100000 in
set_option maxHeartbeats 4000000 in
theorem reordered_any (r : Nat) (hr : r ≤ 4) (xs due : List Int) : ∀ (f : Nat) (rows : List Nat) (ac ad a : Option Addr) (cc cd n c : Nat) (w : World), IntsAt w ac (r * r) xs → IntsAt w ad (r * r) due → IntsAt w a n (natI rows) → (a = none → c = 0) → n + f = r → (∀ x ∈ rows, x < r) →
    Calls Tryz.prog 187 #[carV r ac (r * r) cc, carV r ad (r * r) cd, .slice a n c] w fun e w' => e = .returned (.bool (searchB (List.range r) r (rowChk xs r due r) f rows)) ∧ Ext w w' := by
  intro f
  induction f with
  | zero =>
    intro rows ac ad a cc cd n c w h1 h2 h3 h4 h5 h6
    have hl := h3.len
    rw [natI_length] at hl
    have HS : Hid (searchB (List.range r) r (rowChk xs r due r) 0 rows = true) := by
      show _ = _
      simp [searchB]
      omega
    obtain rfl : n = r := by omega
    have hx := hidP ((Ext.alloc w (.cells #[.int .i64 n, .slice ac (n * n) cc] 55)).trans (Ext.alloc _ (.cells #[.int .i64 n, .slice ad (n * n) cd] 55)))
    clear h1 h2 h3 h4 hl h6
    go_enter Tryz.func187, Tryz.ntmps187
    go_wp2
    go_ret
    exact ⟨ret_bool HS.out.symm, hx.out⟩
  | succ f ih =>
    intro rows ac ad a cc cd n c w h1 h2 h3 h4 h5 h6
    have hl := h3.len
    rw [natI_length] at hl
    have hnr : ((n : Int) == r) = false := by simp; omega
    have hnr2 : n < r := by omega
    have hx := hidP ((Ext.alloc w (.cells #[.int .i64 r, .slice ac (r * r) cc] 55)).trans (Ext.alloc _ (.cells #[.int .i64 r, .slice ad (r * r) cd] 55)))
    have HC := hidP ((CarAt.new w _ rfl r ac (r * r) cc 55).below (Ext.alloc _ (.cells #[.int .i64 r, .slice ad (r * r) cd] 55)))
    have HD := hidP (CarAt.new (w.alloc (.cells #[.int .i64 r, .slice ac (r * r) cc] 55)) (w.heap.size + 1) (by simp) r ad (r * r) cd 55)
    have H1 := hidP (h1.below hx.out)
    have H2 := hidP (h2.below hx.out)
    have H3 := hidP (h3.below hx.out)
    have H6 := hidP h6
    have HNil := hidP h4
    have HL := hidP hl
    have HN5 := hidP h5
    obtain ⟨B, hB⟩ : ∃ B : Nat → Bool, B = fun i => !rows.contains i && rowChk xs r due r rows i && searchB (List.range r) r (rowChk xs r due r) f (rows ++ [i]) := ⟨_, rfl⟩
    have HB := hidP (fun i => congrFun hB i)
    have HS : Hid (searchB (List.range r) r (rowChk xs r due r) (f + 1) rows = (List.range r).any B) := by
      show _ = _
      rw [hB, searchB, decide_eq_false (by omega), Bool.false_or]
    rw [HS.out]
    clear h1 h2 h3 h4 hl h6 h5 hB HS
    go_enter Tryz.func187, Tryz.ntmps187
    go_wp2
    obtain ⟨w0, hw0⟩ : ∃ w0, w0 = (w.alloc (.cells #[.int .i64 r, .slice ac (r * r) cc] 55)).alloc (.cells #[.int .i64 r, .slice ad (r * r) cd] 55) := ⟨_, rfl⟩
    obtain ⟨b3, hb3⟩ : ∃ b, b = w.heap.size := ⟨_, rfl⟩
    rw [← hb3] at HC HD ⊢
    rw [← hw0] at hx HC HD H1 H2 H3 ⊢
    obtain ⟨b4, hb4⟩ : ∃ b, b = b3 + 1 := ⟨_, rfl⟩
    rw [← hb4] at HD ⊢
    clear hw0 hb3 hb4
    go_loopw [20] (fun t wr => ∃ i : Nat, i ≤ r ∧ t = .int .i64 i ∧ Hid (∀ q, q < i → B q = false) ∧ Hid (Ext w0 wr)) (fun t _ => r - (intOf t).toNat)
    case atStart => exact ⟨0, Nat.zero_le _, rfl, fun q hq => by omega, Ext.refl _⟩
    case round =>
      obtain ⟨i, hi, rfl, HJ, HX⟩ := hrel
      obtain ⟨f0, f1⟩ := HC.out.below HX.out
      obtain ⟨g0, g1⟩ := HD.out.below HX.out
      by_cases hlt : i < r
      · have HCT := hidP (fun q => containsI_any a n c (natI rows) (i : Int) (wr.drewN q) ((H3.out.below HX.out).drewN q) (by omega))
        rw [natI_contains] at HCT
        obtain ⟨bx, ox, rfl, qx, lx⟩ := (H1.out.below HX.out).entry hlt hlt
        obtain ⟨bd, od, rfl, qd, ld⟩ := (H2.out.below HX.out).entry hnr2 hnr2
        cases hcon : rows.contains i
        · rw [hcon] at HCT
          by_cases hdi : atM xs r i i = atM due r n n
          · have hdi' : (atM xs r i i != atM due r n n) = false := by simpa using hdi
            obtain ⟨F, hF⟩ : ∃ F : Nat → Bool, F = fun j => atM xs r i (rows.getD j 0) == atM due r n j && atM xs r (rows.getD j 0) i == atM due r j n := ⟨_, rfl⟩
            have HF := hidP (fun j => congrFun hF j)
            have HBI : Hid (B i = ((List.range n).all F && searchB (List.range r) r (rowChk xs r due r) f (rows ++ [i]))) := by
              show _ = _
              rw [HB.out i]
              unfold rowChk
              rw [HL.out, hcon, hdi, hF]
              simp
            have HPF := hidP (placeF hr hlt hlt)
            have HPG := hidP (placeF hr hnr2 hnr2)
            clear hdi hcon hF
            go_wp2
            obtain ⟨k1, k2, k3, k4, k5⟩ := HPF.out
            obtain ⟨l1, l2, l3, l4, l5⟩ := HPG.out
            go_quiet ((go_at_call 208; exact Calls.quiet_of_same (HCT.out _)))
            clear k1 k2 k3 k4 k5 l1 l2 l3 l4 l5 HPF HPG hdi'
            go_wp2
            obtain ⟨w1, hw1⟩ : ∃ w1, w1 = wr.drewN nq := ⟨_, rfl⟩
            have HX1 : Hid (Ext wr w1) := by rw [hw1]; exact Ext.drewN _ _
            rw [← hw1]
            clear hw1 qx qd lx ld f0 f1 g0 g1
            go_loopw [9, 51] (fun u t wx => ∃ j : Nat, j ≤ n ∧ t = .int .i64 j ∧ u = .bool ((List.range j).all F) ∧ Hid (Ext w1 wx)) (fun _ t _ => n - (intOf t).toNat)
            case atStart => exact ⟨0, Nat.zero_le _, rfl, rfl, Ext.refl _⟩
            case round =>
              obtain ⟨j, hj, rfl, rfl, HXj⟩ := hrel
              have HXa := hidP (HX.out.trans (HX1.out.trans HXj.out))
              have HAS : Hid ((List.range (j + 1)).all F = ((List.range j).all F && F j)) := by
                show _ = _
                rw [List.range_succ, List.all_append]
                simp
              by_cases hjn : j < n
              · obtain ⟨f0, f1⟩ := HC.out.below HXa.out
                obtain ⟨g0, g1⟩ := HD.out.below HXa.out
                have hrj : rows.getD j 0 < r := H6.out _ (by rw [List.getD_eq_getElem?_getD, List.getElem?_eq_getElem (by rw [HL.out]; exact hjn)]; exact List.getElem_mem _)
                have hjr : j < r := by omega
                obtain ⟨b, o, rfl, qj⟩ := (H3.out.below HXa.out).get j hjn
                rw [natI_getD] at qj
                have HFJ := hidP (HF.out j)
                generalize rows.getD j 0 = rj at *
                cases hfj : (List.range j).all F
                · rw [hfj] at HAS
                  go_wp2
                  go_quiet (fail)
                  go_wp2
                  go_roundw
                  case rel => exact ⟨j + 1, by omega, by go_num, by rw [HAS.out]; rfl, HXj.out.trans (Ext.drewN _ _)⟩
                  case measure => simp [intOf]; omega
                · rw [hfj, Bool.true_and] at HAS
                  have e1 := (H1.out.below HXa.out).entryC hlt hrj
                  have e2 := (H2.out.below HXa.out).entryC hnr2 hjr
                  have e3 := (H1.out.below HXa.out).entryC hrj hlt
                  have e4 := (H2.out.below HXa.out).entryC hjr hnr2
                  generalize atM xs r i rj = x1 at *
                  generalize atM due r n j = y1 at *
                  generalize atM xs r rj i = x2 at *
                  generalize atM due r j n = y2 at *
                  have P1 := hidP (placeF hr hlt hrj)
                  have P2 := hidP (placeF hr hnr2 hjr)
                  have P3 := hidP (placeF hr hrj hlt)
                  have P4 := hidP (placeF hr hjr hnr2)
                  cases hp : (x1 == y1)
                  · rw [hp, Bool.false_and] at HFJ
                    go_wp2
                    obtain ⟨k1, k2, k3, k4, k5⟩ := P1.out
                    obtain ⟨l1, l2, l3, l4, l5⟩ := P2.out
                    go_quiet (fail)
                    clear k1 k2 k3 k4 k5 l1 l2 l3 l4 l5
                    go_wp2
                    go_roundw
                    case rel => exact ⟨j + 1, by omega, by go_num, by rw [HAS.out, HFJ.out], HXj.out.trans (Ext.drewN _ _)⟩
                    case measure => simp [intOf]; omega
                  · rw [hp, Bool.true_and] at HFJ
                    go_wp2
                    obtain ⟨k1, k2, k3, k4, k5⟩ := P1.out
                    obtain ⟨l1, l2, l3, l4, l5⟩ := P2.out
                    obtain ⟨m1, m2, m3, m4, m5⟩ := P3.out
                    obtain ⟨n1, n2, n3, n4, n5⟩ := P4.out
                    go_quiet (fail)
                    clear k1 k2 k3 k4 k5 l1 l2 l3 l4 l5 m1 m2 m3 m4 m5 n1 n2 n3 n4 n5
                    go_wp2
                    go_roundw
                    case rel => exact ⟨j + 1, by omega, by go_num, by rw [HAS.out, HFJ.out], HXj.out.trans (Ext.drewN _ _)⟩
                    case measure => simp [intOf]; omega
              · obtain rfl : j = n := by omega
                obtain ⟨f0, f1⟩ := HC.out.below HXa.out
                obtain ⟨g0, g1⟩ := HD.out.below HXa.out
                have hE : Ext wr wr.drew := Ext.drew wr
                cases hfa : (List.range j).all F
                · rw [hfa, Bool.false_and] at HBI
                  go_wp2
                  (refine walkR_start (fun w' => Ext wr w') 10 (by kernel_rfl) ?_; simp only [numbered, List.take_succ_cons, List.take_zero, Nat.zero_add, Nat.reduceAdd, List.length_cons, List.length_nil])
                  (repeat (first | (refine walkR_still (v := ?_) rfl (by decide +kernel) rfl (fun _ _ _ h => h) hE ?_ ?_; rotate_left; (focus (intro w' hw'; skip; go_simp; all_goals (with_reducible rfl))); simp only [Act.put, List.setIfInBounds_toArray, List.set_cons_zero, List.set_cons_succ]) | (refine walkR_skip rfl (by decide +kernel) rfl (fun _ _ _ h => h) hE ?_; simp only [Act.put, List.setIfInBounds_toArray, List.set_cons_zero, List.set_cons_succ])))
                  (refine walkR_tail (by rfl) (by kernel_rfl) ?_; simp only [List.drop_succ_cons, List.drop_zero])
                  go_wp2
                  go_roundw
                  case rel =>
                    refine ⟨i + 1, by omega, by go_num, fun q hq => ?_, HXa.out.trans hE⟩
                    rcases Nat.lt_succ_iff_lt_or_eq.1 hq with h3 | rfl
                    · exact HJ.out q h3
                    · exact HBI.out
                  case measure => simp [intOf]; omega
                · rw [hfa, Bool.true_and] at HBI
                  have HCl := hidP (fun w' (hx : Ext wr w') => clone_any a j c (natI rows) w' ((H3.out.below HXa.out).below hx) HNil.out (by omega))
                  have HI := hidP ih
                  have HWB := hidP (fun w' (hx : Ext wr w') => (⟨HC.out.below (HXa.out.trans hx), HD.out.below (HXa.out.trans hx)⟩ : _ ∧ _))
                  clear f0 f1 g0 g1 ih
                  go_wp2
                  (refine walkR_start (fun w' => Ext wr w') 9 (by kernel_rfl) ?_; simp only [numbered, List.take_succ_cons, List.take_zero, Nat.zero_add, Nat.reduceAdd, List.length_cons, List.length_nil])
                  (repeat (first | (refine walkR_still (v := ?_) rfl (by decide +kernel) rfl (fun _ _ _ h => h) hE ?_ ?_; rotate_left; (focus (intro w' hw'; obtain ⟨⟨f0, f1⟩, g0, g1⟩ := HWB.out w' hw'; go_simp; all_goals (with_reducible rfl))); simp only [Act.put, List.setIfInBounds_toArray, List.set_cons_zero, List.set_cons_succ]) | (refine walkR_skip rfl (by decide +kernel) rfl (fun _ _ _ h => h) hE ?_; simp only [Act.put, List.setIfInBounds_toArray, List.set_cons_zero, List.set_cons_succ])))
                  (refine walkR_later ?_; simp only [List.cons_append, List.nil_append])
                  (repeat (first | (refine walkR_still (v := ?_) rfl (by decide +kernel) rfl (fun _ _ _ h => h) hE ?_ ?_; rotate_left; (focus (intro w' hw'; skip; go_simp; all_goals (with_reducible rfl))); simp only [Act.put, List.setIfInBounds_toArray, List.set_cons_zero, List.set_cons_succ]) | (refine walkR_skip rfl (by decide +kernel) rfl (fun _ _ _ h => h) hE ?_; simp only [Act.put, List.setIfInBounds_toArray, List.set_cons_zero, List.set_cons_succ])))
                  (refine walkR_later ?_; simp only [List.cons_append, List.nil_append]); (refine walkR_later ?_; simp only [List.cons_append, List.nil_append])
                  refine walkR_two (fun v u w' => ∃ a1 c1 b1, v = .slice a1 j c1 ∧ u = .slice (some ⟨b1, 0, none⟩) 1 1 ∧ OwnI w' wr.heap.size a1 j c1 (natI rows) ∧ w'.cell? ⟨b1, 0, none⟩ = some (.int .i64 i)) (fun v w' => ∃ a1 c1, v = .slice a1 j c1 ∧ OwnI w' wr.heap.size a1 j c1 (natI rows)) (fun u w' => ∃ b1, u = .slice (some ⟨b1, 0, none⟩) 1 1 ∧ w'.cell? ⟨b1, 0, none⟩ = some (.int .i64 i)) rfl rfl (by decide +kernel) rfl rfl (by decide) rfl rfl (fun _ => rfl) (fun _ => rfl) ?_ ?_ ?_ ?_ ?_
                  · intro K hK
                    go_simp
                    refine (HCl.out _ hE).mono ?_
                    rintro e w2 ⟨a1, c1, rfl, ho, hx⟩
                    exact hK _ _ (hE.trans hx) ⟨a1, c1, rfl, ho⟩
                  · rintro v w2 hx ⟨a1, c1, rfl, ho⟩ K hK
                    go_simp
                    exact hK _ _ (hx.trans (Ext.alloc _ _)) ⟨a1, c1, _, rfl, rfl, ho.below (Ext.alloc _ _), (cell_top _ _ _ _ _ rfl).trans rfl⟩
                  · intro K hK
                    go_simp
                    exact hK _ _ (hE.trans (Ext.alloc _ _)) ⟨_, rfl, (cell_top _ _ _ _ _ rfl).trans rfl⟩
                  · rintro u w2 hx ⟨b1, rfl, hb⟩ K hK
                    go_simp
                    refine (HCl.out _ hx).mono ?_
                    rintro e w3 ⟨a1, c1, rfl, ho, hx3⟩
                    exact hK _ _ (hx.trans hx3) ⟨a1, c1, b1, rfl, rfl, ho.base hx.size, (hx3.cell (p := ⟨b1, 0, none⟩) (World.block_lt_of_cell? _ _ hb)).trans hb⟩
                  · rintro v u w2 hx2 ⟨a1, c1, b1, rfl, rfl, ho2, hb2⟩
                    (try simp only [Act.put, List.setIfInBounds_toArray, List.set_cons_zero, List.set_cons_succ])
                    have hi1 : IntsAt w2 (some ⟨b1, 0, none⟩) 1 [(i : Int)] := ⟨rfl, fun q hq => ⟨b1, 0, rfl, by
                      obtain rfl : q = 0 := by omega
                      simpa using hb2⟩⟩
                    (refine walkR_only (fun w' => Ext wr w') rfl (by decide +kernel) rfl ?_ ?_)
                    · exact fun _ h => h
                    intro K hK
                    refine wp_append_ints (.tmp 109) (.tmp 111) rfl wr.heap.size a1 j c1 (natI rows) rfl ho2 ⟨b1, 0, none⟩ 1 1 [(i : Int)] rfl hi1 (by omega) hx2.size ?_
                    intro a3 c3 w3 ho3 hg3
                    have hx3 := grown_ext hg3 hx2 hx2.size ho2.addr_base
                    refine hK _ _ hx3 ?_
                    clear hK K
                    (try simp only [Act.put, List.setIfInBounds_toArray, List.set_cons_zero, List.set_cons_succ])
                    (refine walkR_tail (by rfl) (by kernel_rfl) ?_; simp only [List.drop_succ_cons, List.drop_zero])
                    rw [show natI rows ++ [(i : Int)] = natI (rows ++ [i]) by rw [natI_append]; rfl] at ho3
                    have HR := hidP (HI.out (rows ++ [i]) _ _ _ cc cd _ _ w3 ((H1.out.below HXa.out).below hx3) ((H2.out.below HXa.out).below hx3) ho3.ints ho3.nil_cap (by have := HN5.out; omega) (fun x hx => by
                      simp only [List.mem_append, List.mem_singleton] at hx
                      rcases hx with hx | rfl
                      · exact H6.out x hx
                      · exact hlt))
                    have HX3 := hidP hx3
                    clear ho3 hg3 ho2 hb2 hi1 hx2 hx3
                    generalize hsb : searchB (List.range r) r (rowChk xs r due r) f (rows ++ [i]) = sb at *
                    cases sb
                    · go_wp2_with fail
                      refine HR.out.mono ?_
                      rintro e w4 ⟨rfl, hx4⟩
                      go_wp2
                      go_roundw
                      case rel =>
                        refine ⟨i + 1, by omega, by go_num, fun q hq => ?_, (HXa.out.trans HX3.out).trans hx4⟩
                        rcases Nat.lt_succ_iff_lt_or_eq.1 hq with h3 | rfl
                        · exact HJ.out q h3
                        · exact HBI.out
                      case measure => simp [intOf]; omega
                    · have HE : Hid ((List.range r).any B = true) := by
                        show _ = _
                        rw [List.any_eq_true]
                        exact ⟨i, List.mem_range.2 hlt, HBI.out⟩
                      go_wp2_with fail
                      refine HR.out.mono ?_
                      rintro e w4 ⟨rfl, hx4⟩
                      go_wp2
                      go_ret
                      exact ⟨ret_bool HE.out.symm, ((hx.out.trans HXa.out).trans HX3.out).trans hx4⟩
          · have hdi' : (atM xs r i i != atM due r n n) = true := by simpa using hdi
            have HBI : Hid (B i = false) := by
              show _ = _
              rw [HB.out i]
              unfold rowChk
              rw [HL.out]
              simp [hdi]
            have HPF := hidP (placeF hr hlt hlt)
            have HPG := hidP (placeF hr hnr2 hnr2)
            clear hdi hcon
            go_wp2
            obtain ⟨k1, k2, k3, k4, k5⟩ := HPF.out
            obtain ⟨l1, l2, l3, l4, l5⟩ := HPG.out
            go_quiet ((go_at_call 208; exact Calls.quiet_of_same (HCT.out _)))
            clear k1 k2 k3 k4 k5 l1 l2 l3 l4 l5
            go_wp2
            go_roundw
            case rel =>
              refine ⟨i + 1, by omega, by go_num, fun q hq => ?_, HX.out.trans (Ext.drewN _ _)⟩
              rcases Nat.lt_succ_iff_lt_or_eq.1 hq with h3 | rfl
              · exact HJ.out q h3
              · exact HBI.out
            case measure => simp [intOf]; omega
        · rw [hcon] at HCT
          have HBI : Hid (B i = false) := by
            show _ = _
            rw [HB.out i, hcon]
            rfl
          clear hcon
          go_wp2
          go_quiet ((go_at_call 208; exact Calls.quiet_of_same (HCT.out _)))
          go_wp2
          go_roundw
          case rel =>
            refine ⟨i + 1, by omega, by go_num, fun q hq => ?_, HX.out.trans (Ext.drewN _ _)⟩
            rcases Nat.lt_succ_iff_lt_or_eq.1 hq with h3 | rfl
            · exact HJ.out q h3
            · exact HBI.out
          case measure => simp [intOf]; omega
      · obtain rfl : i = r := by omega
        have HE : Hid ((List.range i).any B = false) := by
          show _ = _
          rw [List.any_eq_false]
          intro q hq
          rw [HJ.out q (List.mem_range.1 hq)]
          simp
        go_wp2
        go_ret
        exact ⟨ret_bool HE.out.symm, hx.out.trans HX.out⟩
end Go.Proofs.YtnfbfdamlnjblaaGreatDoor
