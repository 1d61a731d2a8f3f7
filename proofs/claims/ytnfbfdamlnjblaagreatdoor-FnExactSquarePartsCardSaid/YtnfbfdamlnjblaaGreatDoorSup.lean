/-
  What characters want of the path texts: stores in owned lists, sums of lists, the negative of a list. Printed by gen/sup.py.
-/
import Derived.Test.YtnfbfdamlnjblaaGreatDoorPthC
import Derived.Test.YtnfbfdamlnjblaaGreatDoorInS
namespace Go.Proofs.YtnfbfdamlnjblaaGreatDoor
open Go.RowKit

/-- one number of a slice of integers, in later worlds, too -/
theorem IntsAt.one {w : World} {a : Option Addr} {n : Nat} {xs : List Int} (h : IntsAt w a n xs) (i : Nat) (hi : i < n) : ∃ b o, a = some ⟨b, o, none⟩ ∧ ∀ w', Ext w w' → w'.cell? ⟨b, o + i, none⟩ = some (.int .i64 (xs.getD i 0)) := by
  obtain ⟨b, o, rfl, hc⟩ := h.get i hi
  exact ⟨b, o, rfl, fun w' hx => (hx.cell (p := ⟨b, o + i, none⟩) (World.block_lt_of_cell? w _ hc)).trans hc⟩
theorem OwnI.stored {w : World} {B g n c : Nat} {xs : List Int} (h : OwnI w B (some ⟨g, 0, none⟩) n c xs) (k : Nat) (v : Int) : OwnI (w.setCell ⟨g, k, none⟩ (.int .i64 v)) B (some ⟨g, 0, none⟩) n c (xs.set k v) := by
  have := (h.row.stored k (.int .i64 v)).1
  rw [show (ivs xs).set k (.int .i64 v) = ivs (xs.set k v) by simp [ivs, List.map_set]] at this
  exact ⟨this⟩
theorem partly_at (xs ys : List Int) (k : Nat) (h1 : k ≤ ys.length) : (partly xs ys k).getD k 0 = xs.getD k 0 := by
  simp only [partly, List.getD_eq_getElem?_getD]
  rw [List.getElem?_append_right (by simp; omega)]
  simp [Nat.min_eq_left h1]
/-- what a round of a reflection does with numbers -/
theorem Below.own {w0 w w' : World} {N n c : Nat} {a : Option Addr} (hb : Below N w0 w) (hg : w.grownBy w' (Value.slice a n c).ownBlock) (hB : N ≤ w.heap.size) (ha : ∀ b o, a = some ⟨b, o, none⟩ → N ≤ b) (h0 : ∀ p, a = some p → ∃ b, p = ⟨b, 0, none⟩) : Below N w0 w' := by
  refine Below.grown hb hg hB fun k hk => ?_
  cases a with
  | none => simp [Value.ownBlock] at hk
  | some p =>
    obtain ⟨b, rfl⟩ := h0 p rfl
    simp only [Value.ownBlock, Option.some.injEq] at hk
    rw [← hk]
    exact ha b 0 rfl
theorem OwnK.addr {α : Type} {K : Knd α} {w : World} {B U : Nat} {a : Option Addr} {n c : Nat} {hs : List Hdr} {xs : List α} (h : OwnK K w B U a n c hs xs) : ∀ p, a = some p → ∃ b, p = ⟨b, 0, none⟩ := by
  intro p e
  rcases h.form with ⟨rfl, _⟩ | ⟨g, cur, rfl, _⟩
  · cases e
  · cases e; exact ⟨g, rfl⟩
def plusV (xs : List Int) (l : Int) (ys : List Int) : List Int := (List.range xs.length).map fun j => xs.getD j 0 + l * ys.getD j 0
theorem plusV_length (xs : List Int) (l : Int) (ys : List Int) : (plusV xs l ys).length = xs.length := by simp [plusV]
theorem plusV_get (xs : List Int) (l : Int) (ys : List Int) (k : Nat) (hk : k < xs.length) : (plusV xs l ys).getD k 0 = xs.getD k 0 + l * ys.getD k 0 := by
  simp [plusV, List.getD_eq_getElem?_getD, hk]
/-- no sum leaves the range -/
def PlusIn (xs : List Int) (l : Int) (ys : List Int) : Prop := ∀ j, j < xs.length → (-1000000000000 ≤ l * ys.getD j 0 ∧ l * ys.getD j 0 ≤ 1000000000000) ∧ (-1000000000000 ≤ xs.getD j 0 ∧ xs.getD j 0 ≤ 1000000000000)
structure PlStep (xs : List Int) (l : Int) (ys : List Int) (k : Nat) (A Z : Int) : Prop where
  mul : IntKind.i64.wrap (l * Z) = l * Z
  add : IntKind.i64.wrap (A + l * Z) = A + l * Z
  res : (plusV xs l ys).getD k 0 = A + l * Z
theorem pl_step {xs : List Int} {l : Int} {ys : List Int} (h : PlusIn xs l ys) {k : Nat} (hk : k < xs.length) : PlStep xs l ys k (xs.getD k 0) (ys.getD k 0) := by
  obtain ⟨⟨h1, h2⟩, h3, h4⟩ := h k hk
  exact ⟨wrap_in (by omega) (by omega), wrap_in (by omega) (by omega), plusV_get _ _ _ _ hk⟩

set_option maxHeartbeats 2000000 in
theorem listPlus_any (a : Option Addr) (n c : Nat) (xs : List Int) (l : Int) (b : Option Addr) (m d : Nat) (ys : List Int) (w : World) (h : IntsAt w a n xs) (hnil : a = none → c = 0) (hn : n ≤ 1000000) (h2 : IntsAt w b m ys) (hnm : n = m) (hb : PlusIn xs l ys) :
    Calls Tryz.prog 137 #[.slice a n c, .int .i64 l, .slice b m d] w fun e w' => ∃ a' c', e = .returned (.slice a' n c') ∧ OwnI w' w.heap.size a' n c' (plusV xs l ys) ∧ Ext w w' := by
  subst hnm
  have HCl := hidP (clone_any a n c xs w h hnil (by omega))
  have HI := hidP h2
  have HB := hidP hb
  have HW := hidP h.len
  have HL : Hid ((plusV xs l ys).length = n) := (plusV_length _ _ _).trans h.len
  clear h hnil h2 hb
  go_enter Tryz.func137, Tryz.ntmps137
  go_wp2_with fail
  refine HCl.out.mono ?_
  rintro e w2 ⟨a1, c1, rfl, ho, hx⟩
  have HX2 := hidP hx
  have HO2 := hidP ho
  clear ho hx HCl
  go_wp2
  go_loopw [14] (fun ii wr => ∃ k : Nat, k ≤ n ∧ ii = .int .i64 k ∧ Hid (OwnI wr w.heap.size a1 n c1 (partly xs (plusV xs l ys) k)) ∧ Hid (Ext w wr)) (fun ii _ => n - (intOf ii).toNat)
  case atStart => exact ⟨0, Nat.zero_le _, rfl, by rw [partly_zero]; exact HO2, HX2⟩
  case round =>
    obtain ⟨k, hk, rfl, HO, HX⟩ := hrel
    by_cases hlt : k < n
    · have hst := pl_step HB.out (k := k) (by rw [HW.out]; exact hlt)
      obtain ⟨A, hA⟩ : ∃ A, A = xs.getD k 0 := ⟨_, rfl⟩
      obtain ⟨Z, hZ⟩ : ∃ Z, Z = ys.getD k 0 := ⟨_, rfl⟩
      rw [← hA, ← hZ] at hst
      obtain ⟨b', o', rfl, hwk⟩ := HI.out.one k hlt
      rw [← hZ] at hwk
      have q2 := hwk wr HX.out
      obtain ⟨g, rfl, hg1, _, q1, q3⟩ := HO.out.cell k hlt
      rw [partly_at _ _ _ (by rw [HL.out]; omega), ← hA] at q1
      have hmul := hst.mul
      have hadd := hst.add
      have HSt : Hid (OwnI (wr.setCell ⟨g, k, none⟩ (.int .i64 (A + l * Z))) w.heap.size (some ⟨g, 0, none⟩) n c1 (partly xs (plusV xs l ys) (k + 1))) := by
        have h1 := HO.out.stored k (A + l * Z)
        rw [← hst.res] at h1
        rw [partly_succ xs (plusV xs l ys) n k hlt HW.out HL.out] at h1
        rw [← hst.res]
        exact h1
      have HX3 : Hid (Ext w (wr.setCell ⟨g, k, none⟩ (.int .i64 (A + l * Z)))) := Ext.setNew HX.out _ _ hg1 _
      have hk0 : (0 : Int) ≤ (k : Int) := by omega
      have hkn : (k : Int) < (n : Int) := by omega
      clear hst hA hZ hwk hg1
      go_wp2
      go_roundw
      case rel => exact ⟨k + 1, by omega, by go_num, HSt, HX3⟩
      case measure => simp [intOf]; omega
    · obtain rfl : n = k := by omega
      have HD : Hid (partly xs (plusV xs l ys) n = plusV xs l ys) := partly_all _ _ _ HW.out HL.out
      rw [HD.out] at HO
      go_wp2
      go_ret
      exact ⟨_, _, rfl, HO.out, HX.out⟩
set_option maxHeartbeats 2000000 in
theorem l5Plus_any (a : Option Addr) (n c : Nat) (xs : List Int) (l : Int) (b : Option Addr) (m d : Nat) (ys : List Int) (w : World) (h : IntsAt w a n xs) (hnil : a = none → c = 0) (hn : n ≤ 1000000) (h2 : IntsAt w b m ys) (hnm : n = m) (hb : PlusIn xs l ys) :
    Calls Tryz.prog 138 #[.slice a n c, .int .i64 l, .slice b m d] w fun e w' => ∃ a' c', e = .returned (.slice a' n c') ∧ OwnI w' w.heap.size a' n c' (plusV xs l ys) ∧ Ext w w' := by
  subst hnm
  have HCl := hidP (l1Ints_any a n c xs w h hnil (by omega))
  have HI := hidP h2
  have HB := hidP hb
  have HW := hidP h.len
  have HL : Hid ((plusV xs l ys).length = n) := (plusV_length _ _ _).trans h.len
  clear h hnil h2 hb
  go_enter Tryz.func138, Tryz.ntmps138
  go_wp2_with fail
  refine HCl.out.mono ?_
  rintro e w2 ⟨a1, c1, rfl, ho, hx⟩
  have HX2 := hidP hx
  have HO2 := hidP ho
  clear ho hx HCl
  go_wp2
  go_loopw [8] (fun ii wr => ∃ k : Nat, k ≤ n ∧ ii = .int .i64 k ∧ Hid (OwnI wr w.heap.size a1 n c1 (partly xs (plusV xs l ys) k)) ∧ Hid (Ext w wr)) (fun ii _ => n - (intOf ii).toNat)
  case atStart => exact ⟨0, Nat.zero_le _, rfl, by rw [partly_zero]; exact HO2, HX2⟩
  case round =>
    obtain ⟨k, hk, rfl, HO, HX⟩ := hrel
    by_cases hlt : k < n
    · have hst := pl_step HB.out (k := k) (by rw [HW.out]; exact hlt)
      obtain ⟨A, hA⟩ : ∃ A, A = xs.getD k 0 := ⟨_, rfl⟩
      obtain ⟨Z, hZ⟩ : ∃ Z, Z = ys.getD k 0 := ⟨_, rfl⟩
      rw [← hA, ← hZ] at hst
      obtain ⟨b', o', rfl, hwk⟩ := HI.out.one k hlt
      rw [← hZ] at hwk
      have HWk := hidP (fun w' (hx : Ext wr w') => hwk w' (HX.out.trans hx))
      obtain ⟨g, rfl, hg1, _, _, _⟩ := HO.out.cell k hlt
      have HF : Hid (∀ w', Ext wr w' → w'.cell? ⟨g, k, none⟩ = some (.int .i64 A) ∧ w'.frozen? ⟨g, k, none⟩ = false ∧ w'.cell? ⟨b', o' + k, none⟩ = some (.int .i64 Z)) := by
        show ∀ w', _
        intro w' hx
        obtain ⟨g', e', _, _, q1, q2⟩ := (HO.out.below hx).cell k hlt
        simp only [Option.some.injEq, Addr.mk.injEq, and_true] at e'
        subst e'
        rw [partly_at _ _ _ (by rw [HL.out]; omega), ← hA] at q1
        exact ⟨q1, q2, HWk.out w' hx⟩
      have HSt : Hid (∀ w', Ext wr w' → OwnI (w'.setCell ⟨g, k, none⟩ (.int .i64 (A + l * Z))) w.heap.size (some ⟨g, 0, none⟩) n c1 (partly xs (plusV xs l ys) (k + 1))) := by
        show ∀ w', _
        intro w' hx
        have h1 := (HO.out.below hx).stored k (A + l * Z)
        rw [← hst.res] at h1
        rw [partly_succ xs (plusV xs l ys) n k hlt HW.out HL.out] at h1
        rw [← hst.res]
        exact h1
      have HG := hidP hg1
      have hmul := hst.mul
      have hadd := hst.add
      have hk0 : (0 : Int) ≤ (k : Int) := by omega
      have hkn : (k : Int) < (n : Int) := by omega
      clear hst hA hZ hwk hg1
      have hE : Ext wr wr.drew := Ext.drew wr
      go_wp2
      (refine walkR_start (fun w' => Ext wr w') 13 (by kernel_rfl) ?_; simp only [numbered, List.take_succ_cons, List.take_zero, Nat.zero_add, Nat.reduceAdd, List.length_cons, List.length_nil])
      (repeat (first | (refine walkR_still (v := ?_) rfl (by decide +kernel) rfl (fun _ _ _ h => h) hE ?_ ?_; rotate_left; (focus (intro w' hw'; obtain ⟨q1, q2, q3⟩ := HF.out w' hw'; go_simp; all_goals (with_reducible rfl))); simp only [Act.put, List.setIfInBounds_toArray, List.set_cons_zero, List.set_cons_succ]) | (refine walkR_skip rfl (by decide +kernel) rfl (fun _ _ _ h => h) hE ?_; simp only [Act.put, List.setIfInBounds_toArray, List.set_cons_zero, List.set_cons_succ])))
      (refine walkR_tail (by rfl) (by kernel_rfl) ?_; simp only [List.drop_succ_cons, List.drop_zero])
      obtain ⟨q1, q2, q3⟩ := HF.out _ hE
      have HO3 := hidP (HSt.out _ hE)
      have HX3 : Hid (Ext w (wr.drew.setCell ⟨g, k, none⟩ (.int .i64 (A + l * Z)))) := Ext.setNew (HX.out.trans hE) _ _ HG.out _
      clear hE
      go_wp2
      go_roundw
      case rel => exact ⟨k + 1, by omega, by go_num, HO3, HX3⟩
      case measure => simp [intOf]; omega
    · obtain rfl : n = k := by omega
      have HD : Hid (partly xs (plusV xs l ys) n = plusV xs l ys) := partly_all _ _ _ HW.out HL.out
      rw [HD.out] at HO
      go_wp2
      go_ret
      exact ⟨_, _, rfl, HO.out, HX.out⟩
theorem take_succ_at2 (p : List Stp) {k : Nat} (h : k < p.length) : p.take (k + 1) = p.take k ++ [(wayAt p k, lenAt p k)] := by
  rw [List.take_succ_eq_append_getElem h, show p[k] = (wayAt p k, lenAt p k) by simp [wayAt, lenAt, List.getD_eq_getElem?_getD, h]]
set_option maxHeartbeats 1000000 in
theorem l5Minus_any (a : Option Addr) (n c : Nat) (W : List Int) (w : World) (h : IntsAt w a n W) (hn : n ≤ 1000000) (hb : ∀ j, j < n → -1000000 ≤ W.getD j 0 ∧ W.getD j 0 ≤ 1000000) :
    Calls Tryz.prog 87 #[.slice a n c] w fun e w' => ∃ a', e = .returned (.slice a' n n) ∧ OwnI w' w.heap.size a' n n (negW W) ∧ Ext w w' := by
  have hx0 := Ext.alloc w (.cells (Array.replicate n (.int .i64 0)) 3)
  have G := hidP h
  have L := hidP h.len
  have HB := hidP hb
  have HM := hidP (OwnI.made w w.heap.size n (Nat.le_refl _) (by unfold maxLen; omega))
  have hmk := make_ints n (by omega) (by omega) w
  have HX0 := hidP hx0
  have HN : Hid ((negW W).length = n) := by
    show _ = _
    rw [negW_length, h.len]
  clear h hx0 hb
  go_enter Tryz.func87, Tryz.ntmps87
  go_wp2
  simp only [Int.toNat_natCast] at *
  obtain ⟨w1, hw1⟩ : ∃ w1, w1 = w.alloc (.cells (Array.replicate n (.int .i64 0)) 3) := ⟨_, rfl⟩
  rw [← hw1] at HM HX0 ⊢
  clear hw1 hmk
  go_loopw [4] (fun i wr => ∃ k : Nat, k ≤ n ∧ i = .int .i64 k ∧ Hid (OwnI wr w.heap.size (some ⟨w.heap.size, 0, none⟩) n n (partly (List.replicate n 0) (negW W) k)) ∧ Hid (Ext w wr)) (fun i _ => n - (intOf i).toNat)
  case atStart => exact ⟨0, Nat.zero_le _, rfl, by rw [partly_zero]; exact HM, HX0⟩
  case round =>
    obtain ⟨k, hk, rfl, HO, HX⟩ := hrel
    by_cases hlt : k < n
    · obtain ⟨b, o, rfl, q⟩ := (G.out.below HX.out).get k hlt
      obtain ⟨g', e', _, _, r1, r2⟩ := HO.out.cell k hlt
      simp only [Option.some.injEq, Addr.mk.injEq, and_true] at e'
      subst e'
      have hb := HB.out k hlt
      have hs := HO.out.stored k (- W.getD k 0)
      rw [← negW_getD, partly_succ _ _ n k hlt (by simp) HN.out, negW_getD] at hs
      have HS := hidP hs
      have HX2 : Hid (Ext w (wr.setCell ⟨w.heap.size, k, none⟩ (.int .i64 (- W.getD k 0)))) := Ext.setNew HX.out _ _ (Nat.le_refl _) _
      clear hs
      generalize W.getD k 0 = Z at *
      go_wp2
      go_roundw
      case rel => exact ⟨k + 1, by omega, by go_num, HS, HX2⟩
      case measure => simp [intOf]; omega
    · obtain rfl : k = n := by omega
      have HD : Hid (partly (List.replicate k 0) (negW W) k = negW W) := partly_all _ _ _ (by simp) HN.out
      rw [HD.out] at HO
      go_wp2
      go_ret
      exact ⟨_, rfl, HO.out, HX.out⟩
theorem mirS_take (p : List Stp) {j : Nat} (h : j < p.length) : (mirS p).take (j + 1) = (mirS p).take j ++ [(negW (wayAt p (p.length - 1 - j)), lenAt p (p.length - 1 - j))] := by
  rw [take_succ_at2 _ (by rw [mirS_length]; exact h), (mirS_get p j h).1, (mirS_get p j h).2]
end Go.Proofs.YtnfbfdamlnjblaaGreatDoor
