/-
  The program's lyndonWords.
-/
import Derived.Test.YthbdcclglopkiaaDoorLyn4
import Derived.Test.YthbdcclglopkiaaDoorLyn2
import Derived.Deep.LoopGhost
namespace Go.Proofs.YthbdcclglopkiaaDoor
open Go.RowKit

/-- an owned slice of integers does not lie in the block of a slice of such -/
theorem OwnK.ints_far {α : Type} {K : Knd α} {w : World} {B B' U : Nat} {a a' : Option Addr} {n c n' c' : Nat} {hs : List Hdr} {xs : List α} {ys : List Int} (h : OwnK K w B U a n c hs xs) (k : OwnI w B' a' n' c' ys) :
    ∀ b o, a' = some ⟨b, o, none⟩ → some b ≠ (Value.slice a n c).ownBlock := by
  intro b o e
  obtain ⟨cur, hb⟩ := k.block e
  rcases h.form with ⟨rfl, _⟩ | ⟨g, cur', rfl, _, _, hg, _⟩
  · simp [Value.ownBlock]
  · simp only [Value.ownBlock, ne_eq, Option.some.injEq]
    rintro rfl
    rw [hg] at hb
    simp only [Option.some.injEq, Obj.cells.injEq] at hb
    exact K.ne hb.2.1
set_option maxRecDepth 100000 in
set_option maxHeartbeats 4000000 in
theorem lyndonWordsI_any (L n : Nat) (w : World) (hL : 1 ≤ L) (hL4 : L ≤ 4) (hn1 : 1 ≤ n) (hn : n ≤ 8) :
    Calls Tryd.prog 35 #[.int .i64 L, .int .i64 n] w fun e w' => ∃ a k c hs, e = .returned (.slice a k c) ∧ OwnK rowK w' w.heap.size w'.heap.size a k c hs (lynTo L n (L ^ n)) ∧ Ext w w' := by
  have hmade := OwnI.made (w.alloc (.cells #[] 31)) (w.heap.size + 1) n (by simp) (by unfold maxLen; omega)
  rw [show (w.alloc (.cells #[] 31)).heap.size = w.heap.size + 1 by simp] at hmade
  have hmk := make_ints (n : Int) (by omega) (by omega)
  simp only [Int.toNat_natCast] at hmk
  have HO := hidP (OwnK.made0 rowK w)
  have hE : rowK.E = 31 := rfl
  rw [hE] at HO
  have hx0 := Ext.alloc w (.cells #[] 31)
  have hx1 := Ext.alloc (w.alloc (.cells #[] 31)) (.cells (Array.replicate n (.int .i64 0)) 3)
  go_enter Tryd.func35, Tryd.ntmps35
  go_wp2
  obtain ⟨w1, hw1⟩ : ∃ w1, w1 = (w.alloc (.cells #[] 31)).alloc (.cells (Array.replicate n (.int .i64 0)) 3) := ⟨_, rfl⟩
  rw [← hw1] at hmade hx1 ⊢
  have HM := hidP hmade
  have HO1 := hidP (HO.out.below hx1)
  have HX1 := hidP (hx0.trans hx1)
  have hsz1 : w.heap.size + 1 ≤ w1.heap.size := by have := hx1.size; simpa using this
  clear hw1 hmade hx0 hx1 HO hmk hE
  have HXZ := hidP (fun (h : 0 < n) => HM.out.block rfl)
  go_loopg [5] (L ^ n) (fun gk u wr => ∃ (v m : Nat) (av : Option Addr) (cv : Nat) (hv : List Hdr), v + gk = L ^ n ∧ v < L ^ n ∧ m ≤ v ∧ u = .slice av m cv ∧ Hid (OwnK rowK wr w.heap.size wr.heap.size av m cv hv (lynTo L n v)) ∧ Hid (OwnI wr (w.heap.size + 1) (some ⟨w.heap.size + 1, 0, none⟩) n n (dig L n v)) ∧ Hid (∀ q, q < m → Apart (some ⟨w.heap.size + 1, 0, none⟩) (hv.getD q (none, 0)).1) ∧ Hid (Ext w wr))
  case atStart =>
    refine ⟨0, 0, _, 0, [], by omega, Nat.pow_pos hL, Nat.le_refl _, rfl, ?_, ?_, fun q hq => by omega, HX1⟩
    · exact HO1.out.weaken (Nat.le_refl _) (by simpa using hsz1)
    · show OwnI _ _ _ _ _ _
      rw [dig_zero]
      exact HM.out
  case round =>
    clear HO1 HM HX1 HXZ
    obtain ⟨v, m, av, cv, hv, hvk, hvn, hmv, rfl, HL, HI, HA, HX⟩ := hrel
    obtain ⟨wo, rfl⟩ : ∃ wo : World, wo = wr := ⟨_, rfl⟩
    have hLn : L ^ n ≤ 65536 := Nat.le_trans (Nat.pow_le_pow_left hL4 n) (Nat.le_trans (Nat.pow_le_pow_right (by omega) hn) (by decide))
    have HC := hidP (isLyndon_any (some ⟨w.heap.size + 1, 0, none⟩) n n (dig L n v) wo HI.out.ints (Nat.le_refl _) (by unfold maxLen; omega) (by omega))
    obtain ⟨N, hN⟩ : ∃ N, N = L ^ n := ⟨_, rfl⟩
    rw [← hN] at hvk hvn hLn
    have HN := hidP hN
    clear hN
    cases hb : lynB (dig L n v)
    case' false =>
      rw [hb] at HC
      obtain ⟨w3, rfl⟩ : ∃ w3 : World, w3 = wo := ⟨_, rfl⟩
      have HL3 : Hid (OwnK rowK w3 w.heap.size w3.heap.size av m cv hv (lynTo L n (v + 1))) := by show OwnK _ _ _ _ _ _ _ _ _; rw [lynTo_no hb]; exact HL.out
      have HI3 := HI
      have HRW : Hid (dig L n v = dig L n v) := rfl
      have HA3 := HA
      have HX3 := HX
      have hm3 : m ≤ v + 1 := by omega
      clear hb hmv HL HI HA HX
      go_wp2_with fail
      refine HC.out.mono ?_
      rintro e w' ⟨rfl, rfl⟩
      go_wp2
    case' true =>
      rw [hb] at HC
      have HCl := hidP (clone_any (some ⟨w.heap.size + 1, 0, none⟩) n n (dig L n v) wo HI.out.ints (fun e => by cases e) (by omega))
      go_wp2_with fail
      refine HC.out.mono ?_
      rintro e w' ⟨rfl, rfl⟩
      go_wp2_with fail
      refine HCl.out.mono ?_
      rintro e w1 ⟨a1, c1, rfl, ho1, hx1⟩
      have HL1 := hidP (HL.out.below hx1)
      have HO1 := hidP ho1
      have HX1 := hidP (HX.out.trans hx1)
      have HI1 := hidP (HI.out.below hx1)
      have hx2 := Ext.alloc w1 (.cells #[.slice a1 n c1] 31)
      have HLR : Hid ((dig L n v).length = n) := dig_length _ _ _
      have HLY := hidP (lynTo_yes hb)
      clear ho1 hx1 HC HCl hb
      have HI2 := hidP (HI1.out.below hx2)
      have HL2 := hidP (HL1.out.below hx2)
      have HO2 := hidP (HO1.out.below hx2)
      have HX2 := hidP (HX1.out.trans hx2)
      obtain ⟨row, hrow⟩ : ∃ row, dig L n v = row := ⟨_, rfl⟩
      rw [hrow] at HLR HLY HI1 HI2 HO1 HO2
      have HRW := hidP hrow
      clear hrow
      have HGl : w.heap.size + 1 < wo.heap.size := by
        obtain ⟨g, e, _, hl, _⟩ := HI.out.cell 0 hn1
        simp only [Option.some.injEq, Addr.mk.injEq, and_true] at e
        omega
      have HAp : Hid (∀ q, q < m → Apart (hv.getD q (none, 0)).1 a1) := fun q hq b o b' o' e e' => by
        have := HL.out.lt q hq b o e
        have := (HO1.out.at_base b' o' e').1
        omega
      have HFr : Hid (Apart av a1) := fun b o b' o' e e' => by
        have := HL.out.olt b o e
        have := (HO1.out.at_base b' o' e').1
        omega
      have HA3 : Hid (∀ q, q < m + 1 → Apart (some ⟨w.heap.size + 1, 0, none⟩) ((hv ++ [(a1, c1)]).getD q (none, 0)).1) := fun q hq => by
        rcases Nat.lt_succ_iff_lt_or_eq.1 hq with h3 | rfl
        · have := HA.out q h3
          rw [List.getD_eq_getElem?_getD, List.getElem?_append_left (by rw [HL.out.hl]; exact h3), ← List.getD_eq_getElem?_getD]
          exact this
        · have e1 : (hv ++ [(a1, c1)]).getD q (none, 0) = (a1, c1) := by
            rw [List.getD_eq_getElem?_getD, List.getElem?_append_right (by rw [HL.out.hl]; exact Nat.le_refl _), HL.out.hl]
            simp
          rw [e1]
          intro b o b' o' e e'
          have := (HO1.out.at_base b' o' e').1
          simp only [Option.some.injEq, Addr.mk.injEq, and_true] at e
          omega
      have HCe : Hid (∀ q, q < rowK.size → (w1.alloc (.cells #[.slice a1 n c1] 31)).cell? ⟨w1.heap.size, q, none⟩ = (rowK.cells a1 c1 row)[q]?) := fun q hq => by
        rw [cell_top _ _ _ _ _ rfl]
        show _ = ([Value.slice a1 row.length c1])[q]?
        rw [HLR.out]
        simp
      have HR3 : Hid (OwnI (w1.alloc (.cells #[.slice a1 n c1] 31)) w.heap.size a1 row.length c1 row) := by show OwnI _ _ _ _ _ _; rw [HLR.out]; exact HO2.out.base HX.out.size
      clear hx2 HL1 HO1 HX1 HO2 HI1
      go_wp2_with (at_builtin; refine wpList_append_elem2 rowK 33 (.slice none 0 0) 24 rfl (.tmp 13) (.tmp 16) rfl Tryd.underlying33 Tryd.info31 rfl (by omega) w.heap.size _ av m cv hv _ rfl HL2.out w1.heap.size 1 (a1, c1) row rfl HCe.out HR3.out HAp.out HFr.out (by omega) HX2.out.size ?_; intro a3 c3 w3 ho3 hg3 _; have HX3 := hidP (show Ext w w3 from HL2.out.below_grown hg3 HX2.out HX2.out.size); have HI3 := hidP (HI2.out.grown hg3 fun g o e => HL2.out.ints_far HI2.out g o e); have HL3 : OwnK rowK w3 w.heap.size w3.heap.size a3 (m + 1) c3 (hv ++ [(a1, c1)]) (lynTo L n v ++ [row]) := ho3; rw [← HLY.out] at HL3; have HL3 := hidP HL3; clear ho3 hg3)
      have hm3 : m + 1 ≤ v + 1 := by omega
      clear HLY hmv HL HA HX HAp HFr HCe HR3 HL2 HX2 HI2 HI HGl
    all_goals
      have HU := hidP (UpdI.start HI3.out.ints)
      go_loopg [7] n (fun gk u wr => ∃ (m t q : Nat) (x : Int), m = gk ∧ m + t = n ∧ u = .int .i64 x ∧ (x ≤ m - 1 ∧ (m : Int) - 1 ≤ x) ∧ Hid (q < L ^ m ∧ (q + 1) * L ^ t = v + 1) ∧ Hid (UpdI w3 wr (some ⟨w.heap.size + 1, 0, none⟩) n (dig L m q ++ List.replicate t 0)))
      case atStart => exact ⟨n, 0, v, _, rfl, rfl, rfl, ⟨Int.le_refl _, Int.le_refl _⟩, ⟨by rw [← HN.out]; exact hvn, by simp⟩, by first | (rw [HRW.out]; simpa using HU) | simpa using HU⟩
      case round =>
        clear HU
        obtain ⟨m', t, q, x, rfl, hmt, rfl, ⟨hx1, hx2⟩, HQ, HU⟩ := hrel
        have HI4 := hidP (HU.out.ints HI3.out.ints)
        have HX4 := hidP (show Ext w wr from HU.out.below HX3.out HX3.out.size (fun b o e _ => by simp only [Option.some.injEq, Addr.mk.injEq, and_true] at e; omega))
        have HL4 := hidP ((HL3.out.others HU.out (fun b o b' o' e e' => fun hbb => HL3.out.ints_far HI3.out b o e (by rw [hbb, e']; rfl)) (fun q hq => HA3.out q hq)).weaken (U' := wr.heap.size) (Nat.le_refl _) HU.out.size)
        have HO4 := hidP (HU.out.own HI3.out)
        by_cases hm0 : m' = 0
        · obtain rfl : x = -1 := by omega
          subst hm0
          have hv1 : N = v + 1 := by
            have h1 := HQ.out.1
            have h2 := HQ.out.2
            have h3 := HN.out
            obtain rfl : t = n := by omega
            rw [← h3] at h2
            simp at h1
            subst h1
            omega
          have HLN : Hid (lynTo L n (v + 1) = lynTo L n (L ^ n)) := by show _ = _; rw [← HN.out, hv1]
          rw [HLN.out] at HL4
          clear hv1
          go_wp2
          go_ret
          exact ⟨_, _, _, _, rfl, HL4.out, HX4.out⟩
        · obtain ⟨j, rfl⟩ : ∃ j, m' = j + 1 := ⟨m' - 1, by omega⟩
          obtain rfl : x = (j : Int) := by omega
          have hjn : j < n := by omega
          have hc := HI4.out.atc j hjn
          rw [dig_last, Nat.zero_add] at hc
          have hfz := (HU.out.cellAt j hjn)
          have hfr : wr.frozen? ⟨w.heap.size + 1, j, none⟩ = false := by
            obtain ⟨y, _, hz⟩ := hfz
            rw [Nat.zero_add] at hz
            rw [hz]
            have := HI3.out.unfrozen j _ _ hjn rfl
            simpa using this
          clear hfz hm0
          have hrL : q % L < L := Nat.mod_lt _ hL
          have HUS := hidP (fun y => HU.out.store j hjn y)
          simp only [Nat.zero_add] at HUS
          by_cases hd : q % L = L - 1
          · have hW := dig_wipe L j q t
            have HUW := hidP (HUS.out 0)
            rw [hW] at HUW
            have HQ2 : Hid (q / L < L ^ j ∧ (q / L + 1) * L ^ (t + 1) = v + 1) := by
              obtain ⟨h1, h2⟩ := HQ.out
              refine ⟨?_, ?_⟩
              · rw [Nat.div_lt_iff_lt_mul hL, ← Nat.pow_succ]; exact h1
              · rw [← h2, Nat.pow_succ, Nat.mul_comm (L ^ t) L, ← Nat.mul_assoc]
                congr 1
                have := Nat.div_add_mod q L
                rw [Nat.add_mul, Nat.mul_comm (q / L) L]
                omega
            have hbt : (((q % L : Nat) : Int) == (L : Int) - 1) = true := by rw [beq_iff_eq]; omega
            clear hW hd HUS HQ hrL
            generalize q % L = r at *
            go_wp2
            go_roundg j
            case measure => omega
            case rel => exact ⟨j, t + 1, q / L, (j : Int) - 1, rfl, by omega, rfl, ⟨Int.le_refl _, Int.le_refl _⟩, HQ2, HUW⟩
          · have hW := dig_up L j q t (by omega)
            have HUW := hidP (HUS.out (((q % L : Nat) : Int) + 1))
            rw [hW] at HUW
            have HQ2 : Hid (v + 1 < L ^ n ∧ dig L (j + 1) (q + 1) ++ List.replicate t 0 = dig L n (v + 1)) := by
              obtain ⟨h1, h2⟩ := HQ.out
              have hlt : q + 1 < L ^ (j + 1) := by
                rcases Nat.lt_or_ge (q + 1) (L ^ (j + 1)) with h3 | h3
                · exact h3
                · exfalso
                  have h3' : L ^ (j + 1) = L * L ^ j := Nat.pow_succ'
                  have h4 : q + 1 = L * L ^ j := by omega
                  have h5 : (q + 1) % L = 0 := by rw [h4]; exact Nat.mul_mod_right _ _
                  have h6 : q % L + 1 < L := by omega
                  have h7 := Nat.add_mod q 1 L
                  rcases Nat.lt_or_ge 1 L with h8 | h8
                  · rw [Nat.mod_eq_of_lt h8, Nat.mod_eq_of_lt h6] at h7
                    omega
                  · omega
              refine ⟨?_, ?_⟩
              · rw [← h2, show n = (j + 1) + t by omega, Nat.pow_add]
                exact Nat.mul_lt_mul_of_pos_right hlt (Nat.pow_pos hL)
              · rw [← h2, show n = (j + 1) + t by omega, dig_shift hL]
            have hbt : (((q % L : Nat) : Int) == (L : Int) - 1) = false := by rw [beq_eq_false_iff_ne]; omega
            clear hW hd HUS HQ
            generalize q % L = r at *
            have hgk : 0 < gk := by omega
            go_wp2
            have hu := HUW.out
            rw [HQ2.out.2] at hu
            have HI5 := hidP (hu.own HI3.out)
            have HX5 := hidP (show Ext w _ from hu.below HX3.out HX3.out.size (fun b o e _ => by simp only [Option.some.injEq, Addr.mk.injEq, and_true] at e; omega))
            have HL5 := hidP ((HL3.out.others hu (fun b o b' o' e e' => fun hbb => HL3.out.ints_far HI3.out b o e (by rw [hbb, e']; rfl)) (fun q hq => HA3.out q hq)).weaken (Nat.le_refl _) hu.size)
            clear hu
            go_roundg (gk - 1)
            case measure => omega
            case rel => exact ⟨v + 1, _, _, _, _, by have := HN.out; omega, HQ2.out.1, hm3, rfl, HL5, HI5, HA3, HX5⟩
end Go.Proofs.YthbdcclglopkiaaDoor
