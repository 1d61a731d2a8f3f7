/-
  A word of letters, drawn; the law's own comparisons.
-/
import Derived.Test.YthbdcclglopkiaaDoorLyn2
import Derived.Test.YthbdcclglopkiaaDoorDrw
namespace Go.Proofs.YthbdcclglopkiaaDoor
open Go.RowKit

def LetRes (w : World) (e : Ending) (w' : World) : Prop := ∃ a n c xs, e = .returned (.slice a n c) ∧ OwnI w' w.heap.size a n c xs ∧ freeB xs = true ∧ Ext w w'
set_option maxRecDepth 100000 in
set_option maxHeartbeats 1000000 in
theorem drawLetters_any (a : Option Addr) (n c : Nat) (bs : List Int) (w : World) (hb : BytesAt w a n bs) (hn : n ≤ 1048576) :
    Calls Tryd.prog 11 #[.slice a n c] w (LetRes w) := by
  have HB := hidP hb
  have HN := hidP (l1New_any a n c bs w hb hn)
  have HL := hidP (fun g (k : Int) w' (hc : CurAt w' g a n c) (hb : BytesAt w' a n bs) hk => l1Below_any g k a n c bs w' hc hb hn hk)
  clear hb
  go_enter Tryd.func11, Tryd.ntmps11
  go_wp2_with fail
  refine HN.out.mono ?_
  rintro e w1 ⟨g, rfl, hc1, hg1, hx1⟩
  have HC1 := hidP hc1
  have HX1 := hidP hx1
  have HB1 := hidP (HB.out.below hx1)
  clear hc1 hx1 HN
  go_wp2_with fail
  refine (HL.out g _ _ HC1.out HB1.out (by omega)).mono ?_
  rintro e w2 ⟨v2, hv2, rfl, hc2, hgr2⟩
  have HB2 := hidP (HB1.out.grown hgr2 HC1.out.far)
  have HC2 := hidP hc2
  have HX2 := hidP (ext_up HX1.out hgr2 HX1.out.size hg1)
  have hv2' := hv2.2 (by omega)
  clear hc2 hgr2 hv2
  go_wp2_with fail
  refine (HL.out g _ _ HC2.out HB2.out (by omega)).mono ?_
  rintro e w3 ⟨v3, hv3, rfl, hc3, hgr3⟩
  have HB3 := hidP (HB2.out.grown hgr3 HC2.out.far)
  have HC3 := hidP hc3
  have HX3 := hidP (ext_up HX2.out hgr3 HX2.out.size hg1)
  have hv3' := hv3.2 (by omega)
  clear hc3 hgr3 hv3
  have HM := hidP (OwnI.made w3 w.heap.size 0 HX3.out.size (by unfold maxLen; omega))
  rw [show Array.replicate 0 (Value.int .i64 0) = #[] from rfl] at HM
  have hx4 := Ext.alloc w3 (.cells #[] 3)
  have HX4 := hidP (HX3.out.trans hx4)
  have HB4 := hidP (HB3.out.below hx4)
  have HC4 := hidP (HC3.out.below hx4)
  clear hx4
  go_wp2
  obtain ⟨w4, hw4⟩ : ∃ w4, w4 = w3.alloc (.cells #[] 3) := ⟨_, rfl⟩
  rw [← hw4] at HM HX4 HB4 HC4 ⊢
  clear hw4
  go_loopw [6, 7] (fun v u wr => ∃ (i : Nat) (av : Option Addr) (cv : Nat) (xs : List Int), i ≤ 1 + v2 ∧ v = .slice av i cv ∧ u = .int .i64 i ∧ Hid (letB xs = true) ∧ Hid (OwnI wr w.heap.size av i cv xs) ∧ Hid (CurAt wr g a n c) ∧ Hid (BytesAt wr a n bs) ∧ Hid (Ext w wr)) (fun _ u _ => 1 + v2 - (intOf u).toNat)
  case atStart => exact ⟨0, _, 0, [], Nat.zero_le _, rfl, rfl, rfl, HM, HC4, HB4, HX4⟩
  case round =>
    clear HM HC4 HB4 HX4
    obtain ⟨i, av, cv, xs, hi, rfl, rfl, HT, HO, HC, HBr, HX⟩ := hrel
    by_cases hlt : i < 1 + v2
    · go_wp2_with fail
      refine (HL.out g _ _ HC.out HBr.out (by omega)).mono ?_
      rintro e w5 ⟨v5, hv5, rfl, hc5, hgr5⟩
      have HB5 := hidP (HBr.out.grown hgr5 HC.out.far)
      have HO5 := hidP (HC.out.own HO.out hgr5)
      have HC5 := hidP hc5
      have HX5 := hidP (ext_up HX.out hgr5 HX.out.size hg1)
      have hv5' := hv5.2 (by omega)
      clear hc5 hgr5 hv5
      have hx6 := Ext.alloc w5 (.cells #[.int .i64 v5] 3)
      have HO6 := hidP (HO5.out.below hx6)
      have HI6 := hidP (show IntsAt (w5.alloc (.cells #[.int .i64 v5] 3)) (some ⟨w5.heap.size, 0, none⟩) 1 [(v5 : Int)] from by simpa [ivs] using ints_alloc w5 [(v5 : Int)] 3)
      have HX6 := hidP (HX5.out.trans hx6)
      have HC6 := hidP (HC5.out.below hx6)
      have HB6 := hidP (HB5.out.below hx6)
      have HT6 : Hid (letB (xs ++ [(v5 : Int)]) = true) := by
        have h1 := HT.out
        have h2 : insB v5 0 3 = true := insB_true.2 (by omega)
        show _ = _
        unfold letB at *
        rw [List.any_append, Bool.not_or, h1]
        simp [h2]
      clear hx6 HO5 HX5 HC5 HB5
      go_wp2_with (at_builtin; refine wpList_append_ints rfl (.tmp 22) (.tmp 26) rfl w.heap.size av i cv xs rfl HO6.out (some ⟨w5.heap.size, 0, none⟩) 1 1 [(v5 : Int)] rfl HI6.out (fun e => by cases e) (by omega) HX6.out.size ?_; intro a7 c7 w7 ho7 hg7; have HX7 := hidP (show Ext w w7 from grown_ext hg7 HX6.out HX6.out.size HO6.out.addr_base); have HC7 := hidP (HC6.out.ownGrown HO6.out hg7); have HB7 := hidP (HB6.out.ownGrown HO6.out hg7 HB.out); have HO7 := hidP ho7; clear ho7 hg7)
      go_roundw
      case rel => exact ⟨i + 1, a7, c7, _, by omega, rfl, by go_num, HT6, HO7, HC7, HB7, HX7⟩
      case measure => simp [intOf]; omega
    · obtain rfl : i = 1 + v2 := by omega
      have HF : Hid (freeB xs = true) := by
        show _ = _
        unfold freeB
        rw [HT.out, HO.out.len, insB_true.2 (by omega)]
        rfl
      go_wp2
      go_ret
      exact ⟨av, _, cv, xs, rfl, HO.out, HF.out, HX.out⟩
end Go.Proofs.YthbdcclglopkiaaDoor
