/-
  The loop of a series, and the series of an algebra.
-/
import Derived.Test.YthbdcclglopkiaaSer
import Derived.Test.YthbdcclglopkiaaAlgP
namespace Go.Proofs.Ythbdcclglopkiaa
open Go.RowKit

set_option maxHeartbeats 4000000 in
theorem series_any (F : FuncId) (caps : Array Value) (f : List (List Int) → List (List Int)) (p : Int) (d B m : Nat) (a0 : Option Addr) (l0 c0 : Nat) (R : List (List Int)) (w : World)
    (h0 : OwnI w B a0 l0 c0 R.flatten) (hB : B ≤ w.heap.size) (hm : m ≤ 1000000)
    (hF : ∀ (args : Array Value) (w : World), Sem.run Try.prog (callFunc F args) w = .ok (.enter F args) w)
    (hf : ∀ i, i ≤ m → ∀ a l c w', Ext w w' → OwnI w' B a l c (iterL f R i).flatten → Calls Try.prog F (#[matV p (iterL f R i).length d a l c] ++ caps) w' (StepSays p d w'.heap.size f (iterL f R i) w'))
    (hne : ∀ i, i < m → (iterL f R (i + 1)).length ≠ (iterL f R i).length) (heq : (iterL f R (m + 1)).length = (iterL f R m).length) :
    Calls Try.prog 73 #[matV p R.length d a0 l0 c0, .func (.func F) #[] caps] w fun e w' => ∃ a' c' hs, e = .returned (.slice a' (m + 1) c') ∧ OwnK matK w' B w'.heap.size a' (m + 1) c' hs (serL p d f R m) ∧ Ext w w' := by
  have hl0 := h0.len
  have hx0 := (Ext.alloc w (.cells #[.int .i64 p, .int .i64 (R.length : Int), .int .i64 (d : Int), .slice a0 l0 c0] 67)).trans (Ext.alloc _ (.cells #[.int .i64 p, .int .i64 (R.length : Int), .int .i64 (d : Int), .slice a0 l0 c0] 67))
  have HX := hidP hx0
  have hw1 : (w.alloc (.cells #[.int .i64 p, .int .i64 (R.length : Int), .int .i64 (d : Int), .slice a0 l0 c0] 67)).heap.size = w.heap.size + 1 := by simp
  have h1 := heap_alloc_new (w.alloc (.cells #[.int .i64 p, .int .i64 (R.length : Int), .int .i64 (d : Int), .slice a0 l0 c0] 67)) (.cells #[.int .i64 p, .int .i64 (R.length : Int), .int .i64 (d : Int), .slice a0 l0 c0] 67)
  rw [hw1] at h1
  have hown : OwnK matK ((w.alloc (.cells #[.int .i64 p, .int .i64 (R.length : Int), .int .i64 (d : Int), .slice a0 l0 c0] 67)).alloc (.cells #[.int .i64 p, .int .i64 (R.length : Int), .int .i64 (d : Int), .slice a0 l0 c0] 67)) B
      ((w.alloc (.cells #[.int .i64 p, .int .i64 (R.length : Int), .int .i64 (d : Int), .slice a0 l0 c0] 67)).alloc (.cells #[.int .i64 p, .int .i64 (R.length : Int), .int .i64 (d : Int), .slice a0 l0 c0] 67)).heap.size (some ⟨w.heap.size + 1, 0, none⟩) 1 1 [(a0, c0)] (serL p d f R 0) := by
    have hb := h0.below hx0
    refine ⟨⟨rfl, .inr ⟨w.heap.size + 1, 1, _, rfl, by omega, h1, Nat.le_refl _, by unfold maxLen; omega, rfl, ?_⟩⟩, rfl, rfl, fun i hi => ?_, fun i j hi hj hij => by omega, fun i hi b o e => ?_, fun b o e => ?_⟩
    · show _ = [Value.int .i64 p, .int .i64 (R.length : Int), .int .i64 (d : Int), .slice a0 R.flatten.length c0] ++ []
      rw [hl0]
      rfl
    · obtain rfl : i = 0 := by omega
      show OwnI _ B a0 R.flatten.length c0 R.flatten
      rw [hl0]
      exact hb
    · obtain rfl : i = 0 := by omega
      exact (hb.at_base b o e).2
    · simp only [Option.some.injEq, Addr.mk.injEq, and_true] at e
      simp [← e.1]
  have HO := hidP hown
  have HH := hidP hf
  have HNE := hidP hne
  have HEQ := hidP heq
  clear h0 h1 hw1 hown hf hne heq hx0 hl0
  generalize hrl : (R.length : Int) = rl at *
  clear hrl
  go_enter Try.func73, Try.ntmps73
  go_wp2
  obtain ⟨w0, hw0⟩ : ∃ w0, w0 = (w.alloc (.cells #[.int .i64 p, .int .i64 rl, .int .i64 (d : Int), .slice a0 l0 c0] 67)).alloc (.cells #[.int .i64 p, .int .i64 rl, .int .i64 (d : Int), .slice a0 l0 c0] 67) := ⟨_, rfl⟩
  rw [← hw0] at HX HO ⊢
  clear hw0
  go_loopw [5] (fun v wr => ∃ (i : Nat) (av : Option Addr) (cv : Nat) (hv : List Hdr), i ≤ m ∧ v = .slice av (i + 1) cv ∧ Hid (OwnK matK wr B wr.heap.size av (i + 1) cv hv (serL p d f R i)) ∧ Hid (Ext w wr) ∧ Hid (∀ b o, av = some ⟨b, o, none⟩ → w.heap.size ≤ b)) (fun v _ => match v with | .slice _ n _ => m + 1 - n | _ => 0)
  case atStart => exact ⟨0, _, 1, _, Nat.zero_le _, rfl, HO, HX, fun b o e => by cases e; exact Nat.le_succ _⟩
  case round =>
    clear HO HX
    obtain ⟨i, av, cv, hv, hi, rfl, HO, HX, HA⟩ := hrel
    have hg : (serL p d f R i).getD i matK.dft = mxOf p d (iterL f R i) := serL_get p d f R i i (Nat.le_refl _)
    obtain ⟨g, rfl, q0, _⟩ := HO.out.cell i 0 (by omega) (by decide)
    obtain ⟨_, e1, q1, _⟩ := HO.out.cell i 1 (by omega) (by decide)
    obtain ⟨_, e2, q2, _⟩ := HO.out.cell i 2 (by omega) (by decide)
    obtain ⟨_, e3, q3, _⟩ := HO.out.cell i 3 (by omega) (by decide)
    cases e1; cases e2; cases e3
    rw [hg] at q0 q1 q2 q3
    have q0 : wr.cell? ⟨g, i * 4, none⟩ = some (.int .i64 p) := q0
    have q1 : wr.cell? ⟨g, i * 4 + 1, none⟩ = some (.int .i64 ((iterL f R i).length : Int)) := q1
    have q2 : wr.cell? ⟨g, i * 4 + 2, none⟩ = some (.int .i64 (d : Int)) := q2
    have q3 : wr.cell? ⟨g, i * 4 + 3, none⟩ = some (.slice (hv.getD i (none, 0)).1 (iterL f R i).flatten.length (hv.getD i (none, 0)).2) := q3
    have he := HO.out.each i (by omega)
    rw [hg] at he
    have HE : Hid (OwnI wr B (hv.getD i (none, 0)).1 (iterL f R i).flatten.length (hv.getD i (none, 0)).2 (iterL f R i).flatten) := he
    generalize hv.getD i (none, 0) = hh at *
    clear hg he
    have hcall := HH.out i hi hh.1 (iterL f R i).flatten.length hh.2 (wr.alloc (.cells #[.int .i64 p, .int .i64 ((iterL f R i).length : Int), .int .i64 (d : Int), .slice hh.1 (iterL f R i).flatten.length hh.2] 67)) (HX.out.trans (Ext.alloc _ _)) (HE.out.below (Ext.alloc _ _))
    have HCL := hidP hcall
    have HN1 := hidP (HNE.out i)
    have HQ1 : Hid (i = m → (iterL f R (i + 1)).length = (iterL f R i).length) := fun e => by rw [e]; exact HEQ.out
    have hn := fun w1 hx j => new_cell (w' := w1) (w := wr) (cs := #[.int .i64 p, .int .i64 ((iterL f R i).length : Int), .int .i64 (d : Int), .slice hh.1 (iterL f R i).flatten.length hh.2]) (E := 67) (b := wr.heap.size) rfl hx j
    have hn1 := fun w1 hx => (hn w1 hx 1).1.trans (show _ = some (Value.int .i64 ((iterL f R i).length : Int)) from rfl)
    have HNC := hidP hn1
    have HSer := hidP (serL_succ p d f R i)
    clear hcall hn hn1
    generalize hfl : (iterL f R i).flatten.length = fl at *
    have hxa := Ext.alloc wr (.cells #[.int .i64 p, .int .i64 ((iterL f R i).length : Int), .int .i64 (d : Int), .slice hh.1 fl hh.2] 67)
    have HXA := hidP hxa
    clear hfl hxa
    generalize hk0 : (iterL f R i).length = k0 at *
    clear hk0
    go_wp2_with fail
    obtain ⟨wa, hwa⟩ : ∃ wa, wa = wr.alloc (.cells #[.int .i64 p, .int .i64 (k0 : Int), .int .i64 (d : Int), .slice hh.1 fl hh.2] 67) := ⟨_, rfl⟩
    rw [← hwa] at HCL HNC HXA ⊢
    clear hwa q0 q1 q2 q3
    refine HCL.out.mono ?_
    rintro e w2 ⟨a2, l2, c2, rfl, ho2, hx2⟩
    have HO2 : Hid (OwnI w2 wa.heap.size a2 l2 c2 (iterL f R (i + 1)).flatten) := ho2
    have HX2 := hidP (HXA.out.trans hx2)
    have q6 := HNC.out w2 hx2
    have HL2 := hidP HO2.out.len
    have hke : (f (iterL f R i)).length = (iterL f R (i + 1)).length := rfl
    rw [hke]
    have hs6 : wr.heap.size < w2.heap.size := World.block_lt_of_cell? w2 _ q6
    have HOL := hidP (HO.out.below HX2.out)
    clear ho2 hx2 HCL hke
    have HMX : Hid (mxOf p d (iterL f R (i + 1)) = ⟨p, (iterL f R (i + 1)).length, d, (iterL f R (i + 1)).flatten⟩) := rfl
    generalize hk1 : (iterL f R (i + 1)).length = k1 at *
    have HK1 := hidP hk1
    clear hk1
    by_cases him : i < m
    · have hne := HN1.out him
      have hb : ((k1 : Int) == (k0 : Int)) = false := by simp; omega
      clear hne
      have hx3 := (Ext.alloc w2 (.cells #[.int .i64 p, .int .i64 (k1 : Int), .int .i64 (d : Int), .slice a2 l2 c2] 67)).trans (Ext.alloc _ (.cells #[.int .i64 p, .int .i64 (k1 : Int), .int .i64 (d : Int), .slice a2 l2 c2] 67))
      have HOL3 := hidP (HOL.out.below hx3)
      have HX3 := hidP ((HX.out.trans HX2.out).trans hx3)
      have HOI3 : Hid (OwnI ((w2.alloc (.cells #[.int .i64 p, .int .i64 (k1 : Int), .int .i64 (d : Int), .slice a2 l2 c2] 67)).alloc (.cells #[.int .i64 p, .int .i64 (k1 : Int), .int .i64 (d : Int), .slice a2 l2 c2] 67)) B a2 (matK.ints (mxOf p d (iterL f R (i + 1)))).length c2 (matK.ints (mxOf p d (iterL f R (i + 1))))) := by
        show OwnI _ B a2 (iterL f R (i + 1)).flatten.length c2 (iterL f R (i + 1)).flatten
        rw [HL2.out]
        exact (HO2.out.below hx3).base (Nat.le_trans hB (Nat.le_trans HX.out.size HXA.out.size))
      have HCe : Hid (∀ q, q < matK.size → ((w2.alloc (.cells #[.int .i64 p, .int .i64 (k1 : Int), .int .i64 (d : Int), .slice a2 l2 c2] 67)).alloc (.cells #[.int .i64 p, .int .i64 (k1 : Int), .int .i64 (d : Int), .slice a2 l2 c2] 67)).cell? ⟨w2.heap.size + 1, q, none⟩ = (matK.cells a2 c2 (mxOf p d (iterL f R (i + 1))))[q]?) := fun q hq => by
        rw [cell_top _ _ _ _ _ (by simp)]
        show _ = ([Value.int .i64 p, .int .i64 ((iterL f R (i + 1)).length : Int), .int .i64 (d : Int), .slice a2 (iterL f R (i + 1)).flatten.length c2])[q]?
        rw [HK1.out, HL2.out]
        simp
      have HAp : Hid (∀ q, q < i + 1 → Apart (hv.getD q (none, 0)).1 a2) := fun q hq b o b' o' e e' => by
        have := HO.out.lt q hq b o e
        have := (HO2.out.at_base b' o' e').1
        have := HXA.out.size
        omega
      have HFa : Hid (Apart (some ⟨g, 0, none⟩) a2) := fun b o b' o' e e' => by
        have := HO.out.olt b o e
        have := (HO2.out.at_base b' o' e').1
        have := HXA.out.size
        omega
      clear hx3
      go_wp2_with (at_builtin; refine wpList_append_elem2 matK 64 (.agg #[.int .i64 0, .int .i64 0, .int .i64 0, .slice none 0 0]) 48 rfl (.tmp 25) (.tmp 27) rfl Try.underlying64 Try.info67 rfl (by omega) B _ (some ⟨g, 0, none⟩) (i + 1) cv hv _ rfl HOL3.out (w2.heap.size + 1) 1 (a2, c2) (mxOf p d (iterL f R (i + 1))) rfl HCe.out HOI3.out HAp.out HFa.out (by omega) (Nat.le_trans hB HX3.out.size) ?_; intro a3 c3 w3 ho3 hg3 hn3; have HO3 := hidP ho3; have HG3 := hidP hg3; have HN3 := hidP hn3; clear ho3 hg3 hn3)
      have HA3 : Hid (∀ b o, a3 = some ⟨b, o, none⟩ → w.heap.size ≤ b) := fun b o e => by
        rcases HN3.out with rfl | hn
        · exact HA.out b o e
        · have := hn b o e; have := HX3.out.size; omega
      have HX4 : Hid (Ext w w3) := Below.grown HX3.out HG3.out HX3.out.size fun k hk => by
        simp [Value.ownBlock] at hk
        subst hk
        exact HA.out g 0 rfl
      go_roundw
      case rel => exact ⟨i + 1, a3, c3, hv ++ [(a2, c2)], by omega, rfl, by rw [HSer.out]; exact HO3, HX4, HA3⟩
      case measure => simp; omega
    · obtain rfl : i = m := by omega
      have hq := HQ1.out rfl
      subst hq
      have HXF := hidP ((HX.out.trans HX2.out).trans (Ext.alloc w2 (.cells #[.int .i64 p, .int .i64 (k1 : Int), .int .i64 (d : Int), .slice a2 l2 c2] 67)))
      have HOF := hidP (HOL.out.below (Ext.alloc w2 (.cells #[.int .i64 p, .int .i64 (k1 : Int), .int .i64 (d : Int), .slice a2 l2 c2] 67)))
      go_wp2
      go_ret
      exact ⟨_, _, _, rfl, HOF.out.weaken (Nat.le_refl _) (Nat.le_trans HX2.out.size (by simp)), HXF.out⟩
end Go.Proofs.Ythbdcclglopkiaa
