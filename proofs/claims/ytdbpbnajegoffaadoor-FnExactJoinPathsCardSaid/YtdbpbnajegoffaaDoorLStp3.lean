/-
  The law's own marks in slices of steps; what a change within bounds leaves.
-/
import Derived.Test.YtdbpbnajegoffaaDoorLStp2
namespace Go.Proofs.YtdbpbnajegoffaaDoor
open Go.RowKit

/-- w' is w but for new blocks and for blocks from B on below U -/
structure UpdB (w w' : World) (B U : Nat) : Prop where
  os : w'.os = w.os
  tape : w'.tape = w.tape
  output : w'.output = w.output
  size : w.heap.size ≤ w'.heap.size
  other : ∀ k, k < w.heap.size → (k < B ∨ U ≤ k) → w'.heap[k]? = w.heap[k]?
theorem UpdB.refl (w : World) (B U : Nat) : UpdB w w B U := ⟨rfl, rfl, rfl, Nat.le_refl _, fun _ _ _ => rfl⟩
theorem UpdB.trans {w w' w'' : World} {B U : Nat} (h : UpdB w w' B U) (k : UpdB w' w'' B U) : UpdB w w'' B U :=
  ⟨k.os.trans h.os, k.tape.trans h.tape, k.output.trans h.output, Nat.le_trans h.size k.size, fun j hj hb => (k.other j (Nat.lt_of_lt_of_le hj h.size) hb).trans (h.other j hj hb)⟩
theorem UpdB.wide {w w' : World} {B U B' U' : Nat} (h : UpdB w w' B U) (hB : B' ≤ B) (hU : U ≤ U') : UpdB w w' B' U' :=
  ⟨h.os, h.tape, h.output, h.size, fun j hj hb => h.other j hj (by omega)⟩
theorem Ext.updB {w w' : World} (h : Ext w w') (B U : Nat) : UpdB w w' B U := ⟨h.os, h.tape, h.output, h.size, fun j hj _ => h.block j hj⟩
theorem UpdI.updB {w w' : World} {a : Option Addr} {n B U : Nat} {ys : List Int} (h : UpdI w w' a n ys) (ha : ∀ b o, a = some ⟨b, o, none⟩ → B ≤ b ∧ b < U) : UpdB w w' B U :=
  ⟨h.os, h.tape, h.output, h.size, fun j hj hb => h.other j hj fun b o e _ => by have := ha b o e; omega⟩
theorem UpdB.setCell {w w' : World} {B U : Nat} (h : UpdB w w' B U) (b i : Nat) (v : Value) (hb : B ≤ b ∧ b < U) : UpdB w (w'.setCell ⟨b, i, none⟩ v) B U :=
  ⟨h.os, h.tape, h.output, by simpa [World.setCell] using h.size, fun j hj hb' => by
    rw [Below.heap_setCell _ _ _ _ (show j ≠ b by omega)]
    exact h.other j hj hb'⟩
theorem UpdB.below {w0 w w' : World} {N B U : Nat} (h : UpdB w w' B U) (hb : Below N w0 w) (hN : N ≤ w.heap.size) (hB : N ≤ B) : Below N w0 w' :=
  hb.trans ⟨h.os, h.tape, h.output, h.size, fun k hk => h.other k (by omega) (.inl (by omega))⟩
theorem OwnI.updB {w w' : World} {B' B U n c : Nat} {a : Option Addr} {xs : List Int} (h : OwnI w B' a n c xs) (hu : UpdB w w' B U) (ha : ∀ b o, a = some ⟨b, o, none⟩ → b < B ∨ U ≤ b) : OwnI w' B' a n c xs := by
  refine ⟨h.row.1, ?_⟩
  rcases h.row.2 with h2 | ⟨g, cap, cur, he, hB, hg, r⟩
  · exact .inl h2
  · refine .inr ⟨g, cap, cur, he, hB, ?_, r⟩
    simp only [Value.slice.injEq] at he
    rw [hu.other g (Array.getElem?_eq_some_iff.1 hg).1 (ha g 0 he.1)]
    exact hg
theorem OwnK.updB {α : Type} {K : Knd α} {w w' : World} {B' U' B U n c : Nat} {a : Option Addr} {hs : List Hdr} {xs : List α} (h : OwnK K w B' U' a n c hs xs) (hu : UpdB w w' B U) (ho : ∀ b o, a = some ⟨b, o, none⟩ → b < B ∨ U ≤ b)
    (hi : ∀ i, i < n → ∀ b o, (hs.getD i (none, 0)).1 = some ⟨b, o, none⟩ → b < B ∨ U ≤ b) : OwnK K w' B' U' a n c hs xs := by
  refine ⟨⟨h.row.1, ?_⟩, h.hl, h.xl, fun i hin => (h.each i hin).updB hu (hi i hin), h.apart, h.lt, h.olt⟩
  rcases h.row.2 with h2 | ⟨g, cap, cur, he, hB, hg, r⟩
  · exact .inl h2
  · refine .inr ⟨g, cap, cur, he, hB, ?_, r⟩
    simp only [Value.slice.injEq] at he
    rw [hu.other g (Array.getElem?_eq_some_iff.1 hg).1 (ho g 0 he.1)]
    exact hg
theorem OwnK.updB_lo {α : Type} {K : Knd α} {w w' : World} {B' U' B U n c : Nat} {a : Option Addr} {hs : List Hdr} {xs : List α} (h : OwnK K w B' U' a n c hs xs) (hu : UpdB w w' B U) (hU : U' ≤ B) : OwnK K w' B' U' a n c hs xs :=
  h.updB hu (fun b o e => .inl (Nat.lt_of_lt_of_le (h.olt b o e) hU)) (fun i hi b o e => .inl (Nat.lt_of_lt_of_le (h.lt i hi b o e) hU))
theorem OwnK.updB_hi {α : Type} {K : Knd α} {w w' : World} {B' U' B U n c : Nat} {a : Option Addr} {hs : List Hdr} {xs : List α} (h : OwnK K w B' U' a n c hs xs) (hu : UpdB w w' B U) (hB : U ≤ B') : OwnK K w' B' U' a n c hs xs :=
  h.updB hu (fun b o e => .inr (Nat.le_trans hB (h.base_lt b o e).1)) (fun i hi b o e => .inr (Nat.le_trans hB ((h.each i hi).at_base b o e).1))

/-- what a place holds once it is marked -/
def MarkedAt (k0 : Int) (us xs : List Stp) (j : Nat) : Prop := xs.getD j ([], 0) = (upFrom (k0 + mkAt us j) (us.getD j ([], 0)).1.length, k0 + mkAt us j + (us.getD j ([], 0)).1.length)

set_option maxHeartbeats 2000000 in
theorem markStepS_any (B U : Nat) (a : Option Addr) (n c : Nat) (hs : List Hdr) (us : List Stp) (k0 : Int) (w : World) (h : OwnK stepK w B U a n c hs us) (hn : mkAt us n ≤ 10000000) (hk0 : 0 ≤ k0) (hk1 : k0 ≤ 10000000000) :
    Calls Tryd.prog 24 #[.slice a n c, .int .i64 k0] w fun e w' => e = .returned (.int .i64 (k0 + mkAt us n)) ∧ ∃ xs, OwnK stepK w' B U a n c hs xs ∧ Hid (∀ j, j < n → MarkedAt k0 us xs j) ∧ UpdB w w' B U := by
  have H0 := hidP h
  clear h
  have hnm : n ≤ 10000000 := Nat.le_trans (mkAt_len us n) hn
  go_enter Tryd.func24, Tryd.ntmps24
  go_wp2
  go_loopw [1, 5] (fun kk i wr => ∃ (k : Nat) (m : Int) (xs : List Stp), k ≤ n ∧ 0 ≤ m ∧ m ≤ 20000000000 ∧ i = .int .i64 k ∧ kk = .int .i64 m ∧ Hid (m = k0 + mkAt us k) ∧ Hid (OwnK stepK wr B U a n c hs xs) ∧ Hid (∀ j, j < k → MarkedAt k0 us xs j) ∧ Hid (∀ j, k ≤ j → j < n → xs.getD j ([], 0) = us.getD j ([], 0)) ∧ Hid (UpdB w wr B U)) (fun _ i _ => n - (intOf i).toNat)
  case atStart => exact ⟨0, k0, us, Nat.zero_le _, hk0, by omega, rfl, rfl, by show _ = _; simp [mkAt], H0, fun j hj => absurd hj (Nat.not_lt_zero _), fun j _ _ => rfl, UpdB.refl _ _ _⟩
  case round =>
    obtain ⟨k, m, xs, hk, hm0, hm1, rfl, rfl, Hm, HO, HJ, HR, HU⟩ := hrel
    by_cases hlt : k < n
    · obtain ⟨g, aw, cw, rfl, hh, c0, c1, f0, f1, hI⟩ := HO.out.stepCell k hlt
      have hxk : xs.getD k ([], 0) = us.getD k ([], 0) := HR.out k (Nat.le_refl _) hlt
      have hwk : wayAt xs k = (us.getD k ([], 0)).1 := by unfold wayAt; rw [hxk]
      rw [hwk] at c0 hI
      have hb1 := mkAt_le us (show k + 1 ≤ n by omega)
      have hs1 : mkAt us (k + 1) = mkAt us k + ((us.getD k ([], 0)).1.length + 1) := rfl
      have Hs1 := hidP hs1
      have hme := Hm.out
      obtain ⟨V, hV⟩ : ∃ V, V = us.getD k ([], 0) := ⟨_, rfl⟩
      rw [← hV] at c0 hI hs1 hxk Hs1
      have hVl : V.1.length ≤ 10000000 := by omega
      have hm2 : m + V.1.length ≤ 10010000000 := by omega
      have HG := hidP (markIntS_any aw V.1.length cw m V.1 wr hI.ints hI.unfrozen (by omega) (by omega) (by omega))
      have HB : Hid (∀ b o, aw = some ⟨b, o, none⟩ → B ≤ b ∧ b < U) := fun b o e => ⟨(hI.at_base b o e).1, HO.out.lt k hlt b o (by rw [hh]; exact e)⟩
      have HB2 : Hid (B ≤ g ∧ g < U) := ⟨(HO.out.base_lt g 0 rfl).1, HO.out.olt g 0 rfl⟩
      have HP : Hid (∀ w1, UpdI wr w1 aw V.1.length (upFrom m V.1.length) →
          (∃ v, w1.cell? ⟨g, k * 2 + 1, none⟩ = some v) ∧ w1.frozen? ⟨g, k * 2 + 1, none⟩ = false ∧
          OwnK stepK (w1.setCell ⟨g, k * 2 + 1, none⟩ (.int .i64 (m + V.1.length))) B U (some ⟨g, 0, none⟩) n c hs (xs.set k (upFrom m V.1.length, m + V.1.length)) ∧ ((∃ aw2 cw2, w1.cell? ⟨g, k * 2, none⟩ = some (.slice aw2 V.1.length cw2)))) := by
        show ∀ w1, _
        intro w1 hu
        have e1 : (hs.getD k (none, 0)).1 = aw := by rw [hh]
        have e2 : (stepK.ints (xs.getD k stepK.dft)).length = V.1.length := by
          show (xs.getD k ([], 0)).1.length = _
          rw [hxk]
        have h1 := HO.out.upd (w' := w1) k hlt (ys := upFrom m V.1.length) (by rw [e1, e2]; exact hu)
        obtain ⟨g', aw', cw', e', hh', d0, d1, _, y1, _⟩ := h1.stepCell k hlt
        simp only [Option.some.injEq, Addr.mk.injEq, and_true] at e'
        subst e'
        have hw2 : wayAt (xs.set k (stepK.put (xs.getD k stepK.dft) (upFrom m V.1.length))) k = upFrom m V.1.length := by
          unfold wayAt
          rw [OwnK.getD_set _ _ _ _ _ (by rw [HO.out.xl]; exact hlt), if_pos rfl]
          rfl
        refine ⟨⟨_, d1⟩, y1, ?_, ⟨aw', cw', by rw [d0, hw2, upFrom_length]⟩⟩
        have h2 := h1.stored k 1 hlt (by decide) (.int .i64 (m + V.1.length)) (upFrom m V.1.length, m + V.1.length) (by
          rw [OwnK.getD_set _ _ _ _ _ (by rw [HO.out.xl]; exact hlt), if_pos rfl]; rfl) (by
          rw [OwnK.getD_set _ _ _ _ _ (by rw [HO.out.xl]; exact hlt), if_pos rfl]; rfl) (g := g) rfl
        rw [set_set_same] at h2
        exact h2
      have HM2 : Hid (∀ j, j < k + 1 → MarkedAt k0 us (xs.set k (upFrom m V.1.length, m + V.1.length)) j) := by
        show ∀ j, _
        intro j hj
        unfold MarkedAt
        rw [OwnK.getD_set _ _ _ _ _ (by rw [HO.out.xl]; exact hlt)]
        by_cases e : k = j
        · subst e
          rw [if_pos rfl, ← hV, hme]
        · rw [if_neg e]
          exact HJ.out j (by omega)
      have HR2 : Hid (∀ j, k + 1 ≤ j → j < n → (xs.set k (upFrom m V.1.length, m + V.1.length)).getD j ([], 0) = us.getD j ([], 0)) := by
        show ∀ j, _
        intro j hj hjn
        rw [OwnK.getD_set _ _ _ _ _ (by rw [HO.out.xl]; exact hlt), if_neg (by omega)]
        exact HR.out j (by omega) hjn
      have Hm2 : Hid (m + V.1.length + 1 = k0 + mkAt us (k + 1)) := by
        show _ = _
        rw [hs1, hme]
        omega
      clear hI hxk hwk hV hh hs1 hme hb1 Hs1 Hm HJ HR f0 f1 c1
      go_wp2_with fail
      refine HG.out.mono ?_
      rintro e w1 ⟨rfl, hu⟩
      obtain ⟨⟨v1, d1⟩, y1, ho, _⟩ := HP.out w1 hu
      have HU2 := hidP ((HU.out.trans (hu.updB HB.out)).setCell g (k * 2 + 1) (.int .i64 (m + V.1.length)) HB2.out)
      have HO2 := hidP ho
      clear ho hu HP HG c0
      go_wp2
      go_roundw
      case rel => exact ⟨k + 1, m + V.1.length + 1, _, by omega, by omega, by omega, by go_num, by go_num, Hm2, HO2, HM2, HR2, HU2⟩
      case measure => simp [intOf]; omega
    · obtain rfl : k = n := by omega
      have hme := Hm.out
      go_wp2
      go_ret
      exact ⟨ret_int hme, xs, HO.out, HJ, HU.out⟩
set_option maxHeartbeats 2000000 in
theorem heldStepS_any (a : Option Addr) (n c : Nat) (us xs : List Stp) (k0 : Int) (w : World) (h : TermsAt w a n xs) (hM : ∀ j, j < n → MarkedAt k0 us xs j) (hn : mkAt us n ≤ 10000000) (hk0 : 0 ≤ k0) (hk1 : k0 ≤ 10000000000) :
    Calls Tryd.prog 25 #[.slice a n c, .int .i64 k0] w fun e w' => e = .returned (.int .i64 (k0 + mkAt us n)) ∧ Ext w w' := by
  have G := hidP h
  have HM := hidP hM
  clear h hM
  have hnm : n ≤ 10000000 := Nat.le_trans (mkAt_len us n) hn
  go_enter Tryd.func25, Tryd.ntmps25
  go_wp2
  go_loopw [1, 5] (fun kk i wr => ∃ (k : Nat) (m : Int), k ≤ n ∧ 0 ≤ m ∧ m ≤ 20000000000 ∧ i = .int .i64 k ∧ kk = .int .i64 m ∧ Hid (m = k0 + mkAt us k) ∧ Hid (Ext w wr)) (fun _ i _ => n - (intOf i).toNat)
  case atStart => exact ⟨0, k0, Nat.zero_le _, hk0, by omega, rfl, rfl, by show _ = _; simp [mkAt], Ext.refl _⟩
  case round =>
    obtain ⟨k, m, hk, hm0, hm1, rfl, rfl, Hm, HX⟩ := hrel
    by_cases hlt : k < n
    · obtain ⟨b, o, aw, cw, rfl, _⟩ := G.out.get k hlt
      obtain ⟨aw, cw, _, hq⟩ := G.out.keeps k hlt
      have hxk := HM.out k hlt
      unfold MarkedAt at hxk
      have hb1 := mkAt_le us (show k + 1 ≤ n by omega)
      have hs1 : mkAt us (k + 1) = mkAt us k + ((us.getD k ([], 0)).1.length + 1) := rfl
      have hme := Hm.out
      rw [← hme] at hxk
      obtain ⟨V, hV⟩ : ∃ V, V = us.getD k ([], 0) := ⟨_, rfl⟩
      rw [← hV] at hs1 hxk
      rw [hxk] at hq
      simp only [upFrom_length] at hq
      have hVl : V.1.length ≤ 10000000 := by omega
      have hm2 : m + V.1.length ≤ 10010000000 := by omega
      have hmn : ¬ (m + (V.1.length : Int) < 0) := by omega
      have hne : (m + (V.1.length : Int) != m + (V.1.length : Int)) = false := by simp
      have HQ := hidP (fun w' (hx : Ext wr w') => hq w' (HX.out.trans hx))
      have HG := hidP (fun w' (hx : Ext wr w') => heldIntS_any aw V.1.length cw m w' (HQ.out w' hx).2.2 (by omega) (by omega) (by omega))
      have Hm2 : Hid (m + V.1.length + 1 = k0 + mkAt us (k + 1)) := by
        show _ = _
        rw [hs1, hme]
        omega
      obtain ⟨q0, q1, _⟩ := HQ.out wr (Ext.refl _)
      clear hxk hV hs1 hme hb1 Hm hq q1
      go_wp2_with fail
      refine (HG.out _ (Ext.refl _)).mono ?_
      rintro e w1 ⟨rfl, q, rfl⟩
      obtain ⟨p0, p1, _⟩ := HQ.out (wr.drewN q) (Ext.drewN _ _)
      clear q0 p0
      go_wp2
      go_roundw
      case rel => exact ⟨k + 1, m + V.1.length + 1, by omega, by omega, by omega, by go_num, by go_num, Hm2, HX.out.trans (Ext.drewN _ _)⟩
      case measure => simp [intOf]; omega
    · obtain rfl : k = n := by omega
      have hme := Hm.out
      go_wp2
      go_ret
      exact ⟨ret_int hme, HX.out⟩
end Go.Proofs.YtdbpbnajegoffaaDoor
