/-
  FnExactPathsOf: the program's PathsOf returns what the reference's returns, in memory of its own, and leaves its arguments.
  No condition.
  FnExactPathsOf: the walk.
  How much a path holds.
  Arguments opened: Cartan matrices, sessions.
  The law's own copies of Cartan matrices.
  The law's own comparison of lists of paths, its marks in them, the marks read back.
  The program's PathsOf.
  The map by which the program knows the paths it has seen.
  Paths with the same text are the same. No program in sight.
  Maps from strings that a call makes: what lies at a key is told by a function; stores, lookups, the range over one.
  The text of a list of numbers tells the list: no two lists have one text.
  Counts of words in two maps of a call's own: the words by their text, their numbers by their text; ordered lists of words with numbers.
  The program's counts: two maps of words and numbers, a number added.
  Words: comparing lists of integers, by the library, the program and the reference.
  The text of a path, by which the program knows it.
  The program's FormatInt and FormatInts, by the library's Itoa and Join.
  The reference's FormatInt and FormatInts.
  The reference's PathsOf.
  Owned lists of paths under marks: what a change within bounds leaves. No walk.
  The tests of steepness of both sides, and what PathsOf gives. No program in sight.
  What PathsOf asks of weights and of ways.
  The law's own marks in slices of steps; what a change within bounds leaves.
  The law's own copies of slices of steps.
-/
import Derived.Test.YtfikkfbnlegflaaGreatDoorMh10
import Derived.Laws.IdiomStrings
import Derived.WalkSmall
import Derived.Lib.AppendIntMem
import Derived.Maps.RangeWalk
import Derived.Maps.OwnOps
import Derived.Test.YtfikkfbnlegflaaGreatDoorTie
import Derived.Test.YtfikkfbnlegflaaGreatDoorCards
import Derived.ProofKit
import Derived.OpenShut
import Derived.ChangeOld
import Derived.ChangeVars
import Derived.JoinedOf
import Derived.LaidLaws
import Derived.LaidHandle
import Derived.SevenTiedAt
import Derived.Deep.DeepLaidRun
import Derived.Shelf.Vars
import Derived.LaidMore
import Derived.Lay
import Derived.Stop.LaidErr
import Derived.Lib.LaidTab
namespace Go.Proofs.YtfikkfbnlegflaaGreatDoor
open Go.RowKit

theorem set_set_same {β : Type} (l : List β) (i : Nat) (x y : β) : (l.set i x).set i y = l.set i y := by simp
end Go.Proofs.YtfikkfbnlegflaaGreatDoor

namespace Go.Proofs.YtfikkfbnlegflaaGreatDoor
open Go.RowKit

/-- w' is w but for new blocks and for blocks from B on below U -/
structure UpdB (w w' : World) (B U : Nat) : Prop where
  os : w'.os = w.os
  tape : w'.tape = w.tape
  output : w'.output = w.output
  size : w.heap.size ≤ w'.heap.size
  other : ∀ k, k < w.heap.size → (k < B ∨ U ≤ k) → w'.heap[k]? = w.heap[k]?
theorem UpdB.refl (w : World) (B U : Nat) : UpdB w w B U := ⟨rfl, rfl, rfl, Nat.le_refl _, fun _ _ _ => rfl⟩
theorem UpdB.trans {w w' w'' : World} {B U : Nat} (h : UpdB w w' B U) (k : UpdB w' w'' B U) : UpdB w w'' B U :=
  ⟨k.os.trans h.os, k.tape.trans h.tape, k.output.trans h.output, Nat.le_trans h.size k.size, fun j hj hb => (k.other j (Nat.lt_of_lt_of_le hj h.size) hb).trans (h.other j hj hb)⟩
theorem UpdB.wide {w w' : World} {B U B' U' : Nat} (h : UpdB w w' B U) (hB : B' ≤ B) (hU : U ≤ U') : UpdB w w' B' U' :=
  ⟨h.os, h.tape, h.output, h.size, fun j hj hb => h.other j hj (by omega)⟩
theorem UpdI.updB {w w' : World} {a : Option Addr} {n B U : Nat} {ys : List Int} (h : UpdI w w' a n ys) (ha : ∀ b o, a = some ⟨b, o, none⟩ → B ≤ b ∧ b < U) : UpdB w w' B U :=
  ⟨h.os, h.tape, h.output, h.size, fun j hj hb => h.other j hj fun b o e _ => by have := ha b o e; omega⟩
theorem UpdB.setCell {w w' : World} {B U : Nat} (h : UpdB w w' B U) (b i : Nat) (v : Value) (hb : B ≤ b ∧ b < U) : UpdB w (w'.setCell ⟨b, i, none⟩ v) B U :=
  ⟨h.os, h.tape, h.output, by simpa [World.setCell] using h.size, fun j hj hb' => by
    rw [Below.heap_setCell _ _ _ _ (show j ≠ b by omega)]
    exact h.other j hj hb'⟩
theorem UpdB.below {w0 w w' : World} {N B U : Nat} (h : UpdB w w' B U) (hb : Below N w0 w) (hN : N ≤ w.heap.size) (hB : N ≤ B) : Below N w0 w' :=
  hb.trans ⟨h.os, h.tape, h.output, h.size, fun k hk => h.other k (by omega) (.inl (by omega))⟩
theorem OwnI.updB {w w' : World} {B' B U n c : Nat} {a : Option Addr} {xs : List Int} (h : OwnI w B' a n c xs) (hu : UpdB w w' B U) (ha : ∀ b o, a = some ⟨b, o, none⟩ → b < B ∨ U ≤ b) : OwnI w' B' a n c xs := by
  refine ⟨h.row.1, ?_⟩
  rcases h.row.2 with h2 | ⟨g, cap, cur, he, hB, hg, r⟩
  · exact .inl h2
  · refine .inr ⟨g, cap, cur, he, hB, ?_, r⟩
    simp only [Value.slice.injEq] at he
    rw [hu.other g (Array.getElem?_eq_some_iff.1 hg).1 (ha g 0 he.1)]
    exact hg
theorem OwnK.updB {α : Type} {K : Knd α} {w w' : World} {B' U' B U n c : Nat} {a : Option Addr} {hs : List Hdr} {xs : List α} (h : OwnK K w B' U' a n c hs xs) (hu : UpdB w w' B U) (ho : ∀ b o, a = some ⟨b, o, none⟩ → b < B ∨ U ≤ b)
    (hi : ∀ i, i < n → ∀ b o, (hs.getD i (none, 0)).1 = some ⟨b, o, none⟩ → b < B ∨ U ≤ b) : OwnK K w' B' U' a n c hs xs := by
  refine ⟨⟨h.row.1, ?_⟩, h.hl, h.xl, fun i hin => (h.each i hin).updB hu (hi i hin), h.apart, h.lt, h.olt⟩
  rcases h.row.2 with h2 | ⟨g, cap, cur, he, hB, hg, r⟩
  · exact .inl h2
  · refine .inr ⟨g, cap, cur, he, hB, ?_, r⟩
    simp only [Value.slice.injEq] at he
    rw [hu.other g (Array.getElem?_eq_some_iff.1 hg).1 (ho g 0 he.1)]
    exact hg
theorem OwnK.updB_lo {α : Type} {K : Knd α} {w w' : World} {B' U' B U n c : Nat} {a : Option Addr} {hs : List Hdr} {xs : List α} (h : OwnK K w B' U' a n c hs xs) (hu : UpdB w w' B U) (hU : U' ≤ B) : OwnK K w' B' U' a n c hs xs :=
  h.updB hu (fun b o e => .inl (Nat.lt_of_lt_of_le (h.olt b o e) hU)) (fun i hi b o e => .inl (Nat.lt_of_lt_of_le (h.lt i hi b o e) hU))
theorem OwnK.updB_hi {α : Type} {K : Knd α} {w w' : World} {B' U' B U n c : Nat} {a : Option Addr} {hs : List Hdr} {xs : List α} (h : OwnK K w B' U' a n c hs xs) (hu : UpdB w w' B U) (hB : U ≤ B') : OwnK K w' B' U' a n c hs xs :=
  h.updB hu (fun b o e => .inr (Nat.le_trans hB (h.base_lt b o e).1)) (fun i hi b o e => .inr (Nat.le_trans hB ((h.each i hi).at_base b o e).1))

/-- what a place holds once it is marked -/
def MarkedAt (k0 : Int) (us xs : List Stp) (j : Nat) : Prop := xs.getD j ([], 0) = (upFrom (k0 + mkAt us j) (us.getD j ([], 0)).1.length, k0 + mkAt us j + (us.getD j ([], 0)).1.length)

set_option maxHeartbeats 2000000 in
theorem markStepS_any (B U : Nat) (a : Option Addr) (n c : Nat) (hs : List Hdr) (us : List Stp) (k0 : Int) (w : World) (h : OwnK stepK w B U a n c hs us) (hn : mkAt us n ≤ 10000000) (hk0 : 0 ≤ k0) (hk1 : k0 ≤ 10000000000) :
    Calls Tryz.prog 20 #[.slice a n c, .int .i64 k0] w fun e w' => e = .returned (.int .i64 (k0 + mkAt us n)) ∧ ∃ xs, OwnK stepK w' B U a n c hs xs ∧ Hid (∀ j, j < n → MarkedAt k0 us xs j) ∧ UpdB w w' B U := by
  have H0 := hidP h
  clear h
  have hnm : n ≤ 10000000 := Nat.le_trans (mkAt_len us n) hn
  go_enter Tryz.func20, Tryz.ntmps20
  go_wp2
  go_loopw [1, 5] (fun kk i wr => ∃ (k : Nat) (m : Int) (xs : List Stp), k ≤ n ∧ 0 ≤ m ∧ m ≤ 20000000000 ∧ i = .int .i64 k ∧ kk = .int .i64 m ∧ Hid (m = k0 + mkAt us k) ∧ Hid (OwnK stepK wr B U a n c hs xs) ∧ Hid (∀ j, j < k → MarkedAt k0 us xs j) ∧ Hid (∀ j, k ≤ j → j < n → xs.getD j ([], 0) = us.getD j ([], 0)) ∧ Hid (UpdB w wr B U)) (fun _ i _ => n - (intOf i).toNat)
  case atStart => exact ⟨0, k0, us, Nat.zero_le _, hk0, by omega, rfl, rfl, by show _ = _; simp [mkAt], H0, fun j hj => absurd hj (Nat.not_lt_zero _), fun j _ _ => rfl, UpdB.refl _ _ _⟩
  case round =>
    obtain ⟨k, m, xs, hk, hm0, hm1, rfl, rfl, Hm, HO, HJ, HR, HU⟩ := hrel
    by_cases hlt : k < n
    · obtain ⟨g, aw, cw, rfl, hh, c0, c1, f0, f1, hI⟩ := HO.out.stepCell k hlt
      have hxk : xs.getD k ([], 0) = us.getD k ([], 0) := HR.out k (Nat.le_refl _) hlt
      have hwk : wayAt xs k = (us.getD k ([], 0)).1 := by unfold wayAt; rw [hxk]
      rw [hwk] at c0 hI
      have hb1 := mkAt_le us (show k + 1 ≤ n by omega)
      have hs1 : mkAt us (k + 1) = mkAt us k + ((us.getD k ([], 0)).1.length + 1) := rfl
      have Hs1 := hidP hs1
      have hme := Hm.out
      obtain ⟨V, hV⟩ : ∃ V, V = us.getD k ([], 0) := ⟨_, rfl⟩
      rw [← hV] at c0 hI hs1 hxk Hs1
      have hVl : V.1.length ≤ 10000000 := by omega
      have hm2 : m + V.1.length ≤ 10010000000 := by omega
      have HG := hidP (markIntS_any aw V.1.length cw m V.1 wr hI.ints hI.unfrozen (by omega) (by omega) (by omega))
      have HB : Hid (∀ b o, aw = some ⟨b, o, none⟩ → B ≤ b ∧ b < U) := fun b o e => ⟨(hI.at_base b o e).1, HO.out.lt k hlt b o (by rw [hh]; exact e)⟩
      have HB2 : Hid (B ≤ g ∧ g < U) := ⟨(HO.out.base_lt g 0 rfl).1, HO.out.olt g 0 rfl⟩
      have HP : Hid (∀ w1, UpdI wr w1 aw V.1.length (upFrom m V.1.length) →
          (∃ v, w1.cell? ⟨g, k * 2 + 1, none⟩ = some v) ∧ w1.frozen? ⟨g, k * 2 + 1, none⟩ = false ∧
          OwnK stepK (w1.setCell ⟨g, k * 2 + 1, none⟩ (.int .i64 (m + V.1.length))) B U (some ⟨g, 0, none⟩) n c hs (xs.set k (upFrom m V.1.length, m + V.1.length)) ∧ ((∃ aw2 cw2, w1.cell? ⟨g, k * 2, none⟩ = some (.slice aw2 V.1.length cw2)))) := by
        show ∀ w1, _
        intro w1 hu
        have e1 : (hs.getD k (none, 0)).1 = aw := by rw [hh]
        have e2 : (stepK.ints (xs.getD k stepK.dft)).length = V.1.length := by
          show (xs.getD k ([], 0)).1.length = _
          rw [hxk]
        have h1 := HO.out.upd (w' := w1) k hlt (ys := upFrom m V.1.length) (by rw [e1, e2]; exact hu)
        obtain ⟨g', aw', cw', e', hh', d0, d1, _, y1, _⟩ := h1.stepCell k hlt
        simp only [Option.some.injEq, Addr.mk.injEq, and_true] at e'
        subst e'
        have hw2 : wayAt (xs.set k (stepK.put (xs.getD k stepK.dft) (upFrom m V.1.length))) k = upFrom m V.1.length := by
          unfold wayAt
          rw [OwnK.getD_set _ _ _ _ _ (by rw [HO.out.xl]; exact hlt), if_pos rfl]
          rfl
        refine ⟨⟨_, d1⟩, y1, ?_, ⟨aw', cw', by rw [d0, hw2, upFrom_length]⟩⟩
        have h2 := h1.stored k 1 hlt (by decide) (.int .i64 (m + V.1.length)) (upFrom m V.1.length, m + V.1.length) (by
          rw [OwnK.getD_set _ _ _ _ _ (by rw [HO.out.xl]; exact hlt), if_pos rfl]; rfl) (by
          rw [OwnK.getD_set _ _ _ _ _ (by rw [HO.out.xl]; exact hlt), if_pos rfl]; rfl) (g := g) rfl
        rw [set_set_same] at h2
        exact h2
      have HM2 : Hid (∀ j, j < k + 1 → MarkedAt k0 us (xs.set k (upFrom m V.1.length, m + V.1.length)) j) := by
        show ∀ j, _
        intro j hj
        unfold MarkedAt
        rw [OwnK.getD_set _ _ _ _ _ (by rw [HO.out.xl]; exact hlt)]
        by_cases e : k = j
        · subst e
          rw [if_pos rfl, ← hV, hme]
        · rw [if_neg e]
          exact HJ.out j (by omega)
      have HR2 : Hid (∀ j, k + 1 ≤ j → j < n → (xs.set k (upFrom m V.1.length, m + V.1.length)).getD j ([], 0) = us.getD j ([], 0)) := by
        show ∀ j, _
        intro j hj hjn
        rw [OwnK.getD_set _ _ _ _ _ (by rw [HO.out.xl]; exact hlt), if_neg (by omega)]
        exact HR.out j (by omega) hjn
      have Hm2 : Hid (m + V.1.length + 1 = k0 + mkAt us (k + 1)) := by
        show _ = _
        rw [hs1, hme]
        omega
      clear hI hxk hwk hV hh hs1 hme hb1 Hs1 Hm HJ HR f0 f1 c1
      go_wp2_with fail
      refine HG.out.mono ?_
      rintro e w1 ⟨rfl, hu⟩
      obtain ⟨⟨v1, d1⟩, y1, ho, _⟩ := HP.out w1 hu
      have HU2 := hidP ((HU.out.trans (hu.updB HB.out)).setCell g (k * 2 + 1) (.int .i64 (m + V.1.length)) HB2.out)
      have HO2 := hidP ho
      clear ho hu HP HG c0
      go_wp2
      go_roundw
      case rel => exact ⟨k + 1, m + V.1.length + 1, _, by omega, by omega, by omega, by go_num, by go_num, Hm2, HO2, HM2, HR2, HU2⟩
      case measure => simp [intOf]; omega
    · obtain rfl : k = n := by omega
      have hme := Hm.out
      go_wp2
      go_ret
      exact ⟨ret_int hme, xs, HO.out, HJ, HU.out⟩
set_option maxHeartbeats 2000000 in
theorem heldStepS_any (a : Option Addr) (n c : Nat) (us xs : List Stp) (k0 : Int) (w : World) (h : TermsAt w a n xs) (hM : ∀ j, j < n → MarkedAt k0 us xs j) (hn : mkAt us n ≤ 10000000) (hk0 : 0 ≤ k0) (hk1 : k0 ≤ 10000000000) :
    Calls Tryz.prog 21 #[.slice a n c, .int .i64 k0] w fun e w' => e = .returned (.int .i64 (k0 + mkAt us n)) ∧ Ext w w' := by
  have G := hidP h
  have HM := hidP hM
  clear h hM
  have hnm : n ≤ 10000000 := Nat.le_trans (mkAt_len us n) hn
  go_enter Tryz.func21, Tryz.ntmps21
  go_wp2
  go_loopw [1, 5] (fun kk i wr => ∃ (k : Nat) (m : Int), k ≤ n ∧ 0 ≤ m ∧ m ≤ 20000000000 ∧ i = .int .i64 k ∧ kk = .int .i64 m ∧ Hid (m = k0 + mkAt us k) ∧ Hid (Ext w wr)) (fun _ i _ => n - (intOf i).toNat)
  case atStart => exact ⟨0, k0, Nat.zero_le _, hk0, by omega, rfl, rfl, by show _ = _; simp [mkAt], Ext.refl _⟩
  case round =>
    obtain ⟨k, m, hk, hm0, hm1, rfl, rfl, Hm, HX⟩ := hrel
    by_cases hlt : k < n
    · obtain ⟨b, o, aw, cw, rfl, _⟩ := G.out.get k hlt
      obtain ⟨aw, cw, _, hq⟩ := G.out.keeps k hlt
      have hxk := HM.out k hlt
      unfold MarkedAt at hxk
      have hb1 := mkAt_le us (show k + 1 ≤ n by omega)
      have hs1 : mkAt us (k + 1) = mkAt us k + ((us.getD k ([], 0)).1.length + 1) := rfl
      have hme := Hm.out
      rw [← hme] at hxk
      obtain ⟨V, hV⟩ : ∃ V, V = us.getD k ([], 0) := ⟨_, rfl⟩
      rw [← hV] at hs1 hxk
      rw [hxk] at hq
      simp only [upFrom_length] at hq
      have hVl : V.1.length ≤ 10000000 := by omega
      have hm2 : m + V.1.length ≤ 10010000000 := by omega
      have hmn : ¬ (m + (V.1.length : Int) < 0) := by omega
      have hne : (m + (V.1.length : Int) != m + (V.1.length : Int)) = false := by simp
      have HQ := hidP (fun w' (hx : Ext wr w') => hq w' (HX.out.trans hx))
      have HG := hidP (fun w' (hx : Ext wr w') => heldIntS_any aw V.1.length cw m w' (HQ.out w' hx).2.2 (by omega) (by omega) (by omega))
      have Hm2 : Hid (m + V.1.length + 1 = k0 + mkAt us (k + 1)) := by
        show _ = _
        rw [hs1, hme]
        omega
      obtain ⟨q0, q1, _⟩ := HQ.out wr (Ext.refl _)
      clear hxk hV hs1 hme hb1 Hm hq q1
      go_wp2_with fail
      refine (HG.out _ (Ext.refl _)).mono ?_
      rintro e w1 ⟨rfl, q, rfl⟩
      obtain ⟨p0, p1, _⟩ := HQ.out (wr.drewN q) (Ext.drewN _ _)
      clear q0 p0
      go_wp2
      go_roundw
      case rel => exact ⟨k + 1, m + V.1.length + 1, by omega, by omega, by omega, by go_num, by go_num, Hm2, HX.out.trans (Ext.drewN _ _)⟩
      case measure => simp [intOf]; omega
    · obtain rfl : k = n := by omega
      have hme := Hm.out
      go_wp2
      go_ret
      exact ⟨ret_int hme, HX.out⟩
end Go.Proofs.YtfikkfbnlegflaaGreatDoor

set_option linter.unusedVariables false
set_option linter.unusedSimpArgs false
namespace Go.Proofs.YtfikkfbnlegflaaGreatDoor
open Go.RowKit

theorem isHighest1_any (x : Int) (w : World) : Calls Tryz.prog 122 #[.int .i64 x] w fun e w' => e = .returned (.bool (!insB x 0 3)) ∧ w = w' := by
  go_enter Tryz.func122, Tryz.ntmps122
  go_wp2_with (go_at_call 57; refine (inside_any _ _ _ _).mono ?_; rintro e w' ⟨rfl, rfl⟩)
  go_ret
  exact ⟨rfl, rfl⟩
theorem callFunc_isHighest1 (args : Array Value) (w : World) : Sem.run Tryz.prog (callFunc 122 args) w = .ok (.enter 122 args) w := by
  kernel_rfl
set_option maxHeartbeats 1000000 in
theorem isHighest_any (r : Nat) (ta : Option Addr) (tn tc : Nat) (a : Option Addr) (n c : Nat) (xs : List Int) (w : World) (h : IntsAt w a n xs) (_hn : n ≤ 9223372036854775807) (hr : r ≤ 1000000) :
    Calls Tryz.prog 87 #[carV r ta tn tc, .slice a n c] w fun e w' => e = .returned (.bool (highB r xs)) ∧ Ext w w' := by
  have hX := Ext.alloc w (.cells #[.int .i64 r, .slice ta tn tc] 31)
  have HX := hidP hX
  have L := hidP h.len
  have HF : Hid (highB r xs = (decide (xs.length = r) && !(xs.any fun x => !insB x 0 3))) := by
    show _ = _
    unfold highB
    rw [List.all_eq_not_any_not]
  have HI := hidP (h.below hX)
  clear h hX
  by_cases hnr : n = r
  · have hne : ((n : Int) == (r : Int)) = true := by simp [hnr]
    have HC := hidP (containsFunc_any 122 #[] (fun x => !insB x 0 3) a n c xs _ HI.out (by omega) callFunc_isHighest1 (fun x => isHighest1_any x _))
    have HR : Hid (highB r xs = !(xs.any fun x => !insB x 0 3)) := by
      show _ = _
      rw [HF.out, decide_eq_true (by have := L.out; omega), Bool.true_and]
    generalize (xs.any fun x => !insB x 0 3) = B at *
    clear hnr
    go_enter Tryz.func87, Tryz.ntmps87
    go_wp2_with (go_at_call 116; refine HC.out.mono ?_; rintro e w' ⟨rfl, rfl⟩)
    go_ret
    exact ⟨ret_bool HR.out.symm, HX.out⟩
  · have hne : ((n : Int) == (r : Int)) = false := beq_eq_false_iff_ne.2 (by omega)
    have HR : Hid (highB r xs = false) := by
      show _ = _
      rw [HF.out, decide_eq_false (by have := L.out; omega), Bool.false_and]
    go_enter Tryz.func87, Tryz.ntmps87
    go_wp2
    go_ret
    exact ⟨ret_bool HR.out.symm, HX.out⟩
theorem maxI_any (a : Option Addr) (n c : Nat) (xs : List Int) (w : World) (h : IntsAt w a n xs) (h0 : 0 < n) (hn : n ≤ 1000000000000) :
    Calls Tryz.prog 89 #[.slice a n c] w fun e w' => e = .returned (.int .i64 (Lib.maxOf xs)) ∧ w' = w := by
  have hl := h.len
  obtain ⟨b, o, rfl, _⟩ := h.get 0 h0
  refine (Tryz.slices_Max_int b o n c xs w h0 (by omega) (by omega) h.cells).mono fun e w' ⟨he, hw⟩ => ⟨?_, hw⟩
  rw [he, List.take_of_length_le (by omega)]
end Go.Proofs.YtfikkfbnlegflaaGreatDoor

namespace Go.Proofs.YtfikkfbnlegflaaGreatDoor
open Go.RowKit

theorem foldl_max_ge : ∀ (l : List Int) (a : Int), a ≤ l.foldl max a ∧ ∀ x ∈ l, x ≤ l.foldl max a
  | [], a => ⟨Int.le_refl _, fun x h => by cases h⟩
  | y :: l, a => by
    obtain ⟨h1, h2⟩ := foldl_max_ge l (max a y)
    simp only [List.foldl_cons]
    refine ⟨Int.le_trans (Int.le_max_left a y) h1, fun x hx => ?_⟩
    rcases List.mem_cons.1 hx with h | h
    · subst h
      exact Int.le_trans (Int.le_max_right a x) h1
    · exact h2 x h
theorem foldl_max_le {b : Int} : ∀ (l : List Int) (a : Int), a ≤ b → (∀ x ∈ l, x ≤ b) → l.foldl max a ≤ b
  | [], a, h, _ => h
  | y :: l, a, h, hl => by
    simp only [List.foldl_cons]
    exact foldl_max_le l _ (Int.max_le.2 ⟨h, hl y (by simp)⟩) fun x hx => hl x (by simp [hx])
theorem maxOf_le {b : Int} {l : List Int} (h0 : l ≠ []) (h : ∀ x ∈ l, x ≤ b) : Lib.maxOf l ≤ b := by
  unfold Lib.maxOf
  cases l with
  | nil => exact absurd rfl h0
  | cons y l => exact foldl_max_le _ _ (h y (by simp)) h
theorem le_maxOf {l : List Int} {x : Int} (h : x ∈ l) : x ≤ Lib.maxOf l := (foldl_max_ge l _).2 x h
theorem getDI_mem {l : List Int} {j : Nat} (h : j < l.length) : l.getD j 0 ∈ l := by
  rw [List.getD_eq_getElem?_getD, List.getElem?_eq_getElem h]
  exact List.getElem_mem h
theorem getDI_of {l : List Int} {x : Int} (h : x ∈ l) : ∃ j, j < l.length ∧ l.getD j 0 = x := by
  obtain ⟨j, hj, rfl⟩ := List.mem_iff_getElem.1 h
  exact ⟨j, hj, by rw [List.getD_eq_getElem?_getD, List.getElem?_eq_getElem hj]; rfl⟩
/-- the program's test -/
def bigB (q : List Stp) : Bool := q.any fun s => decide (12 < Lib.maxOf s.1)
theorem steepT_steep (r : Nat) : SteepT r steepB := by
  refine ⟨fun q h s hs j _ => ?_, fun q h => ?_⟩
  · by_cases hj : j < s.1.length
    · rw [Bool.eq_false_iff] at h
      apply Classical.byContradiction
      intro h1
      apply h
      simp only [steepB, steepW, List.any_eq_true, Bool.not_eq_true']
      exact ⟨s, hs, _, getDI_mem hj, insB_false.2 (by omega)⟩
    · rw [List.getD_eq_getElem?_getD, List.getElem?_eq_none (by omega)]
      decide
  · rw [Bool.eq_false_iff]
    intro h1
    simp only [steepB, steepW, List.any_eq_true, Bool.not_eq_true'] at h1
    obtain ⟨s, hs, x, hx, h2⟩ := h1
    obtain ⟨hl, hb⟩ := h s hs
    obtain ⟨j, hj, rfl⟩ := getDI_of hx
    exact insB_false.1 h2 (hb j (by omega))
theorem steepT_big {r : Nat} (h1 : 1 ≤ r) : SteepT r bigB := by
  refine ⟨fun q h s hs j _ => ?_, fun q h => ?_⟩
  · by_cases hj : j < s.1.length
    · rw [Bool.eq_false_iff] at h
      apply Classical.byContradiction
      intro h1
      apply h
      simp only [bigB, List.any_eq_true, decide_eq_true_eq]
      have := le_maxOf (getDI_mem hj)
      exact ⟨s, hs, by omega⟩
    · rw [List.getD_eq_getElem?_getD, List.getElem?_eq_none (by omega)]
      decide
  · rw [Bool.eq_false_iff]
    intro h2
    simp only [bigB, List.any_eq_true, decide_eq_true_eq] at h2
    obtain ⟨s, hs, h3⟩ := h2
    obtain ⟨hl, hb⟩ := h s hs
    have h4 : s.1 ≠ [] := fun e => by rw [e] at hl; simp at hl; omega
    have := maxOf_le (b := 12) h4 fun x hx => by
      obtain ⟨j, hj, rfl⟩ := getDI_of hx
      exact (hb j (by omega)).2
    omega
theorem highB_iff {r : Nat} {w : List Int} (h : highB r w = true) : w.length = r ∧ ∀ j, j < r → 0 ≤ w.getD j 0 ∧ w.getD j 0 ≤ 3 := by
  simp only [highB, Bool.and_eq_true, decide_eq_true_eq, List.all_eq_true, insB_true] at h
  exact ⟨h.1, fun j hj => h.2 _ (getDI_mem (by omega))⟩
theorem highW_of {r : Nat} (h4 : r ≤ 4) {w : List Int} (h : highB r w = true) : HighW r w := ⟨(highB_iff h).1, h4, (highB_iff h).2⟩
theorem wayB_high {r : Nat} {w : List Int} (h : highB r w = true) : wayB r w = true := by
  obtain ⟨h1, h2⟩ := highB_iff h
  exact wayB_iff.2 ⟨h1, fun j hj => by have := h2 j hj; omega⟩
theorem paths_same {r : Nat} {ts w : List Int} (hT : typeB r ts = true) (hh : highB r w = true) : explF r ts bigB w = explF r ts steepB w := by
  have h1 := typeB_rank hT
  exact expl_same (cor_of_type hT) (highW_of (by omega) hh) (steepT_big (by omega)) (steepT_steep r)
/-- what PathsOf gives -/
def pathsR (r : Int) (ts w : List Int) : Option (List (List Stp)) := if typeB r ts && highB r.toNat w then explF r.toNat ts steepB w else none
end Go.Proofs.YtfikkfbnlegflaaGreatDoor

namespace Go.Proofs.YtfikkfbnlegflaaGreatDoor
open Go.RowKit

/-- how many marks the first k paths hold -/
def mkL (L : List (List Stp)) : Nat → Nat
  | 0 => 0
  | k + 1 => mkL L k + mkAt (L.getD k []) (L.getD k []).length
theorem mkL_mono (L : List (List Stp)) : ∀ (d k : Nat), mkL L k ≤ mkL L (k + d)
  | 0, k => Nat.le_refl _
  | d + 1, k => Nat.le_trans (mkL_mono L d k) (by show _ ≤ mkL L (k + d) + _; omega)
theorem mkL_le (L : List (List Stp)) {j k : Nat} (h : j ≤ k) : mkL L j ≤ mkL L k := by
  have := mkL_mono L (k - j) j
  rwa [show j + (k - j) = k by omega] at this
theorem mkAt_rows {us : List Stp} {m : Nat} (h : ∀ i, i < us.length → (us.getD i ([], 0)).1.length ≤ m) : ∀ k, k ≤ us.length → mkAt us k ≤ k * (m + 1)
  | 0, _ => by simp [mkAt]
  | k + 1, hk => by
    have h1 := mkAt_rows h k (by omega)
    have h2 := h k (by omega)
    show mkAt us k + ((us.getD k ([], 0)).1.length + 1) ≤ _
    rw [Nat.add_mul, Nat.one_mul]
    omega
theorem mkL_bound {L : List (List Stp)} {m : Nat} (h : ∀ p ∈ L, mkAt p p.length ≤ m) : ∀ k, k ≤ L.length → mkL L k ≤ k * m
  | 0, _ => by simp [mkL]
  | k + 1, hk => by
    have h1 := mkL_bound h k (by omega)
    have h2 := h (L.getD k []) (by rw [List.getD_eq_getElem?_getD, List.getElem?_eq_getElem (by omega : k < L.length)]; exact List.getElem_mem _)
    show mkL L k + mkAt (L.getD k []) (L.getD k []).length ≤ _
    rw [Nat.add_mul, Nat.one_mul]
    omega
/-- the search keeps to paths, and to 400 of them -/
theorem expl_paths {r : Nat} {ts : List Int} {bad : List Stp → Bool} : ∀ (f k i : Nat) (out L : List (List Stp)), (∀ p ∈ out, pathB r p = true) → out.length ≤ 400 → explGo r ts bad f k i out = some (some L) → (∀ p ∈ L, pathB r p = true) ∧ L.length ≤ 400
  | 0, _, _, _, _, _, _, h => by cases h
  | f + 1, k, i, out, L, ho, hl, h => by
    rw [explGo] at h
    by_cases h1 : k < out.length
    · rw [if_pos h1] at h
      by_cases h2 : i < r
      · rw [if_pos h2] at h
        cases hq : lowF r ts i (out.getD k []) with
        | none =>
          rw [hq] at h
          exact expl_paths f k (i + 1) out L ho hl h
        | some q =>
          rw [hq] at h
          simp only at h
          split at h
          · exact expl_paths f k (i + 1) out L ho hl h
          · split at h
            · cases h
            · rename_i h3 h4
              simp only [Bool.or_eq_true, not_or, Bool.not_eq_true, beq_eq_false_iff_ne, ne_eq] at h4
              refine expl_paths f k (i + 1) (out ++ [q]) L (fun p hp => ?_) (by simp; omega) h
              rcases List.mem_append.1 hp with h6 | h6
              · exact ho p h6
              · simp only [List.mem_singleton] at h6
                subst h6
                exact lowS_path hq
      · rw [if_neg h2] at h
        exact expl_paths f (k + 1) 0 out L ho hl h
    · rw [if_neg h1] at h
      cases h
      exact ⟨ho, hl⟩
/-- an owned list of paths, or none, within bounds -/
structure OwnL (w : World) (B U : Nat) (a : Option Addr) (n c : Nat) (ps : List PEl) : Prop where
  own : (a = none ∧ n = 0 ∧ c = 0 ∧ ps = []) ∨ OwnPs w B a n c ps
  hiE : ∀ e ∈ ps, e.hi ≤ U
  hiA : ∀ b o, a = some ⟨b, o, none⟩ → b < U
section
variable {w w' : World} {B U n c : Nat} {a : Option Addr} {ps : List PEl}
theorem OwnPs.ownL (h : OwnPs w B a n c ps) : OwnL w B w.heap.size a n c ps := by
  obtain ⟨g, e, _, h2, _⟩ := h.form
  exact ⟨.inr h, fun e he => (h.each e he).top, fun b o e2 => by rw [e] at e2; cases e2; exact h2⟩
theorem OwnL.len (h : OwnL w B U a n c ps) : ps.length = n := by
  rcases h.own with ⟨_, rfl, _, rfl⟩ | h2
  · rfl
  · exact h2.len
theorem OwnL.at_ (h : OwnL w B U a n c ps) : PathsAt w a n (ps.map PEl.q) := by
  rcases h.own with ⟨_, rfl, _, rfl⟩ | h2
  · exact ⟨rfl, fun k hk => absurd hk (Nat.not_lt_zero _)⟩
  · exact h2.at_
theorem OwnL.below (h : OwnL w B U a n c ps) (hx : Ext w w') : OwnL w' B U a n c ps :=
  ⟨h.own.imp id fun h2 => h2.below hx, h.hiE, h.hiA⟩
theorem OwnL.base {B' : Nat} (h : OwnL w B U a n c ps) (hB : B' ≤ B) : OwnL w B' U a n c ps := ⟨h.own.imp id fun h2 => h2.base hB, h.hiE, h.hiA⟩
theorem OwnPs.updB {B' U' : Nat} (h : OwnPs w B a n c ps) (hu : UpdB w w' B' U') (ha : ∀ b o, a = some ⟨b, o, none⟩ → b < B' ∨ U' ≤ b) (he : ∀ e ∈ ps, e.hi ≤ B' ∨ U' ≤ e.lo) : OwnPs w' B a n c ps := by
  refine ⟨⟨h.row.1, ?_⟩, h.nn, fun e hm => ?_, h.sep, h.far⟩
  · rcases h.row.2 with h2 | ⟨g, cap, cur, h3, hB, hg, r⟩
    · exact .inl h2
    · refine .inr ⟨g, cap, cur, h3, hB, ?_, r⟩
      simp only [Value.slice.injEq] at h3
      rw [hu.other g (Array.getElem?_eq_some_iff.1 hg).1 (ha g 0 h3.1)]
      exact hg
  · obtain ⟨h1, h2, h3, h4⟩ := h.each e hm
    refine ⟨?_, h2, h3, Nat.le_trans h4 hu.size⟩
    rcases he e hm with h5 | h5
    · exact h1.updB_lo hu h5
    · exact h1.updB_hi hu h5
theorem OwnL.updB_lo {B' U' : Nat} (h : OwnL w B U a n c ps) (hu : UpdB w w' B' U') (hU : U ≤ B') : OwnL w' B U a n c ps :=
  ⟨h.own.imp id fun h2 => h2.updB hu (fun b o e => .inl (Nat.lt_of_lt_of_le (h.hiA b o e) hU)) (fun e he => .inl (Nat.le_trans (h.hiE e he) hU)), h.hiE, h.hiA⟩
theorem OwnL.updB_hi {B' U' : Nat} (h : OwnL w B U a n c ps) (hu : UpdB w w' B' U') (hB : U' ≤ B) : OwnL w' B U a n c ps :=
  ⟨h.own.imp id fun h2 => h2.updB hu (fun b o e => by
      obtain ⟨g, e2, h3, _⟩ := h2.form
      rw [e2] at e
      cases e
      exact .inr (Nat.le_trans hB h3)) (fun e he => .inr (Nat.le_trans hB (h2.each e he).base)), h.hiE, h.hiA⟩
/-- one path's content changes -/
def PEl.new (e : PEl) (hs : List Hdr) (q : List Stp) : PEl := ⟨e.lo, e.hi, e.at_, e.cap, hs, q⟩
theorem pairwise_set {α : Type} {R : α → α → Prop} {l : List α} (h : l.Pairwise R) {k : Nat} {x : α} (hk : k < l.length) (h1 : ∀ y, R y l[k] → R y x) (h2 : ∀ y, R l[k] y → R x y) : (l.set k x).Pairwise R := by
  rw [List.pairwise_iff_getElem] at h ⊢
  intro i j hi hj hij
  simp only [List.length_set] at hi hj
  rw [List.getElem_set, List.getElem_set]
  have h3 := h i j hi hj hij
  split
  · rename_i e
    subst e
    rw [if_neg (by omega)]
    exact h2 _ h3
  · split
    · rename_i e
      subst e
      exact h1 _ h3
    · exact h3
theorem OwnPs.setq {k : Nat} (h : OwnPs w B a n c ps) (hk : k < ps.length) {hs' : List Hdr} {q' : List Stp} (ho : OwnK stepK w' ps[k].lo ps[k].hi ps[k].at_ ps[k].q.length ps[k].cap hs' q') (hu : UpdB w w' ps[k].lo ps[k].hi) : OwnPs w' B a n c (ps.set k (ps[k].new hs' q')) := by
  have hm : ps[k] ∈ ps := List.getElem_mem _
  have hl : q'.length = ps[k].q.length := ho.xl
  have hv : pvs (ps.set k (ps[k].new hs' q')) = pvs ps := by
    unfold pvs
    rw [List.map_set]
    have e : (ps[k].new hs' q').val = (ps.map PEl.val)[k]'(by rw [List.length_map]; exact hk) := by
      rw [List.getElem_map]
      unfold PEl.val PEl.new
      rw [hl]
    rw [e, List.set_getElem_self]
  have hmem : ∀ e ∈ ps.set k (ps[k].new hs' q'), e = ps[k].new hs' q' ∨ ∃ j, ∃ hj : j < ps.length, j ≠ k ∧ e = ps[j] := by
    intro e he
    obtain ⟨j, hj, rfl⟩ := List.mem_iff_getElem.1 he
    rw [List.length_set] at hj
    rw [List.getElem_set]
    split
    · exact .inl rfl
    · rename_i h1
      exact .inr ⟨j, hj, fun e => h1 e.symm, rfl⟩
  refine ⟨?_, h.nn, fun e he => ?_, pairwise_set h.sep hk (fun y hy => hy) (fun y hy => hy), fun e he => ?_⟩
  · rw [hv]
    refine ⟨h.row.1, ?_⟩
    rcases h.row.2 with h2 | ⟨g, cap, cur, h3, hB, hg, r⟩
    · exact .inl h2
    · refine .inr ⟨g, cap, cur, h3, hB, ?_, r⟩
      simp only [Value.slice.injEq] at h3
      rw [hu.other g (Array.getElem?_eq_some_iff.1 hg).1 (h.far _ hm g 0 h3.1)]
      exact hg
  · rcases hmem e he with rfl | ⟨j, hj, hne, rfl⟩
    · have h1 := h.each _ hm
      refine ⟨?_, h1.base, h1.le, Nat.le_trans h1.top hu.size⟩
      show OwnK stepK w' ps[k].lo ps[k].hi ps[k].at_ q'.length ps[k].cap hs' q'
      rw [hl]
      exact ho
    · obtain ⟨h1, h2, h3, h4⟩ := h.each _ (List.getElem_mem hj)
      refine ⟨?_, h2, h3, Nat.le_trans h4 hu.size⟩
      have hs := List.pairwise_iff_getElem.1 h.sep
      rcases Nat.lt_or_gt_of_ne hne with hlt | hlt
      · exact h1.updB_lo hu (hs j k hj hk hlt)
      · exact h1.updB_hi hu (hs k j hk hj hlt)
  · rcases hmem e he with rfl | ⟨j, hj, hne, rfl⟩
    · exact h.far ps[k] hm
    · exact h.far _ (List.getElem_mem hj)
/-- what the places hold once they are marked -/
def MarkedL (k0 : Int) (L X : List (List Stp)) (k : Nat) : Prop := (X.getD k []).length = (L.getD k []).length ∧ ∀ j, j < (L.getD k []).length → MarkedAt (k0 + mkL L k) (L.getD k []) (X.getD k []) j
theorem getD_q {k : Nat} (hk : k < ps.length) : (ps.map PEl.q).getD k [] = ps[k].q := by simp [List.getD_eq_getElem?_getD, hk]
theorem getD_setq {k j : Nat} (hk : k < ps.length) (e : PEl) : ((ps.set k e).map PEl.q).getD j [] = if k = j then e.q else (ps.map PEl.q).getD j [] := by
  rw [List.map_set, List.getD_eq_getElem?_getD, List.getElem?_set, List.length_map]
  split
  · rename_i h
    subst h
    simp [hk]
  · rw [List.getD_eq_getElem?_getD]
end
/-- a function that gives the paths L, in memory of its own -/
def PathsL (f : FuncId) (args : Array Value) (w : World) (L : List (List Stp)) : Prop :=
  Calls Tryz.prog f args w fun e w' => ∃ a n c ps, e = .returned (.slice a n c) ∧ OwnL w' w.heap.size w'.heap.size a n c ps ∧ ps.map PEl.q = L ∧ Ext w w'
theorem ownL_none (w : World) (B U : Nat) : OwnL w B U none 0 0 [] := ⟨.inl ⟨rfl, rfl, rfl, rfl⟩, (fun e he => absurd he (by simp)), (fun b o e => by cases e)⟩
def pathsJ (r : Int) (ts w : List Int) : List (List Stp) := (pathsR r ts w).getD []
theorem paths_bound {r : Nat} {L : List (List Stp)} (h4 : r ≤ 4) (h : ∀ p ∈ L, pathB r p = true) (hl : L.length ≤ 400) : L.length ≤ 400 ∧ mkL L L.length ≤ 10000000 ∧ ∀ p ∈ L, p.length ≤ 1000000 := by
  have h1 : ∀ p ∈ L, mkAt p p.length ≤ 300 := fun p hp => by
    have hp := pathB_iff.1 (h p hp)
    have h2 := mkAt_rows (us := p) (m := 4) (fun i hi => by
      have := (hp.way i hi).1
      unfold wayAt at this
      omega) p.length (Nat.le_refl _)
    have := hp.len
    omega
  have h2 := mkL_bound h1 L.length (Nat.le_refl _)
  refine ⟨hl, by omega, fun p hp => ?_⟩
  have := (pathB_iff.1 (h p hp)).len
  omega
theorem pathsJ_small (r : Int) (ts w : List Int) : (pathsJ r ts w).length ≤ 400 ∧ mkL (pathsJ r ts w) (pathsJ r ts w).length ≤ 10000000 ∧ ∀ p ∈ pathsJ r ts w, p.length ≤ 1000000 := by
  unfold pathsJ pathsR
  split
  · rename_i h
    simp only [Bool.and_eq_true] at h
    have h1 := typeB_rank h.1
    have h4 : r.toNat ≤ 4 := by omega
    have hb := wayB_high h.2
    cases he : explF r.toNat ts steepB w with
    | none => simp [mkL]
    | some L =>
      have h3 := expl_some h4 ts steepB w
      rw [he] at h3
      obtain ⟨h5, h6⟩ := expl_paths 3000 0 0 [strP w] L (fun p hp => by
        simp only [List.mem_singleton] at hp
        subst hp
        simp [strP, pathB, stepB, wayAt, lenAt, timeAt, hb, List.range_succ]) (by simp) h3
      exact paths_bound h4 h5 h6
  · simp [mkL]
end Go.Proofs.YtfikkfbnlegflaaGreatDoor

set_option linter.unusedVariables false
set_option linter.unusedSimpArgs false
namespace Go.Proofs.YtfikkfbnlegflaaGreatDoor
open Go.RowKit

theorem pathsL_of {res : Option (List (List Stp))} {w w' : World} {e : Ending} (h : PathsRes res w e w') : ∃ a n c ps, e = .returned (.slice a n c) ∧ OwnL w' w.heap.size w'.heap.size a n c ps ∧ ps.map PEl.q = res.getD [] ∧ Ext w w' := by
  obtain ⟨hx, a, n, c, rfl, h⟩ := h
  cases res with
  | none => obtain ⟨rfl, rfl, rfl⟩ := h; exact ⟨_, _, _, [], rfl, ownL_none _ _ _, rfl, hx⟩
  | some L => obtain ⟨ps, ho, hq⟩ := h; exact ⟨a, n, c, ps, rfl, ho.ownL, hq, hx⟩
set_option maxHeartbeats 4000000 in
theorem sPathsOf_any (r : Int) (ta : Option Addr) (tn tc : Nat) (ts : List Int) (aw : Option Addr) (nw cw : Nat) (W : List Int) (w : World) (hc : IntsAt w ta tn ts) (hw : IntsAt w aw nw W) (hnil : aw = none → cw = 0) (hcn : tn ≤ 9223372036854775807) (hwn : nw ≤ 9223372036854775807) :
    PathsL 40 #[carV r ta tn tc, .slice aw nw cw] w (pathsJ r ts W) := by
  unfold PathsL
  have hx1 := Ext.alloc w (.cells #[.int .i64 r, .slice ta tn tc] 31)
  have HC := hidP (fun w' (hx : Ext (w.alloc (.cells #[.int .i64 r, .slice ta tn tc] 31)) w') => (CarAt.new w _ rfl r ta tn tc 31).below hx)
  have HX1 := hidP hx1
  have HIs := hidP (sIsCartan_any r ta tn tc ts _ (hc.below hx1) hcn)
  have HW := hidP hw
  have Hc := hidP hc
  have HN := hidP hnil
  clear hc hw hx1 hnil
  obtain ⟨w1, hw1⟩ : ∃ w1, w1 = w.alloc (.cells #[.int .i64 r, .slice ta tn tc] 31) := ⟨_, rfl⟩
  rw [← hw1] at HC HX1 HIs
  obtain ⟨f0, f1⟩ := HC.out w1 (Ext.refl w1)
  cases hT : typeB r ts with
  | false =>
    have HJ : Hid (pathsJ r ts W = []) := by
      show _ = _
      unfold pathsJ pathsR
      rw [hT]
      rfl
    rw [hT] at HIs
    clear hT
    go_enter Tryz.func40, Tryz.ntmps40
    go_wp2_with fail
    rw [← hw1]
    clear hw1
    refine HIs.out.mono ?_
    rintro e w2 ⟨rfl, hx⟩
    have HX := hidP (HX1.out.trans hx)
    clear hx
    go_wp2
    go_ret
    exact ⟨none, 0, 0, [], rfl, ownL_none _ _ _, HJ.out.symm, HX.out⟩
  | true =>
    have hr := typeB_rank hT
    obtain ⟨R, rfl⟩ : ∃ R : Nat, r = R := ⟨r.toNat, by omega⟩
    rw [hT] at HIs
    have HTy := hidP hT
    have HHi := hidP (fun w' (hx : Ext w w') => l8Highest_any R ta tn tc aw nw cw W w' (HW.out.below hx) hwn (by omega))
    cases hH : highB R W with
    | false =>
      have HJ : Hid (pathsJ R ts W = []) := by
        show _ = _
        unfold pathsJ pathsR
        rw [hT, Int.toNat_natCast, hH]
        rfl
      rw [hH] at HHi
      clear hT hH
      go_enter Tryz.func40, Tryz.ntmps40
      go_wp2_with fail
      rw [← hw1]
      clear hw1
      refine HIs.out.mono ?_
      rintro e w2 ⟨rfl, hx⟩
      have HX := hidP (HX1.out.trans hx)
      obtain ⟨g0, g1⟩ := HC.out w2 hx
      clear hx f0 f1
      go_wp2_with fail
      refine (HHi.out _ HX.out).mono ?_
      rintro e w3 ⟨rfl, hx⟩
      have HX3 := hidP (HX.out.trans hx)
      clear hx g0 g1
      go_wp2
      go_ret
      exact ⟨none, 0, 0, [], rfl, ownL_none _ _ _, HJ.out.symm, HX3.out⟩
    | true =>
      have HJ : Hid (pathsJ R ts W = (explF R ts steepB W).getD []) := by
        show _ = _
        unfold pathsJ pathsR
        rw [hT, Int.toNat_natCast, hH]
        rfl
      rw [hH] at HHi
      have hl := (highB_iff hH).1
      have hl2 := HW.out.len
      obtain rfl : nw = R := by omega
      have HP := hidP (fun w' (hx : Ext w w') => l9Paths_any nw ta tn tc ts aw cw W w' (Hc.out.below hx) hcn hT (HW.out.below hx) HN.out (wayB_high hH))
      clear hT hH hl hl2
      go_enter Tryz.func40, Tryz.ntmps40
      go_wp2_with fail
      rw [← hw1]
      clear hw1
      refine HIs.out.mono ?_
      rintro e w2 ⟨rfl, hx⟩
      have HX := hidP (HX1.out.trans hx)
      have HX2 := hidP hx
      obtain ⟨g0, g1⟩ := HC.out w2 hx
      clear hx f0 f1
      go_wp2_with fail
      refine (HHi.out _ HX.out).mono ?_
      rintro e w3 ⟨rfl, hx⟩
      have HX3 := hidP (HX.out.trans hx)
      obtain ⟨f0, f1⟩ := HC.out w3 (HX2.out.trans hx)
      clear hx g0 g1
      go_wp2_with fail
      refine (HP.out _ HX3.out).mono ?_
      rintro e w4 hp
      obtain ⟨a, n, c, ps, rfl, ho, hq, hx⟩ := pathsL_of hp
      have HX4 := hidP (HX3.out.trans hx)
      have HO := hidP (ho.base HX3.out.size)
      have HQ := hidP (hq.trans HJ.out.symm)
      clear hp ho hq hx HJ f0 f1
      go_wp2
      go_ret
      exact ⟨a, n, c, ps, rfl, HO.out, HQ.out, HX4.out⟩
end Go.Proofs.YtfikkfbnlegflaaGreatDoor

namespace Go.Proofs.YtfikkfbnlegflaaGreatDoor
open Go.RowKit

theorem itoa_length (n : Int) (h0 : -9223372036854775808 ≤ n) (h1 : n ≤ 9223372036854775807) : (Lib.itoa n).length ≤ 21 := by
  have hd : ∀ u : Nat, u < 10 ^ 20 → (Lib.decDigits u).length ≤ 20 := by
    have : ∀ (k u : Nat), u < 10 ^ (k + 1) → (Lib.decDigits u).length ≤ k + 1 := by
      intro k
      induction k with
      | zero => intro u h; rw [Lib.decDigits_one (by simpa using h)]; simp
      | succ k ih =>
        intro u h
        by_cases h1 : u < 10
        · rw [Lib.decDigits_one h1]; simp
        · rw [Lib.decDigits, dif_neg h1, List.length_append]
          have := ih (u / 10) (by rw [Nat.pow_succ] at h; exact (Nat.div_lt_iff_lt_mul (by omega)).2 h)
          simp
          omega
    exact fun u h => this 19 u h
  unfold Lib.itoa
  split
  · rw [List.length_cons]
    have := hd n.natAbs (by omega)
    omega
  · have := hd n.toNat (by omega)
    omega
theorem join_length (l : List (List UInt8)) (sep : List UInt8) (B : Nat) (h : ∀ x ∈ l, x.length + sep.length ≤ B) : (Lib.join l sep).length ≤ l.length * B := by
  match l with
  | [] => simp [Lib.join_nil]
  | x :: r =>
    rw [Lib.join_cons, List.length_append, List.length_cons, Nat.add_mul, Nat.one_mul]
    have h1 : ∀ r : List (List UInt8), (∀ y ∈ r, y.length + sep.length ≤ B) → (Lib.joinTail sep r).length ≤ r.length * B := by
      intro r
      induction r with
      | nil => intro _; simp [Lib.joinTail]
      | cons y r ih =>
        intro hr
        have := ih fun z hz => hr z (by simp [hz])
        have := hr y (by simp)
        simp only [Lib.joinTail, List.map_cons, List.flatten_cons, List.length_append, List.length_cons, Nat.add_mul, Nat.one_mul] at *
        omega
    have := h1 r fun y hy => h y (by simp [hy])
    have := h x (by simp)
    omega

/-- the text of a list of numbers -/
def intsT (xs : List Int) : List UInt8 := Lib.join (xs.map Lib.itoa) [32]
def Small (xs : List Int) : Prop := ∀ i, i < xs.length → -9223372036854775808 ≤ xs.getD i 0 ∧ xs.getD i 0 ≤ 9223372036854775807
theorem intsT_length (xs : List Int) (h : Small xs) (k : Nat) : (intsT (xs.take k)).length ≤ k * 22 := by
  refine Nat.le_trans (join_length _ [32] 22 ?_) ?_
  · intro x hx
    simp only [List.mem_map] at hx
    obtain ⟨y, hy, rfl⟩ := hx
    have hy := List.mem_of_mem_take hy
    obtain ⟨i, hi, rfl⟩ := List.mem_iff_getElem.1 hy
    have := h i hi
    rw [getD_lt _ hi] at this
    have := itoa_length _ this.1 this.2
    simp
    omega
  · simp only [List.length_map, List.length_take]
    exact Nat.mul_le_mul_right _ (Nat.min_le_left _ _)
end Go.Proofs.YtfikkfbnlegflaaGreatDoor

namespace Go.Proofs.YtfikkfbnlegflaaGreatDoor
open Go.RowKit

/-- the library's table of powers lies where its initialiser lays it -/
def Tab (w : World) : Prop := Lib.TabIs Tryz.prog w "internal/strconv.uint64pow10" .u64 Lib.pow10Tab
theorem Tab.below {w w' : World} (h : Tab w) (hx : Ext w w') : Tab w' := by
  unfold Tab Lib.TabIs at *
  cases hg : Tryz.prog.globalNamed "internal/strconv.uint64pow10" with
  | none => unfold World.var? at h; rw [hg] at h; cases h
  | some g =>
    refine var?_below hx hg ?_ h
    unfold World.var? at h
    rw [hg] at h
    simp only [Option.bind_some] at h
    cases hb : w.heap[g]? with
    | none => rw [hb] at h; cases h
    | some o => exact (Array.getElem?_eq_some_iff.1 hb).1

theorem formatInt_any (n : Int) (w : World) (h0 : -9223372036854775808 ≤ n) (h1 : n ≤ 9223372036854775807) (ht : Tab w) :
    Calls Tryz.prog 123 #[.int .i64 n] w fun e w' => e = .returned (.string (str (Lib.itoa n))) ∧ Ext w w' := by
  have HI := hidP (Tryz.strconv_Itoa n h0 h1 w ht)
  clear ht
  go_enter Tryz.func123, Tryz.ntmps123
  go_wp2_with (go_at_call 149; refine HI.out.mono ?_; rintro e w' ⟨rfl, k, os, rfl⟩)
  go_ret
  exact ⟨rfl, Lib.below_grow _ _ (Nat.le_refl _) _ _⟩
def intsS (xs : List Int) : List ByteArray := xs.map fun x => str (Lib.itoa x)
theorem intsS_join (xs : List Int) (sep : List UInt8) : Lib.join ((intsS xs).map (·.data.toList)) sep = Lib.join (xs.map Lib.itoa) sep := by
  congr 1
  simp [intsS, str, Function.comp_def]
theorem intsS_snoc (xs : List Int) (k : Nat) (hk : k < xs.length) : intsS (xs.take (k + 1)) = intsS (xs.take k) ++ [str (Lib.itoa (xs.getD k 0))] := by
  unfold intsS
  rw [List.take_succ_eq_append_getElem hk, List.map_append, getD_lt _ hk]
  rfl
set_option maxRecDepth 100000 in
set_option maxHeartbeats 1000000 in
theorem formatInts_any (a : Option Addr) (n c : Nat) (xs : List Int) (w : World) (h : IntsAt w a n xs) (hs : Small xs) (hn : n ≤ 1048576) (ht : Tab w) :
    Calls Tryz.prog 124 #[.slice a n c] w fun e w' => e = .returned (.string (str (intsT xs))) ∧ Ext w w' := by
  have G := hidP h
  have L := hidP h.len
  have HS := hidP hs
  have HT := hidP ht
  have HM := hidP (OwnS.made w w.heap.size (Nat.le_refl _))
  have HX0 := hidP (Ext.alloc w (.cells #[] 9))
  clear h hs ht
  go_enter Tryz.func124, Tryz.ntmps124
  go_wp2
  go_loopw [3, 9] (fun a b wr => ∃ (k : Nat) (av : Option Addr) (cv : Nat), k ≤ n ∧ a = .slice av k cv ∧ b = .int .i64 k ∧ Hid (OwnS wr w.heap.size av k cv (intsS (xs.take k))) ∧ Hid (Ext w wr)) (fun _ b _ => n - (intOf b).toNat)
  case atStart => exact ⟨0, _, 0, Nat.zero_le _, rfl, rfl, HM, HX0⟩
  case round =>
    clear HM HX0
    obtain ⟨k, av, cv, hk, rfl, rfl, HO, HX⟩ := hrel
    by_cases hlt : k < n
    · obtain ⟨b, o, rfl, q⟩ := (G.out.below HX.out).get k hlt
      have hb := HS.out k (by rw [L.out]; exact hlt)
      have HF := hidP (fun w' (hx : Ext w w') => formatInt_any (xs.getD k 0) w' hb.1 hb.2 (HT.out.below hx))
      have HN := hidP (intsS_snoc xs k (by rw [L.out]; exact hlt))
      generalize xs.getD k 0 = x at *
      clear hb
      go_wp2_with fail
      refine (HF.out _ HX.out).mono ?_
      rintro e w1 ⟨rfl, hx1⟩
      have hx2 := Ext.alloc w1 (.cells #[.string (str (Lib.itoa x))] 9)
      have HX1 := hidP ((HX.out.trans hx1).trans hx2)
      have HO1 := hidP (HO.out.below (hx1.trans hx2))
      have HC := hidP ((cell_top w1 #[.string (str (Lib.itoa x))] 9 w1.heap.size 0 rfl).trans (show _ = some (Value.string (str (Lib.itoa x))) from rfl))
      clear hx1 hx2
      go_wp2_with (at_builtin; refine wpList_append_str rfl (.tmp 13) (.tmp 16) rfl w.heap.size av k cv _ rfl HO1.out w1.heap.size 1 _ rfl HC.out (by omega) HX1.out.size ?_; intro a3 c3 w3 ho3 hg3; have HX3 := hidP (HO1.out.ext hg3 HX1.out (Nat.le_refl _)); have HO3 := hidP ho3; clear ho3 hg3)
      rw [← HN.out] at HO3
      go_roundw
      case rel => exact ⟨k + 1, a3, c3, by omega, rfl, by go_num, HO3, HX3⟩
      case measure => simp [intOf]; omega
    · obtain rfl : k = n := by omega
      have ho := HO.out
      rw [List.take_of_length_le (by rw [L.out]; exact Nat.le_refl _)] at ho
      have hl := ho.len
      obtain ⟨g, rfl, _, hgl, hnc, _, hcl⟩ := ho.form
      have hjl : (Lib.join (xs.map Lib.itoa) [32]).length ≤ k * 22 := by
        have := intsT_length xs HS.out k
        rw [List.take_of_length_le (by rw [L.out]; exact Nat.le_refl _)] at this
        exact this
      have hJ := Tryz.strings_Join g 0 cv (intsS xs) ⟨#[32]⟩ wr hcl hgl (by omega) (by omega) (by rw [intsS_join]; exact Nat.le_trans hjl (by omega))
      rw [hl, intsS_join] at hJ
      have HJ := hidP hJ
      clear hJ hjl hcl ho
      go_wp2_with fail
      refine HJ.out.mono ?_
      rintro e w1 ⟨rfl, hx1⟩
      have HX1 := hidP (HX.out.trans hx1)
      clear hx1
      go_wp2
      go_ret
      exact ⟨rfl, HX1.out⟩
end Go.Proofs.YtfikkfbnlegflaaGreatDoor

set_option linter.unusedVariables false
set_option linter.unusedSimpArgs false
namespace Go.Proofs.YtfikkfbnlegflaaGreatDoor
open Go.RowKit

def SmallP (us : List (List Int × Int)) : Prop := ∀ i, i < us.length → Small (us.getD i ([], 0)).1 ∧ -9223372036854775808 ≤ (us.getD i ([], 0)).2 ∧ (us.getD i ([], 0)).2 ≤ 9223372036854775807 ∧ (us.getD i ([], 0)).1.length ≤ 1048576
def keyT (u : List Int × Int) : List UInt8 := Lib.itoa u.2 ++ [58] ++ intsT u.1
def pathT (us : List (List Int × Int)) : List UInt8 := Lib.join (us.map keyT) [59]
theorem intsT_lenP (xs : List Int) (h : Small xs) : (intsT xs).length ≤ xs.length * 22 := by
  have := intsT_length xs h xs.length
  rwa [List.take_length] at this
theorem keyT_length (us : List (List Int × Int)) (h : SmallP us) (i : Nat) (hi : i < us.length) : (keyT (us.getD i ([], 0))).length ≤ 23068700 := by
  obtain ⟨h1, h2, h3, h4⟩ := h i hi
  have a1 := intsT_lenP _ h1
  have a2 := itoa_length _ h2 h3
  unfold keyT
  simp only [List.length_append, List.length_cons, List.length_nil]
  omega
theorem pathT_length (us : List (List Int × Int)) (h : SmallP us) (k : Nat) : (pathT (us.take k)).length ≤ k * 23068701 := by
  refine Nat.le_trans (join_length _ [59] 23068701 ?_) ?_
  · intro x hx
    simp only [List.mem_map] at hx
    obtain ⟨y, hy, rfl⟩ := hx
    obtain ⟨i, hi, rfl⟩ := List.mem_iff_getElem.1 (List.mem_of_mem_take hy)
    have := keyT_length us h i hi
    rw [List.getD_eq_getElem?_getD, List.getElem?_eq_getElem hi] at this
    simp at this ⊢
    omega
  · simp only [List.length_map, List.length_take]
    exact Nat.mul_le_mul_right _ (Nat.min_le_left _ _)

def keyS (us : List (List Int × Int)) : List ByteArray := us.map fun u => str (keyT u)
theorem keyS_join (us : List (List Int × Int)) (sep : List UInt8) : Lib.join ((keyS us).map (·.data.toList)) sep = Lib.join (us.map keyT) sep := by
  congr 1
  simp [keyS, str, Function.comp_def]
theorem keyS_snoc (us : List (List Int × Int)) (k : Nat) (hk : k < us.length) : keyS (us.take (k + 1)) = keyS (us.take k) ++ [str (keyT (us.getD k ([], 0)))] := by
  unfold keyS
  have e : us.getD k ([], 0) = us[k] := by simp [hk]
  rw [List.take_succ_eq_append_getElem hk, List.map_append, e]
  rfl
set_option maxRecDepth 100000 in
set_option maxHeartbeats 2000000 in
theorem pathKey_any (a : Option Addr) (n c : Nat) (us : List (List Int × Int)) (w : World) (h : TermsAt w a n us) (hs : SmallP us) (hn : n ≤ 1048576) (ht : Tab w) :
    Calls Tryz.prog 88 #[.slice a n c] w fun e w' => e = .returned (.string (str (pathT us))) ∧ Ext w w' := by
  have G := hidP h
  have L := hidP h.len
  have HS := hidP hs
  have HTb := hidP ht
  have HM := hidP (OwnS.made w w.heap.size (Nat.le_refl _))
  have HX0 := hidP (Ext.alloc w (.cells #[] 9))
  clear h hs ht
  go_enter Tryz.func88, Tryz.ntmps88
  go_wp2
  go_loopw [3, 9] (fun a b wr => ∃ (k : Nat) (av : Option Addr) (cv : Nat), k ≤ n ∧ a = .slice av k cv ∧ b = .int .i64 k ∧ Hid (OwnS wr w.heap.size av k cv (keyS (us.take k))) ∧ Hid (Ext w wr)) (fun _ b _ => n - (intOf b).toNat)
  case atStart => exact ⟨0, _, 0, Nat.zero_le _, rfl, rfl, HM, HX0⟩
  case round =>
    clear HM HX0
    obtain ⟨k, av, cv, hk, rfl, rfl, HO, HX⟩ := hrel
    by_cases hlt : k < n
    · obtain ⟨b, o, aw, cw, rfl, q0, q1, hI, _⟩ := (G.out.below HX.out).get k hlt
      obtain ⟨s1, s2, s3, s4⟩ := HS.out k (by rw [L.out]; exact hlt)
      have hl1 := intsT_lenP _ s1
      have hl2 := itoa_length _ s2 s3
      have HN := hidP (keyS_snoc us k (by rw [L.out]; exact hlt))
      have HTT : Hid (str (Lib.itoa (us.getD k ([], 0)).2) ++ ⟨#[58]⟩ ++ str (intsT (us.getD k ([], 0)).1) = str (keyT (us.getD k ([], 0)))) := by
        show _ = _
        unfold keyT
        rw [← str_append, ← str_append]
        rfl
      have HI := hidP hI
      generalize keyT (us.getD k ([], 0)) = tx at *
      generalize hU : (us.getD k ([], 0)) = U at *
      clear hU hI
      go_wp2
      have hxa := Ext.alloc wr (.cells #[.slice aw U.1.length cw, .int .i64 U.2] 69)
      have HV := hidP (fun w' (hx : Ext (wr.alloc (.cells #[.slice aw U.1.length cw, .int .i64 U.2] 69)) w') => (⟨(new_cell (w' := w') (b := wr.heap.size) rfl hx 0).1.trans rfl, (new_cell (w' := w') (b := wr.heap.size) rfl hx 1).1.trans rfl⟩ : w'.cell? ⟨wr.heap.size, 0, none⟩ = some (.slice aw U.1.length cw) ∧ w'.cell? ⟨wr.heap.size, 1, none⟩ = some (.int .i64 U.2)))
      obtain ⟨wo, hwo⟩ : ∃ wo, wo = wr.alloc (.cells #[.slice aw U.1.length cw, .int .i64 U.2] 69) := ⟨_, rfl⟩
      rw [← hwo] at hxa HV ⊢
      clear hwo
      have HXo := hidP (HX.out.trans hxa)
      have HOo := hidP (HO.out.below hxa)
      have HF := hidP (fun w' (hx : Ext wo w') => formatInts_any aw _ cw U.1 w' ((HI.out.below hxa).below hx) s1 s4 (HTb.out.below (HXo.out.trans hx)))
      have HG := hidP (fun w' (hx : Ext wo w') => formatInt_any U.2 w' s2 s3 (HTb.out.below (HXo.out.trans hx)))
      have hE : Ext wo wo.drew := Ext.drew wo
      clear q0 q1 s1 s2 s3 hxa HI
      obtain ⟨t1, ht1⟩ : ∃ t, t = intsT U.1 := ⟨_, rfl⟩
      obtain ⟨t2, ht2⟩ : ∃ t, t = Lib.itoa U.2 := ⟨_, rfl⟩
      rw [← ht1] at HF HTT hl1
      rw [← ht2] at HG HTT hl2
      clear ht1 ht2
      have z2 : (str t1).size ≤ 23068700 := by rw [str_size]; omega
      have z3 : (str t2).size ≤ 21 := by rw [str_size]; omega
      have g2 : ¬ (9223372036854775807 < (str t2).size + 1) := by omega
      have g3 : ¬ (9223372036854775807 < (str t2).size + 1 + (str t1).size) := by omega
      clear z2 z3 hl1 hl2
      (refine walkR_start (fun w' => Ext wo w') 10 (by kernel_rfl) ?_; simp only [numbered, List.take_succ_cons, List.take_zero, Nat.zero_add, Nat.reduceAdd, List.length_cons, List.length_nil])
      (repeat (first | (refine walkR_still (v := ?_) rfl (by decide +kernel) rfl (fun _ _ _ h => h) hE ?_ ?_; rotate_left; (focus (intro w' hw'; obtain ⟨f0, f1⟩ := HV.out w' hw'; go_simp; all_goals (with_reducible rfl))); simp only [Act.put, List.setIfInBounds_toArray, List.set_cons_zero, List.set_cons_succ]) | (refine walkR_skip rfl (by decide +kernel) rfl (fun _ _ _ h => h) hE ?_; simp only [Act.put, List.setIfInBounds_toArray, List.set_cons_zero, List.set_cons_succ])))
      (refine walkR_later ?_; simp only [List.cons_append, List.nil_append]); (refine walkR_later ?_; simp only [List.cons_append, List.nil_append])
      (repeat (first | (refine walkR_still (v := ?_) rfl (by decide +kernel) rfl (fun _ _ _ h => h) hE ?_ ?_; rotate_left; (focus (intro w' hw'; obtain ⟨f0, f1⟩ := HV.out w' hw'; go_simp; all_goals (with_reducible rfl))); simp only [Act.put, List.setIfInBounds_toArray, List.set_cons_zero, List.set_cons_succ]) | (refine walkR_skip rfl (by decide +kernel) rfl (fun _ _ _ h => h) hE ?_; simp only [Act.put, List.setIfInBounds_toArray, List.set_cons_zero, List.set_cons_succ])))
      (refine walkR_later ?_; simp only [List.cons_append, List.nil_append]); (refine walkR_later ?_; simp only [List.cons_append, List.nil_append]); (refine walkR_later ?_; simp only [List.cons_append, List.nil_append])
      (refine walkR_only (fun w' => Ext wo w') rfl (by decide +kernel) rfl (fun _ h => h) ?_; intro K hK; go_simp; refine (HG.out _ hE).mono ?_; rintro e w1 ⟨rfl, hx1⟩; refine hK _ _ (hE.trans hx1) ?_; clear hK K; (try simp only [Act.put, List.setIfInBounds_toArray, List.set_cons_zero, List.set_cons_succ]))
      have hE1 := hE.trans hx1
      (repeat (first | (refine walkR_still (v := ?_) rfl (by decide +kernel) rfl (fun _ _ _ h => h) hE1 ?_ ?_; rotate_left; (focus (intro w' hw'; skip; go_simp; all_goals (with_reducible rfl))); simp only [Act.put, List.setIfInBounds_toArray, List.set_cons_zero, List.set_cons_succ]) | (refine walkR_skip rfl (by decide +kernel) rfl (fun _ _ _ h => h) hE1 ?_; simp only [Act.put, List.setIfInBounds_toArray, List.set_cons_zero, List.set_cons_succ])))
      (refine walkR_only (fun w' => Ext wo w') rfl (by decide +kernel) rfl (fun _ h => h) ?_; intro K hK; go_simp; refine (HF.out _ hE1).mono ?_; rintro e w2 ⟨rfl, hx2⟩; refine hK _ _ (hE1.trans hx2) ?_; clear hK K; (try simp only [Act.put, List.setIfInBounds_toArray, List.set_cons_zero, List.set_cons_succ]))
      have hE2 := hE1.trans hx2
      (repeat (first | (refine walkR_still (v := ?_) rfl (by decide +kernel) rfl (fun _ _ _ h => h) hE2 ?_ ?_; rotate_left; (focus (intro w' hw'; skip; go_simp; all_goals (with_reducible rfl))); simp only [Act.put, List.setIfInBounds_toArray, List.set_cons_zero, List.set_cons_succ]) | (refine walkR_skip rfl (by decide +kernel) rfl (fun _ _ _ h => h) hE2 ?_; simp only [Act.put, List.setIfInBounds_toArray, List.set_cons_zero, List.set_cons_succ])))
      have hx3 := Ext.alloc w2 (.cells #[.string (str t2 ++ ⟨#[58]⟩ ++ str t1)] 9)
      have HX3 := hidP (HXo.out.trans (hE2.trans hx3))
      have HO3 := hidP (HOo.out.below (hE2.trans hx3))
      have HC3 := hidP ((cell_top w2 #[.string (str t2 ++ ⟨#[58]⟩ ++ str t1)] 9 w2.heap.size 0 rfl).trans (show _ = some (Value.string (str t2 ++ ⟨#[58]⟩ ++ str t1)) from rfl))
      have hE3 := hE2.trans hx3
      clear hx1 hx2 hE hE1 hx3
      (refine walkR_only (fun w' => Ext wo w') rfl (by decide +kernel) rfl ?_ ?_)
      · exact fun _ h => h
      intro K hK
      go_simp
      refine hK _ _ hE3 ?_
      clear hK K hE2 hE3
      (try simp only [Act.put, List.setIfInBounds_toArray, List.set_cons_zero, List.set_cons_succ])
      (refine walkR_tail (by rfl) (by kernel_rfl) ?_; simp only [List.drop_succ_cons, List.drop_zero])
      go_wp2_with (at_builtin; refine wpList_append_str rfl (.tmp 13) (.tmp 22) rfl w.heap.size av k cv _ rfl HO3.out w2.heap.size 1 _ rfl HC3.out (by omega) HX3.out.size ?_; intro a4 c4 w4 ho4 hg4; have HX4 := hidP (HO3.out.ext hg4 HX3.out (Nat.le_refl _)); have HO4 := hidP ho4; clear ho4 hg4)
      rw [HTT.out, ← HN.out] at HO4
      go_roundw
      case rel => exact ⟨k + 1, a4, c4, by omega, rfl, by go_num, HO4, HX4⟩
      case measure => simp [intOf]; omega
    · obtain rfl : k = n := by omega
      have ho := HO.out
      rw [List.take_of_length_le (by rw [L.out]; exact Nat.le_refl _)] at ho
      have hl := ho.len
      obtain ⟨g, rfl, _, hgl, hnc, _, hcl⟩ := ho.form
      have hjl : (Lib.join (us.map keyT) [59]).length ≤ k * 23068701 := by
        have := pathT_length us HS.out k
        rw [List.take_of_length_le (by rw [L.out]; exact Nat.le_refl _)] at this
        exact this
      have hJ := Tryz.strings_Join g 0 cv (keyS us) ⟨#[59]⟩ wr hcl hgl (by omega) (by omega) (by rw [keyS_join]; exact Nat.le_trans hjl (by omega))
      rw [hl, keyS_join] at hJ
      have HJ := hidP hJ
      clear hJ hjl hcl ho
      go_wp2_with fail
      refine HJ.out.mono ?_
      rintro e w1 ⟨rfl, hx1⟩
      have HX1 := hidP (HX.out.trans hx1)
      clear hx1
      go_wp2
      go_ret
      exact ⟨rfl, HX1.out⟩
end Go.Proofs.YtfikkfbnlegflaaGreatDoor

namespace Go.Proofs.YtfikkfbnlegflaaGreatDoor
open Go.RowKit

end Go.Proofs.YtfikkfbnlegflaaGreatDoor

namespace Go.Proofs.YtfikkfbnlegflaaGreatDoor
open Go.RowKit

def holdR (v : Value) : Option (DataW Value × List MemPlace) := some (.held v, [])
def keyL (s : ByteArray) : Lit := .string s.data.toList
theorem keyL_inj {s t : ByteArray} (h : keyL s = keyL t) : s = t := by
  simp only [keyL, Lit.string.injEq] at h
  cases s; cases t
  simp only [ByteArray.mk.injEq]
  exact Array.toList_inj.1 h
theorem keyL_key (s : ByteArray) : WideAt.IsKeyLit (keyL s) := trivial
theorem keyL_ne {s t : ByteArray} (h : t ≠ s) : keyL t ≠ keyL s := fun e => h (keyL_inj e)
theorem keyOf_keyL {P : Program} {K : TypeId} (hK : P.underlying K = some .string) {s : ByteArray} (hs : s.size ≤ maxLen) : keyOf P K (.string s) = some (keyL s) := WideMaps.keyOf_string_mk hK hs
/-- f tells what a map that reads as D has at each key -/
structure ViewS (D : DataW Value) (f : ByteArray → Option Value) : Prop where
  at_ : ∀ s, s.size ≤ maxLen → ∀ v0, D.atKey (keyL s) (.held v0) = .held ((f s).getD v0)
  has_ : ∀ s, s.size ≤ maxLen → Maps.has D (keyL s) = (f s).isSome
/-- block b is a map of at most n entries with f -/
def MapS (w : World) (P : Program) (K : TypeId) (b n : Nat) (f : ByteArray → Option Value) : Prop := ∃ D, w.ownsMap P K holdR b n D ∧ ViewS D f
def putF (f : ByteArray → Option Value) (s : ByteArray) (v : Value) : ByteArray → Option Value := fun t => if t = s then some v else f t
variable {P : Program} {K : TypeId} {w w' : World} {b n r cnt : Nat} {f : ByteArray → Option Value} {left : ByteArray → Bool}

theorem MapS.made (w : World) (P : Program) (K : TypeId) : MapS (w.alloc (.map #[] 0)) P K w.heap.size 0 (fun _ => none) :=
  ⟨_, World.ownsMap_made w P K holdR, ⟨fun s _ v0 => by simp [DataW.atKey], fun s _ => by simp [Maps.has]⟩⟩
theorem MapS.lt (h : MapS w P K b n f) : b < w.heap.size := h.choose_spec.1.lt
theorem MapS.kept (h : MapS w P K b n f) {row : Option Nat} (hg : w.grownBy w' row) (hne : some b ≠ row) : MapS w' P K b n f := by
  obtain ⟨D, h1, h2⟩ := h
  exact ⟨D, h1.kept hg hne, h2⟩
theorem MapS.below (h : MapS w P K b n f) (hx : Ext w w') : MapS w' P K b n f :=
  h.kept (row := none) ⟨hx.os, hx.tape, hx.output, hx.size, fun k hk _ => hx.block k hk⟩ (by simp)
theorem MapS.lookup (h : MapS w P K b n f) {T E : TypeId} (hK : P.underlying K = some .string) (hT : P.underlying T = some (.map K E)) {z : Value} (hz : (zeroValue E).run P w = .ok z w)
    {s : ByteArray} (hs : s.size ≤ maxLen) : (Instr.lookup T (.map (some b)) (.string s) false).run P w = .ok ((f s).getD z) w := by
  obtain ⟨D, h1, h2⟩ := h
  obtain ⟨v, ps, hrun, hv⟩ := h1.lookup (Maps.string_keyed hK) hT hz (zd := .held z) (zp := []) rfl (keyOf_keyL hK hs)
  rw [h2.at_ s hs] at hv
  simp only [holdR, Option.some.injEq, Prod.mk.injEq, DataW.held.injEq] at hv
  rw [hrun, hv.1]
theorem MapS.update (h : MapS w P K b n f) {T E : TypeId} (hK : P.underlying K = some .string) (hT : P.underlying T = some (.map K E)) (hn : n < maxLen)
    {s : ByteArray} (hs : s.size ≤ maxLen) (v : Value) : ∃ w', (Instr.mapUpdate T (.map (some b)) (.string s) v).run P w = .ok () w' ∧ MapS w' P K b (n + 1) (putF f s v) ∧ w.grownBy w' (some b) := by
  obtain ⟨D, h1, h2⟩ := h
  obtain ⟨w', hrun, hown, hg⟩ := h1.update (Maps.string_keyed hK) hT hn (keyOf_keyL hK hs) (val := v) (d := .held v) (ps := []) rfl
  have hD : Maps.IsMap D := by
    obtain ⟨es, clock, _, _, _, e⟩ := h1
    exact ⟨_, e⟩
  refine ⟨w', hrun, ⟨_, hown, ⟨fun t ht v0 => ?_, fun t ht => ?_⟩⟩, hg⟩
  · by_cases e : t = s
    · subst e
      rw [Maps.atKey_put_same hD (keyL_key _)]
      simp [putF]
    · rw [Maps.atKey_put_other (keyL_ne e), h2.at_ t ht]
      simp [putF, e]
  · by_cases e : t = s
    · subst e
      rw [Maps.has_put_same hD (keyL_key _)]
      simp [putF]
    · rw [Maps.has_put_other (keyL_ne e), h2.has_ t ht]
      simp [putF, e]

section
variable (w : World) {ops : Array Oper} {rest : List Oper} {o : Oper} {a : Act} {Q : Exit → Act → World → Prop}
theorem wpList_lookupS (hg : o.guard = none) (m x : Operand) (T K E : TypeId) (hop : o.op = Op.lookup T m x false) (hK : P.underlying K = some .string) (hT : P.underlying T = some (.map K E)) (z : Value) (hz : (zeroValue E).run P w = .ok z w)
    (b n : Nat) (f : ByteArray → Option Value) (hm : a.eval m = .map (some b)) (h : MapS w P K b n f) (s : ByteArray) (hx : a.eval x = .string s) (hs : s.size ≤ maxLen)
    (hk : wpList P ops Q rest (a.put o.dst ((f s).getD z)) w) : wpList P ops Q (o :: rest) a w := by
  refine wpList_plain hg fun K' hK' => ?_
  unfold Oper.wp
  simp [execOp, hop, hm, hx, h.lookup hK hT hz hs, Result.andThen]
  exact hK' _ _ hk
theorem wpList_updateS (hg : o.guard = none) (m x v : Operand) (T K E : TypeId) (hop : o.op = Op.mapUpdate T m x v) (hK : P.underlying K = some .string) (hT : P.underlying T = some (.map K E))
    (b n : Nat) (f : ByteArray → Option Value) (hm : a.eval m = .map (some b)) (h : MapS w P K b n f) (hn : n < maxLen) (s : ByteArray) (hx : a.eval x = .string s) (hs : s.size ≤ maxLen) (u : Value) (hv : a.eval v = u)
    (hk : ∀ w', MapS w' P K b (n + 1) (putF f s u) → w.grownBy w' (some b) → wpList P ops Q rest (a.put o.dst undef) w') : wpList P ops Q (o :: rest) a w := by
  refine wpList_plain hg fun K' hK' => ?_
  obtain ⟨w', hrun, r1, r2⟩ := h.update hK hT hn hs u
  unfold Oper.wp
  simp [execOp, hop, hm, hx, hv, hrun, Result.andThen]
  exact hK' _ _ (hk w' r1 r2)
end
end Go.Proofs.YtfikkfbnlegflaaGreatDoor

namespace Go.Proofs.YtfikkfbnlegflaaGreatDoor
open Go.RowKit

def digV (l : List UInt8) : Nat := l.foldl (fun a c => a * 10 + (c.toNat - 48)) 0
theorem digV_snoc (l : List UInt8) (c : UInt8) : digV (l ++ [c]) = digV l * 10 + (c.toNat - 48) := by simp [digV]
theorem digit_nat (d : Nat) (h : d < 10) : (UInt8.ofNat (48 + d)).toNat = 48 + d := by
  rw [UInt8.toNat_ofNat']
  omega
theorem decDigits_facts (u : Nat) : digV (Lib.decDigits u) = u ∧ (∀ c ∈ Lib.decDigits u, 48 ≤ c.toNat) ∧ Lib.decDigits u ≠ [] := by
  induction u using Nat.strongRecOn with
  | _ u ih =>
    rw [Lib.decDigits]
    by_cases h : u < 10
    · rw [dif_pos h]
      refine ⟨?_, fun c hc => ?_, by simp⟩
      · have := digit_nat u h
        simp only [digV, List.foldl_cons, List.foldl_nil, this]
        omega
      · simp only [List.mem_singleton] at hc
        subst hc
        rw [digit_nat u h]
        omega
    · rw [dif_neg h]
      obtain ⟨h1, h2, h3⟩ := ih (u / 10) (by omega)
      refine ⟨?_, fun c hc => ?_, by simp⟩
      · rw [digV_snoc, h1, digit_nat (u % 10) (by omega)]
        omega
      · rcases List.mem_append.1 hc with hc | hc
        · exact h2 c hc
        · simp only [List.mem_singleton] at hc
          subst hc
          rw [digit_nat (u % 10) (by omega)]
          omega
theorem decDigits_inj {u v : Nat} (h : Lib.decDigits u = Lib.decDigits v) : u = v := by
  have := congrArg digV h
  rwa [(decDigits_facts u).1, (decDigits_facts v).1] at this
theorem itoa_inj {m n : Int} (h : Lib.itoa m = Lib.itoa n) : m = n := by
  have key : ∀ u v : Nat, 45 :: Lib.decDigits u ≠ Lib.decDigits v := by
    intro u v e
    have := (decDigits_facts v).2.1 45 (by rw [← e]; simp)
    simp at this
  unfold Lib.itoa at h
  split at h <;> split at h
  · simp only [List.cons.injEq, true_and] at h
    have := decDigits_inj h
    omega
  · exact absurd h (key _ _)
  · exact absurd h.symm (key _ _)
  · have := decDigits_inj h
    omega
theorem itoa_no32 (n : Int) : ∀ c ∈ Lib.itoa n, c ≠ 32 := by
  intro c hc e
  subst e
  unfold Lib.itoa at hc
  split at hc
  · simp only [List.mem_cons] at hc
    rcases hc with hc | hc
    · simp at hc
    · have := (decDigits_facts _).2.1 _ hc
      simp at this
  · have := (decDigits_facts _).2.1 _ hc
    simp at this
theorem itoa_ne (n : Int) : Lib.itoa n ≠ [] := by
  unfold Lib.itoa
  split
  · simp
  · exact (decDigits_facts _).2.2
theorem cut_eq {s : UInt8} : ∀ {a b A B : List UInt8}, (∀ c ∈ a, c ≠ s) → (∀ c ∈ b, c ≠ s) → (A = [] ∨ ∃ r, A = s :: r) → (B = [] ∨ ∃ r, B = s :: r) → a ++ A = b ++ B → a = b ∧ A = B
  | [], [], A, B, _, _, _, _, h => ⟨rfl, by simpa using h⟩
  | [], y :: b, A, B, _, hb, hA, _, h => by
    rcases hA with rfl | ⟨r, rfl⟩
    · simp at h
    · simp only [List.nil_append, List.cons_append, List.cons.injEq] at h
      exact absurd h.1.symm (hb y (by simp))
  | x :: a, [], A, B, ha, _, _, hB, h => by
    rcases hB with rfl | ⟨r, rfl⟩
    · simp at h
    · simp only [List.nil_append, List.cons_append, List.cons.injEq] at h
      exact absurd h.1 (ha x (by simp))
  | x :: a, y :: b, A, B, ha, hb, hA, hB, h => by
    simp only [List.cons_append, List.cons.injEq] at h
    obtain ⟨e1, e2⟩ := cut_eq (fun c hc => ha c (by simp [hc])) (fun c hc => hb c (by simp [hc])) hA hB h.2
    exact ⟨by rw [h.1, e1], e2⟩
theorem joinTail_begins (s : UInt8) (r : List (List UInt8)) : Lib.joinTail [s] r = [] ∨ ∃ t, Lib.joinTail [s] r = s :: t := by
  cases r with
  | nil => exact .inl rfl
  | cons x r => exact .inr ⟨x ++ Lib.joinTail [s] r, by simp [Lib.joinTail]⟩
theorem joinTail_inj : ∀ {xs ys : List Int}, Lib.joinTail [32] (xs.map Lib.itoa) = Lib.joinTail [32] (ys.map Lib.itoa) → xs = ys
  | [], [], _ => rfl
  | [], y :: ys, h => by simp [Lib.joinTail] at h
  | x :: xs, [], h => by simp [Lib.joinTail] at h
  | x :: xs, y :: ys, h => by
    have e : ∀ (z : Int) (zs : List Int), Lib.joinTail [32] ((z :: zs).map Lib.itoa) = 32 :: (Lib.itoa z ++ Lib.joinTail [32] (zs.map Lib.itoa)) := fun z zs => by simp [Lib.joinTail]
    rw [e, e] at h
    simp only [List.cons.injEq, true_and] at h
    obtain ⟨h1, h2⟩ := cut_eq (itoa_no32 x) (itoa_no32 y) (joinTail_begins _ _) (joinTail_begins _ _) h
    rw [itoa_inj h1, joinTail_inj h2]
theorem intsT_inj {xs ys : List Int} (h : intsT xs = intsT ys) : xs = ys := by
  unfold intsT at h
  match xs, ys with
  | [], [] => rfl
  | [], y :: ys =>
    rw [List.map_cons, Lib.join_cons] at h
    have := congrArg List.length h
    simp only [List.map_nil, Lib.join_nil, List.length_nil, List.length_append] at this
    have := itoa_ne y
    exact absurd (List.length_eq_zero_iff.1 (by omega)) this
  | x :: xs, [] =>
    rw [List.map_cons, Lib.join_cons] at h
    have := congrArg List.length h
    simp only [List.map_nil, Lib.join_nil, List.length_nil, List.length_append] at this
    have := itoa_ne x
    exact absurd (List.length_eq_zero_iff.1 (by omega)) this
  | x :: xs, y :: ys =>
    rw [List.map_cons, List.map_cons, Lib.join_cons, Lib.join_cons] at h
    obtain ⟨h1, h2⟩ := cut_eq (itoa_no32 x) (itoa_no32 y) (joinTail_begins _ _) (joinTail_begins _ _) h
    rw [itoa_inj h1, joinTail_inj h2]
end Go.Proofs.YtfikkfbnlegflaaGreatDoor

namespace Go.Proofs.YtfikkfbnlegflaaGreatDoor
open Go.RowKit

/-! ### ordered lists -/
/-! ### worlds in which two maps turn -/
/-! ### the two maps -/
end Go.Proofs.YtfikkfbnlegflaaGreatDoor

namespace Go.Proofs.YtfikkfbnlegflaaGreatDoor
open Go.RowKit

end Go.Proofs.YtfikkfbnlegflaaGreatDoor

namespace Go.Proofs.YtfikkfbnlegflaaGreatDoor
open Go.RowKit

theorem decDigits_le (u : Nat) : ∀ c ∈ Lib.decDigits u, c.toNat ≤ 57 := by
  induction u using Nat.strongRecOn with
  | _ u ih =>
    rw [Lib.decDigits]
    by_cases h : u < 10
    · rw [dif_pos h]
      intro c hc
      simp only [List.mem_singleton] at hc
      subst hc
      rw [digit_nat u h]
      omega
    · rw [dif_neg h]
      intro c hc
      rcases List.mem_append.1 hc with hc | hc
      · exact ih (u / 10) (by omega) c hc
      · simp only [List.mem_singleton] at hc
        subst hc
        rw [digit_nat (u % 10) (by omega)]
        omega
theorem itoa_le (n : Int) : ∀ c ∈ Lib.itoa n, c.toNat ≤ 57 := by
  intro c hc
  unfold Lib.itoa at hc
  split at hc
  · simp only [List.mem_cons] at hc
    rcases hc with rfl | hc
    · decide
    · exact decDigits_le _ _ hc
  · exact decDigits_le _ _ hc
theorem tail_le : ∀ (xs : List Int), ∀ c ∈ Lib.joinTail [32] (xs.map Lib.itoa), c.toNat ≤ 57
  | [], c, hc => by simp [Lib.joinTail] at hc
  | x :: xs, c, hc => by
    have e : Lib.joinTail [32] ((x :: xs).map Lib.itoa) = 32 :: (Lib.itoa x ++ Lib.joinTail [32] (xs.map Lib.itoa)) := by simp [Lib.joinTail]
    rw [e] at hc
    simp only [List.mem_cons, List.mem_append] at hc
    rcases hc with rfl | hc | hc
    · decide
    · exact itoa_le x c hc
    · exact tail_le xs c hc
theorem intsT_le (xs : List Int) : ∀ c ∈ intsT xs, c.toNat ≤ 57 := by
  intro c hc
  unfold intsT at hc
  cases xs with
  | nil => rw [List.map_nil, Lib.join_nil] at hc; simp at hc
  | cons x xs =>
    rw [List.map_cons, Lib.join_cons] at hc
    rcases List.mem_append.1 hc with hc | hc
    · exact itoa_le x c hc
    · exact tail_le xs c hc
theorem keyT_ne59 (u : Stp) : ∀ c ∈ keyT u, c ≠ 59 := by
  intro c hc e
  subst e
  unfold keyT at hc
  simp only [List.mem_append, List.mem_singleton] at hc
  rcases hc with (hc | hc) | hc
  · have := itoa_le _ _ hc; simp at this
  · exact absurd hc (by decide)
  · have := intsT_le _ _ hc; simp at this
theorem keyT_inj {u v : Stp} (h : keyT u = keyT v) : u = v := by
  unfold keyT at h
  rw [List.append_assoc, List.append_assoc] at h
  have h58 : ∀ n : Int, ∀ c ∈ Lib.itoa n, c ≠ (58 : UInt8) := fun n c hc e => by
    subst e
    have := itoa_le _ _ hc; simp at this
  obtain ⟨h1, h2⟩ := cut_eq (h58 u.2) (h58 v.2) (.inr ⟨_, rfl⟩) (.inr ⟨_, rfl⟩) h
  have h3 : intsT u.1 = intsT v.1 := by simpa using h2
  exact Prod.ext (intsT_inj h3) (itoa_inj h1)
theorem keyT_ne (u : Stp) : keyT u ≠ [] := by
  unfold keyT
  simp
theorem pathTail_inj : ∀ {p q : List Stp}, Lib.joinTail [59] (p.map keyT) = Lib.joinTail [59] (q.map keyT) → p = q
  | [], [], _ => rfl
  | [], y :: ys, h => by simp [Lib.joinTail] at h
  | x :: xs, [], h => by simp [Lib.joinTail] at h
  | x :: xs, y :: ys, h => by
    have e : ∀ (z : Stp) (zs : List Stp), Lib.joinTail [59] ((z :: zs).map keyT) = 59 :: (keyT z ++ Lib.joinTail [59] (zs.map keyT)) := fun z zs => by simp [Lib.joinTail]
    rw [e, e] at h
    simp only [List.cons.injEq, true_and] at h
    obtain ⟨h1, h2⟩ := cut_eq (keyT_ne59 x) (keyT_ne59 y) (joinTail_begins _ _) (joinTail_begins _ _) h
    rw [keyT_inj h1, pathTail_inj h2]
theorem pathT_inj {p q : List Stp} (h : pathT p = pathT q) : p = q := by
  unfold pathT at h
  match p, q with
  | [], [] => rfl
  | [], y :: ys =>
    rw [List.map_cons, Lib.join_cons] at h
    have := congrArg List.length h
    simp only [List.map_nil, Lib.join_nil, List.length_nil, List.length_append] at this
    exact absurd (List.length_eq_zero_iff.1 (by omega)) (keyT_ne y)
  | x :: xs, [] =>
    rw [List.map_cons, Lib.join_cons] at h
    have := congrArg List.length h
    simp only [List.map_nil, Lib.join_nil, List.length_nil, List.length_append] at this
    exact absurd (List.length_eq_zero_iff.1 (by omega)) (keyT_ne x)
  | x :: xs, y :: ys =>
    rw [List.map_cons, List.map_cons, Lib.join_cons, Lib.join_cons] at h
    obtain ⟨h1, h2⟩ := cut_eq (keyT_ne59 x) (keyT_ne59 y) (joinTail_begins _ _) (joinTail_begins _ _) h
    rw [keyT_inj h1, pathTail_inj h2]
end Go.Proofs.YtfikkfbnlegflaaGreatDoor

namespace Go.Proofs.YtfikkfbnlegflaaGreatDoor
open Go.RowKit

theorem str_inj {a b : List UInt8} (h : str a = str b) : a = b := by
  unfold str at h
  have := congrArg (fun x : ByteArray => x.data.toList) h
  simpa using this
/-- the map tells the paths of a list -/
def SeenP (f : ByteArray → Option Value) (L : List (List Stp)) : Prop := ∀ q, (f (str (pathT q))).getD (.bool false) = .bool (L.contains q)
theorem seenP_nil : SeenP (fun _ => none) [] := fun q => by simp
theorem SeenP.put {f : ByteArray → Option Value} {L : List (List Stp)} (h : SeenP f L) (q : List Stp) : SeenP (putF f (str (pathT q)) (.bool true)) (L ++ [q]) := by
  intro q'
  by_cases e : q' = q
  · subst e
    simp [putF]
  · have hne : str (pathT q') ≠ str (pathT q) := fun h2 => e (pathT_inj (str_inj h2))
    simp only [putF, if_neg hne, h q']
    have h3 : (L ++ [q]).contains q' = L.contains q' := by
      rw [Bool.eq_iff_iff]
      simp [e]
    rw [h3]
theorem smallP_of {r : Nat} {q : List Stp} (h : PathP r q) (h4 : r ≤ 4) : SmallP q := by
  intro i hi
  obtain ⟨h1, h2⟩ := h.way i hi
  obtain ⟨h3, h5⟩ := h.dur i hi
  unfold wayAt at h1 h2
  unfold lenAt at h3 h5
  refine ⟨?_, by omega, by omega, by omega⟩
  intro j hj
  have := h2 j (by omega)
  omega
theorem key_size {r : Nat} {q : List Stp} (h : PathP r q) (h4 : r ≤ 4) : (str (pathT q)).size ≤ maxLen := by
  rw [str_size]
  have h1 := pathT_length q (smallP_of h h4) q.length
  rw [List.take_length] at h1
  have h2 := h.len
  have h3 : q.length * 23068701 ≤ 60 * 23068701 := Nat.mul_le_mul_right _ h2
  unfold maxLen
  omega
theorem wpList_unguardM {P : Program} {ops : Array Oper} {Q : Exit → Act → World → Prop} {a : Act} {w : World} {rest : List Oper} {o : Oper} (hw : Region.wanted o (yielded ops a.tmps) = true)
    (h : wpList P ops Q ({ o with guard := none } :: rest) a w) : wpList P ops Q (o :: rest) a w := by
  have hw2 : Region.wanted { o with guard := none } (yielded ops a.tmps) = true := rfl
  unfold wpList at *
  rw [if_pos hw]
  rw [if_pos hw2] at h
  exact h
theorem wpList_insertS {P : Program} {ops : Array Oper} {Q : Exit → Act → World → Prop} {a : Act} {w : World} {rest : List Oper} {o : Oper} (hg : o.guard = none) (m x v : Operand) (T K E : TypeId) (hop : o.op = Op.insert T m x v) (hK : P.underlying K = some .string) (hT : P.underlying T = some (.map K E))
    (b n : Nat) (f : ByteArray → Option Value) (hm : a.eval m = .map (some b)) (h : MapS w P K b n f) (hn : n < maxLen) (s : ByteArray) (hx : a.eval x = .string s) (hs : s.size ≤ maxLen) (u : Value) (hv : a.eval v = u)
    (hk : ∀ w', MapS w' P K b (n + 1) (putF f s u) → w.grownBy w' (some b) → wpList P ops Q rest (a.put o.dst undef) w') : wpList P ops Q (o :: rest) a w := by
  refine wpList_plain hg fun K' hK' => ?_
  obtain ⟨w', hrun, r1, r2⟩ := h.update hK hT hn hs u
  unfold Oper.wp
  simp [execOp, hop, hm, hx, hv, hrun, Result.andThen]
  exact hK' _ _ (hk w' r1 r2)
theorem zero_bool (w : World) : (zeroValue 4).run Tryz.prog w = .ok (.bool false) w := by kernel_rfl
theorem Ext.onMap {w w' w0 : World} {b : Nat} (hb : Ext w0 w) (hg : w.grownBy w' (some b)) (hB : w0.heap.size ≤ b) : Ext w0 w' :=
  Below.grown hb hg hb.size fun k hk => by
    simp only [Option.some.injEq] at hk
    omega
theorem PEl.Ok.onMap {w w' : World} {B b : Nat} {e : PEl} (h : e.Ok w B) (hg : w.grownBy w' (some b)) (hd : e.hi ≤ b ∨ b < e.lo) : e.Ok w' B := by
  obtain ⟨h1, h2, h3, h4⟩ := h
  have key : ∀ k, e.lo ≤ k → k < e.hi → some k ≠ some b := fun k h5 h6 h7 => by
    simp only [Option.some.injEq] at h7
    omega
  exact ⟨h1.kept hg (fun k o e1 => key k (h1.base_lt k o e1).1 (h1.olt k o e1)) (fun i hi k o e1 => key k ((h1.each i hi).at_base k o e1).1 (h1.lt i hi k o e1)), h2, h3, Nat.le_trans h4 hg.size⟩
/-- the paths that the search holds, and the map that tells them -/
structure PMem (R : Nat) (w1 w : World) (bm : Nat) (a : Option Addr) (n c : Nat) (ps : List PEl) (f : ByteArray → Option Value) : Prop where
  own : OwnPs w w1.heap.size a n c ps
  path : ∀ e ∈ ps, PathP R e.q
  map : MapS w Tryz.prog 9 bm n f
  seen : SeenP f (ps.map PEl.q)
  off : ∀ e ∈ ps, e.hi ≤ bm ∨ bm < e.lo
  offA : ∀ o, a ≠ some ⟨bm, o, none⟩
  ext : Ext w1 w
  base : w1.heap.size ≤ bm
section
variable {R : Nat} {w1 w w' : World} {bm n c : Nat} {a : Option Addr} {ps : List PEl} {f : ByteArray → Option Value}
theorem PMem.below (h : PMem R w1 w bm a n c ps f) (hx : Ext w w') : PMem R w1 w' bm a n c ps f :=
  ⟨h.own.below hx, h.path, h.map.below hx, h.seen, h.off, h.offA, h.ext.trans hx, h.base⟩
theorem PMem.onMap (h : PMem R w1 w bm a n c ps f) (hg : w.grownBy w' (some bm)) : OwnPs w' w1.heap.size a n c ps ∧ Ext w1 w' :=
  ⟨h.own.kept hg fun b e => by
    simp only [Option.some.injEq] at e
    subst e
    exact ⟨fun o e2 => h.offA o e2, fun e he => by have := h.off e he; omega⟩, h.ext.onMap hg h.base⟩
theorem PMem.grow (h : PMem R w1 w bm a n c ps f) {e : PEl} {w8 w9 : World} {a9 : Option Addr} {c9 : Nat} (ho8 : OwnPs w8 w1.heap.size a n c ps) (hx8 : Ext w1 w8) (hm8 : MapS w8 Tryz.prog 9 bm (n + 1) (putF f (str (pathT e.q)) (.bool true))) (he : PathP R e.q) (hlo : bm < e.lo)
    (ho9 : OwnPs w9 w1.heap.size a9 (n + 1) c9 (ps ++ [e])) (hg9 : w8.grownBy w9 (Value.slice a n c).ownBlock) (hn9 : OrNew w8.heap.size a a9) : PMem R w1 w9 bm a9 (n + 1) c9 (ps ++ [e]) (putF f (str (pathT e.q)) (.bool true)) := by
  obtain ⟨g, ha, _⟩ := h.own.form
  refine ⟨ho9, fun d hd => ?_, hm8.kept hg9 (fun e2 => ?_), ?_, fun d hd => ?_, fun o e2 => ?_, ho8.ext hg9 hx8 (Nat.le_refl _), h.base⟩
  · rcases List.mem_append.1 hd with h2 | h2
    · exact h.path d h2
    · simp only [List.mem_singleton] at h2
      subst h2
      exact he
  · rw [ha] at e2
    simp only [Value.ownBlock, Option.some.injEq] at e2
    subst e2
    exact h.offA 0 ha
  · rw [List.map_append]
    exact h.seen.put e.q
  · rcases List.mem_append.1 hd with h2 | h2
    · exact h.off d h2
    · simp only [List.mem_singleton] at h2
      subst h2
      exact .inr hlo
  · rcases hn9 with h2 | h2
    · rw [h2] at e2
      exact h.offA o e2
    · have := h2 bm o e2
      have := hm8.lt
      omega
end
theorem bigB_true {q : List Stp} {k : Nat} (hk : k < q.length) (h : 12 < Lib.maxOf (wayAt q k)) : bigB q = true := by
  simp only [bigB, List.any_eq_true, decide_eq_true_eq]
  refine ⟨q[k], List.getElem_mem hk, ?_⟩
  have e : wayAt q k = q[k].1 := by simp [wayAt, List.getD_eq_getElem?_getD, hk]
  rw [← e]
  exact h
theorem bigB_false {q : List Stp} (h : ∀ k, k < q.length → ¬ 12 < Lib.maxOf (wayAt q k)) : bigB q = false := by
  rw [Bool.eq_false_iff]
  intro h1
  simp only [bigB, List.any_eq_true, decide_eq_true_eq] at h1
  obtain ⟨s, hs, h2⟩ := h1
  obtain ⟨k, hk, rfl⟩ := List.mem_iff_getElem.1 hs
  have e : wayAt q k = q[k].1 := by simp [wayAt, List.getD_eq_getElem?_getD, hk]
  exact h k hk (by rw [e]; exact h2)
end Go.Proofs.YtfikkfbnlegflaaGreatDoor

set_option linter.unusedVariables false
set_option linter.unusedSimpArgs false
namespace Go.Proofs.YtfikkfbnlegflaaGreatDoor
open Go.RowKit

set_option maxRecDepth 100000 in
set_option maxHeartbeats 8000000 in
theorem pathsOf_any (r : Int) (ta : Option Addr) (tn tc : Nat) (ts : List Int) (aw : Option Addr) (nw cw : Nat) (W : List Int) (w : World) (hc : IntsAt w ta tn ts) (hw : IntsAt w aw nw W) (hnil : aw = none → cw = 0) (hcn : tn ≤ 9223372036854775807) (hwn : nw ≤ 9223372036854775807) (hm : MaxL w) (htb : Tab w) :
    PathsL 42 #[carV r ta tn tc, .slice aw nw cw] w (pathsJ r ts W) := by
  unfold PathsL
  have hmm := @run_makeMap Tryz.prog
  have hx1 := Ext.alloc w (.cells #[.int .i64 r, .slice ta tn tc] 31)
  have HC := hidP (fun w' (hx : Ext (w.alloc (.cells #[.int .i64 r, .slice ta tn tc] 31)) w') => (CarAt.new w _ rfl r ta tn tc 31).below hx)
  have HX1 := hidP hx1
  have HIs := hidP (fun w' (hx : Ext w w') => isCartan_any r ta tn tc ts w' (hc.below hx) hcn (hm.below hx))
  have HW := hidP hw
  have Hc := hidP hc
  have HN := hidP hnil
  have HMx := hidP hm
  have HTb := hidP htb
  clear hc hw hx1 hnil hm htb
  obtain ⟨w1, hw1⟩ : ∃ w1, w1 = w.alloc (.cells #[.int .i64 r, .slice ta tn tc] 31) := ⟨_, rfl⟩
  rw [← hw1] at HC HX1
  obtain ⟨f0, f1⟩ := HC.out w1 (Ext.refl w1)
  cases hT : typeB r ts with
  | false =>
    have HJ : Hid (pathsJ r ts W = []) := by
      show _ = _
      unfold pathsJ pathsR
      rw [hT]
      rfl
    rw [hT] at HIs
    clear hT
    go_enter Tryz.func42, Tryz.ntmps42
    go_wp2_with fail
    rw [← hw1]
    clear hw1
    refine (HIs.out _ HX1.out).mono ?_
    rintro e w2 ⟨rfl, hx⟩
    have HX := hidP (HX1.out.trans hx)
    clear hx
    go_wp2
    go_ret
    exact ⟨none, 0, 0, [], rfl, ownL_none _ _ _, HJ.out.symm, HX.out⟩
  | true =>
    have hr := typeB_rank hT
    obtain ⟨R, rfl⟩ : ∃ R : Nat, r = R := ⟨r.toNat, by omega⟩
    have hR1 : 1 ≤ R := by omega
    have hR4 : R ≤ 4 := by omega
    have HTy := hidP hT
    have HI0 := hidP (HIs.out _ HX1.out)
    rw [hT] at HI0
    have HHi := hidP (fun w' (hx : Ext w w') => isHighest_any R ta tn tc aw nw cw W w' (HW.out.below hx) hwn (by omega))
    cases hH : highB R W with
    | false =>
      have HJ : Hid (pathsJ R ts W = []) := by
        show _ = _
        unfold pathsJ pathsR
        rw [hT, Int.toNat_natCast, hH]
        rfl
      rw [hH] at HHi
      clear hT hH hr
      go_enter Tryz.func42, Tryz.ntmps42
      go_wp2_with fail
      rw [← hw1]
      clear hw1
      refine HI0.out.mono ?_
      rintro e w2 ⟨rfl, hx⟩
      have HX := hidP (HX1.out.trans hx)
      obtain ⟨g0, g1⟩ := HC.out w2 hx
      clear hx f0 f1
      go_wp2_with fail
      refine (HHi.out _ HX.out).mono ?_
      rintro e w3 ⟨rfl, hx⟩
      have HX3 := hidP (HX.out.trans hx)
      clear hx g0 g1
      go_wp2
      go_ret
      exact ⟨none, 0, 0, [], rfl, ownL_none _ _ _, HJ.out.symm, HX3.out⟩
    | true =>
      have HJ : Hid (pathsJ R ts W = (explF R ts bigB W).getD []) := by
        show _ = _
        rw [paths_same hT hH]
        unfold pathsJ pathsR
        rw [hT, Int.toNat_natCast, hH]
        rfl
      rw [hH] at HHi
      have hl := (highB_iff hH).1
      have hl2 := HW.out.len
      obtain rfl : nw = R := by omega
      have hb := wayB_high hH
      have HSt := hidP (fun w' (h : Ext w w') => straight_any nw ta tn tc ts aw cw W w' (Hc.out.below h) hcn hT (HW.out.below h) HN.out hb (HMx.out.below h))
      have HIt := HIs
      rw [hT] at HIt
      have HLo := hidP (fun w' (h : Ext w w') (i : Nat) (a : Option Addr) (n c : Nat) (xs : List Stp) hi h1 h2 => lowered_any nw ta tn tc ts i a n c xs w' (Hc.out.below h) hT hi h1 h2 (fun w'' hx' => HIs.out w'' (h.trans hx')))
      have HKy := hidP (fun w' (h : Ext w w') (a : Option Addr) (n c : Nat) (xs : List Stp) (h1 : TermsAt w' a n xs) (hp : PathP nw xs) => pathKey_any a n c xs w' h1 (smallP_of hp hR4) (by have := hp.len; have := h1.len; omega) (HTb.out.below h))
      have HSk := hidP (seeks_start hR4 ts bigB W)
      obtain ⟨res, hres⟩ : ∃ res, res = explF nw ts bigB W := ⟨_, rfl⟩
      rw [← hres] at HSk HJ
      have hPW : PathP nw (straight W) := pathB_iff.1 (by simp [straight, pathB, stepB, wayAt, lenAt, timeAt, hb, List.range_succ])
      have HPW := hidP hPW
      clear hT hH hl hl2 hb hres hPW hr HIs HIt HW HN Hc HMx
      go_enter Tryz.func42, Tryz.ntmps42
      go_wp2_with fail
      rw [← hw1]
      clear hw1
      refine HI0.out.mono ?_
      rintro e w2 ⟨rfl, hx⟩
      have HX2 := hidP hx
      obtain ⟨g0, g1⟩ := HC.out w2 hx
      clear hx f0 f1
      go_wp2_with fail
      refine (HHi.out _ (HX1.out.trans HX2.out)).mono ?_
      rintro e w3 ⟨rfl, hx⟩
      have HX3 := hidP (HX2.out.trans hx)
      obtain ⟨f0, f1⟩ := HC.out w3 HX3.out
      clear hx g0 g1
      go_wp2_with fail
      refine (HSt.out _ (HX1.out.trans HX3.out)).mono ?_
      rintro e w4 ⟨a4, hs4, rfl, ho4, hx4⟩
      have hx34 := HX3.out.trans hx4
      have hok : PEl.Ok w4 w1.heap.size ⟨w3.heap.size, w4.heap.size, a4, 1, hs4, straight W⟩ := ⟨ho4, HX3.out.size, hx4.size, Nat.le_refl _⟩
      have hx5 := Ext.alloc w4 (.cells #[.slice a4 1 1] 28)
      have hx6 := Ext.alloc (w4.alloc (.cells #[.slice a4 1 1] 28)) (.map #[] 0)
      have HPs6 := hidP ((OwnPs.single w4 w1.heap.size _ hok hx34.size).below hx6)
      have HX6 := hidP (hx34.trans (hx5.trans hx6))
      have HKy0 := hidP (HKy.out _ (HX1.out.trans HX6.out) a4 1 1 (straight W) ((ho4.below (hx5.trans hx6)).termsAt) HPW.out)
      have hm6 := MapS.made (w4.alloc (.cells #[.slice a4 1 1] 28)) Tryz.prog 9
      rw [show (w4.alloc (.cells #[.slice a4 1 1] 28)).heap.size = w4.heap.size + 1 by simp] at hm6
      have HM6 := hidP hm6
      have q0 := (new_cell (w' := (w4.alloc (.cells #[.slice a4 1 1] 28)).alloc (.map #[] 0)) (b := w4.heap.size) rfl hx6 0).1.trans (show _ = some (Value.slice a4 1 1) from rfl)
      have hks := key_size HPW.out hR4
      have Hz := hidP (show w1.heap.size ≤ w4.heap.size from hx34.size)
      clear hx4 hx34 hok hx5 hx6 hm6 ho4 f0 f1
      go_wp2_with fail
      refine HKy0.out.mono ?_
      rintro e w7 ⟨rfl, hx7⟩
      have HM7 := hidP (HM6.out.below hx7)
      have HPs7 := hidP (HPs6.out.below hx7)
      have HX7 := hidP (HX6.out.trans hx7)
      clear hx7 HM6 HPs6 HX6 HKy0 q0
      go_wp2_with (first | (refine wpList_insertS rfl _ _ _ 86 9 4 rfl Tryz.underlying9 Tryz.underlying86 (w4.heap.size + 1) 0 (fun _ => none) rfl HM7.out (by unfold maxLen; omega) (str (pathT (straight W))) rfl hks (.bool true) rfl ?_; intro w8 hm8 hg8; have HM8 := hidP hm8; have HG8 := hidP hg8; clear hm8 hg8) | fail)
      have HPM8 : Hid (PMem nw w1 w8 (w4.heap.size + 1) (some ⟨w4.heap.size, 0, none⟩) 1 1 [⟨w3.heap.size, w4.heap.size, a4, 1, hs4, straight W⟩] (putF (fun _ => none) (str (pathT (straight W))) (.bool true))) := by
        refine ⟨HPs7.out.kept HG8.out fun b e => ?_, fun e he => ?_, HM8.out, seenP_nil.put (straight W), fun e he => ?_, fun o e => ?_, HX7.out.onMap HG8.out (by have := Hz.out; omega), by have := Hz.out; omega⟩
        · simp only [Option.some.injEq] at e
          subst e
          refine ⟨fun o e2 => ?_, fun e he => ?_⟩
          · simp only [Option.some.injEq, Addr.mk.injEq] at e2
            omega
          · simp only [List.mem_singleton] at he
            subst he
            right
            show w4.heap.size ≤ _
            omega
        · simp only [List.mem_singleton] at he
          subst he
          exact HPW.out
        · simp only [List.mem_singleton] at he
          subst he
          left
          show w4.heap.size ≤ _
          omega
        · simp only [Option.some.injEq, Addr.mk.injEq] at e
          omega
      obtain ⟨bm, hbm⟩ : ∃ bm, bm = w4.heap.size + 1 := ⟨_, rfl⟩
      rw [← hbm] at HPM8 ⊢
      clear HPs7 HG8 HM8 HM7 HX7 hbm hks
      go_loopw [5, 7] (fun oo kk wr => ∃ (k n c : Nat) (a : Option Addr) (ps : List PEl) (f : ByteArray → Option Value), oo = .slice a n c ∧ kk = .int .i64 k ∧ k ≤ n ∧ n ≤ 400 ∧ Hid (PMem nw w1 wr bm a n c ps f) ∧ Hid (Seeks nw ts bigB k 0 (ps.map PEl.q) res)) (fun _ kk _ => 400 - (intOf kk).toNat)
      case atStart => exact ⟨0, 1, 1, _, _, _, rfl, rfl, by omega, by omega, HPM8, HSk⟩
      case round =>
        clear HPM8 HSk
        obtain ⟨k, n, c, a, ps, f, rfl, rfl, hk, hn, HP, HK⟩ := hrel
        have hl := HP.out.own.len
        by_cases hlt : k < n
        · obtain ⟨f0, f1⟩ := HC.out _ HP.out.ext
          go_wp2
          clear f0 f1
          go_loopw [5, 40] (fun oo ii wr' => ∃ (i n c : Nat) (a : Option Addr) (ps : List PEl) (f : ByteArray → Option Value), oo = .slice a n c ∧ ii = .int .i64 i ∧ i ≤ nw ∧ k < n ∧ n ≤ 400 ∧ Hid (PMem nw w1 wr' bm a n c ps f) ∧ Hid (Seeks nw ts bigB k i (ps.map PEl.q) res)) (fun _ ii _ => nw - (intOf ii).toNat)
          case atStart => exact ⟨0, n, c, a, ps, f, rfl, rfl, Nat.zero_le _, hlt, hn, HP, HK⟩
          case round =>
            clear HP HK hl
            obtain ⟨i, n2, c2, a2, ps2, f2, rfl, rfl, hi, hkn, hn2, HP, HK⟩ := hrel
            have hl := HP.out.own.len
            by_cases hiR : i < nw
            · obtain ⟨g, rfl, _, _, _, _⟩ := HP.out.own.form
              obtain ⟨hk2, hcell⟩ := HP.out.own.cell hkn rfl
              obtain ⟨E, hE0⟩ : ∃ E, E = ps2[k] := ⟨_, rfl⟩
              rw [← hE0] at hcell
              have hEm : E ∈ ps2 := by rw [hE0]; exact List.getElem_mem _
              have hEq : (ps2.map PEl.q).getD k [] = E.q := by rw [hE0]; simp [List.getD_eq_getElem?_getD, hk2]
              have HEq := hidP hEq
              have HEo := hidP (HP.out.own.each E hEm)
              have HEp := hidP (HP.out.path E hEm)
              have hcl := World.block_lt_of_cell? _ _ hcell
              have HF : Hid (∀ w', Ext wr w' → CarAt w' w.heap.size nw ta tn tc ∧ w'.cell? ⟨g, k, none⟩ = some (.slice E.at_ E.q.length E.cap)) := fun w' hx => ⟨HC.out w' (HP.out.ext.trans hx), (hx.cell (p := ⟨g, k, none⟩) hcl).trans hcell⟩
              have HLw := hidP (fun w' (hx : Ext wr w') => HLo.out w' (HX1.out.trans (HP.out.ext.trans hx)) i E.at_ E.q.length E.cap E.q hiR (HEo.out.own.below hx).stepsAt HEp.out)
              rw [show lowR nw ts i E.q = optJ (lowF nw ts i E.q) from rfl, optJ_eq] at HLw
              unfold PathRes at HLw
              obtain ⟨f0, f1⟩ := HC.out _ HP.out.ext
              have hE : Ext wr wr.drew := Ext.drew wr
              have hk0 : (0 : Int) ≤ (k : Int) := by omega
              have hk1 : (k : Int) < (n2 : Int) := by omega
              clear hcell hE0 hEm hEq hcl
              go_wp2
              (refine walkR_start (fun w' => Ext wr w') 12 (by kernel_rfl) ?_; simp only [numbered, List.take_succ_cons, List.take_zero, Nat.zero_add, Nat.reduceAdd, List.length_cons, List.length_nil])
              (repeat (first | (refine walkR_still (v := ?_) rfl (by decide +kernel) rfl (fun _ _ _ h => h) hE ?_ ?_; rotate_left; (focus (intro w' hw'; obtain ⟨⟨f0, f1⟩, q1⟩ := HF.out w' hw'; go_simp; all_goals (with_reducible rfl))); simp only [Act.put, List.setIfInBounds_toArray, List.set_cons_zero, List.set_cons_succ]) | (refine walkR_skip rfl (by decide +kernel) rfl (fun _ _ _ h => h) hE ?_; simp only [Act.put, List.setIfInBounds_toArray, List.set_cons_zero, List.set_cons_succ])))
              (refine walkR_only (fun w' => Ext wr w') rfl (by decide +kernel) rfl (fun _ h => h) ?_; intro K hK; go_simp; refine (HLw.out _ hE).mono ?_; rintro e w3' ⟨a3, n3, c3, hs3, rfl, ho3, hx3⟩; refine hK _ _ (hE.trans hx3) ?_; clear hK K; (try simp only [Act.put, List.setIfInBounds_toArray, List.set_cons_zero, List.set_cons_succ]))
              have hE3 := hE.trans hx3
              (repeat (first | (refine walkR_still (v := ?_) rfl (by decide +kernel) rfl (fun _ _ _ h => h) hE3 ?_ ?_; rotate_left; (focus (intro w' hw'; skip; go_simp; all_goals (with_reducible rfl))); simp only [Act.put, List.setIfInBounds_toArray, List.set_cons_zero, List.set_cons_succ]) | (refine walkR_skip rfl (by decide +kernel) rfl (fun _ _ _ h => h) hE3 ?_; simp only [Act.put, List.setIfInBounds_toArray, List.set_cons_zero, List.set_cons_succ])))
              (refine walkR_tail (by rfl) (by kernel_rfl) ?_; simp only [List.drop_succ_cons, List.drop_zero])
              have HP3 := hidP (HP.out.below hE3)
              have HT3 := hidP ho3
              obtain ⟨lo, hlo⟩ : ∃ x, x = wr.drew.heap.size := ⟨_, rfl⟩
              rw [← hlo] at HT3
              have HSz := hidP (show lo ≤ w3'.heap.size by rw [hlo]; exact hx3.size)
              have HTop := hidP (fun e (hf : e ∈ ps2) => (show e.hi ≤ lo by rw [hlo]; exact Nat.le_trans (HP.out.own.each e hf).top hE.size))
              have HGl := hidP (show g < lo by rw [hlo]; obtain ⟨g', e, _, h, _⟩ := HP.out.own.form; cases e; exact Nat.lt_of_lt_of_le h hE.size)
              have HBm := hidP (show bm < lo by rw [hlo]; exact Nat.lt_of_lt_of_le HP.out.map.lt hE.size)
              clear hlo
              have HX3 := hidP HP3.out.ext
              clear hE hE3 hx3 ho3 HLw HF HP
              cases hq : lowF nw ts i E.q with
              | none =>
                have HK2 := hidP (HK.out.none_ (by rw [List.length_map]; omega) hiR (by rw [HEq.out]; exact hq))
                simp only [Option.isSome_none]
                clear hq HT3
                go_wp2
                go_roundw
                case rel => exact ⟨i + 1, n2, c2, _, ps2, f2, rfl, by go_num, by omega, hkn, hn2, HP3, HK2⟩
                case measure => simp [intOf]; omega
              | some q =>
                rw [hq] at HT3
                simp only [Option.isSome_some]
                have hpp := pathB_iff.1 (lowS_path hq)
                have hql : n3 ≤ 60 := by have := hpp.len; have := HT3.out.xl; simp only [optS, Option.getD_some] at this; omega
                have HQ := hidP (show lowF nw ts i ((ps2.map PEl.q).getD k []) = some q by rw [HEq.out]; exact hq)
                have HKq := hidP (HKy.out _ (HX1.out.trans HX3.out) a3 n3 c3 q HT3.out.termsAt hpp)
                have hks := key_size hpp hR4
                have HPp := hidP hpp
                have HSn := hidP (HP3.out.seen q)
                clear hq hpp
                cases hct : (ps2.map PEl.q).contains q with
                | true =>
                  rw [hct] at HSn
                  have HK2 := hidP (HK.out.seen (by rw [List.length_map]; omega) hiR HQ.out hct)
                  clear hct
                  go_wp2_with fail
                  refine HKq.out.mono ?_
                  rintro e w4' ⟨rfl, hx4⟩
                  have HP4 := hidP (HP3.out.below hx4)
                  clear hx4 HKq HP3 HT3
                  go_wp2_with (first | (at_lookup; refine wpList_unguardM rfl ?_; refine wpList_lookupS _ rfl _ _ 86 9 4 rfl Tryz.underlying9 Tryz.underlying86 (.bool false) (zero_bool _) bm n2 f2 rfl HP4.out.map (str (pathT q)) rfl hks ?_; rw [HSn.out]) | fail)
                  go_roundw
                  case rel => exact ⟨i + 1, n2, c2, _, ps2, f2, rfl, by go_num, by omega, hkn, hn2, HP4, HK2⟩
                  case measure => simp [intOf]; omega
                | false =>
                  rw [hct] at HSn
                  have HCt := hidP hct
                  have hlm : (ps2.map PEl.q).length = n2 := by rw [List.length_map]; exact hl
                  clear hct
                  go_wp2_with fail
                  refine HKq.out.mono ?_
                  rintro e w4' ⟨rfl, hx4⟩
                  have HP4 := hidP (HP3.out.below hx4)
                  have HT4 := hidP (HT3.out.below hx4)
                  have HSz4 := hidP hx4.size
                  have hxl := HT4.out.xl
                  simp only [optS, Option.getD_some] at hxl
                  subst hxl
                  clear hx4 HKq HP3 HT3
                  go_wp2_with (first | (at_lookup; refine wpList_unguardM rfl ?_; refine wpList_lookupS _ rfl _ _ 86 9 4 rfl Tryz.underlying9 Tryz.underlying86 (.bool false) (zero_bool _) bm n2 f2 rfl HP4.out.map (str (pathT q)) rfl hks ?_; rw [HSn.out]) | fail)
                  go_loopw [63] (fun jj w5 => ∃ (j : Nat), jj = .int .i64 j ∧ j ≤ q.length ∧ Hid (∀ j', j' < j → Lib.maxOf (wayAt q j') ≤ 12) ∧ Hid (Ext w4' w5)) (fun jj _ => q.length - (intOf jj).toNat)
                  case atStart => exact ⟨0, rfl, Nat.zero_le _, fun j' h => absurd h (Nat.not_lt_zero _), Ext.refl _⟩
                  case round =>
                    obtain ⟨j, rfl, hj, HJ3, HX5⟩ := hrel
                    by_cases hj3 : j < q.length
                    · obtain ⟨b, o, av, cv, e3, p0, p1, hI, hIl, _⟩ := ((HT4.out.below HX5.out).stepsAt).get j hj3
                      simp only [optS, Option.getD_some] at p0 p1 hI hIl
                      subst e3
                      have hwl := (HPp.out.way j hj3).1
                      have hxa := Ext.alloc wr (.cells #[.slice av (wayAt q j).length cv, .int .i64 (lenAt q j)] 69)
                      have HMa := hidP (maxI_any av (wayAt q j).length cv (wayAt q j) _ (hI.below hxa) (by omega) (by omega))
                      have HX6 := hidP (HX5.out.trans hxa)
                      obtain ⟨v, hv⟩ : ∃ v, v = Lib.maxOf (wayAt q j) := ⟨_, rfl⟩
                      rw [← hv] at HMa
                      have Hv := hidP hv
                      clear hv hwl hxa hI hIl
                      generalize (wayAt q j).length = vn at *
                      generalize lenAt q j = vl at *
                      have q5 := (new_cell (w' := wr.alloc (.cells #[.slice av vn cv, .int .i64 vl] 69)) (b := wr.heap.size) rfl (Ext.refl _) 0).1.trans (show _ = some (Value.slice av vn cv) from rfl)
                      go_wp2_with fail
                      refine HMa.out.mono ?_
                      rintro e w6 ⟨rfl, rfl⟩
                      clear q5 p0 p1 HMa
                      by_cases hbig : 12 < v
                      · have hres := HK.out.given (by rw [List.length_map]; omega) hiR HQ.out HCt.out (by rw [bigB_true hj3 (by rw [← Hv.out]; exact hbig)]; rfl)
                        have HR := hidP (HJ.out.trans (by rw [hres]; rfl : res.getD [] = []))
                        have HXz := hidP (HX1.out.trans (HP4.out.ext.trans HX6.out))
                        clear hres
                        go_wp2
                        go_ret
                        exact ⟨none, 0, 0, [], rfl, ownL_none _ _ _, HR.out.symm, HXz.out⟩
                      · have HJ4 : Hid (∀ j', j' < j + 1 → Lib.maxOf (wayAt q j') ≤ 12) := by
                          show ∀ j', _
                          intro j' h1
                          rcases Nat.lt_succ_iff_lt_or_eq.1 h1 with h2 | rfl
                          · exact HJ3.out j' h2
                          · rw [← Hv.out]
                            exact Int.not_lt.1 hbig
                        go_wp2
                        go_roundw
                        case rel => exact ⟨j + 1, by go_num, by omega, HJ4, HX6⟩
                        case measure => simp [intOf]; omega
                    · have hst : bigB q = false := bigB_false fun j' hj' => by have := HJ3.out j' (by omega); omega
                      have HP5 := hidP (HP4.out.below HX5.out)
                      have HT5 := hidP (HT4.out.below HX5.out)
                      have HSz5 := hidP (Nat.le_trans HSz4.out HX5.out.size)
                      clear HP4 HT4 HSz4 HX5 HJ3
                      by_cases h400 : n2 = 400
                      · have hres := HK.out.given (by rw [List.length_map]; omega) hiR HQ.out HCt.out (by rw [hlm, h400]; simp)
                        have HR := hidP (HJ.out.trans (by rw [hres]; rfl : res.getD [] = []))
                        have HXz := hidP (HX1.out.trans HP5.out.ext)
                        have hb4 : ((n2 : Int) == 400) = true := by simp [h400]
                        clear hst hres h400
                        go_wp2
                        go_ret
                        exact ⟨none, 0, 0, [], rfl, ownL_none _ _ _, HR.out.symm, HXz.out⟩
                      · have hK2 := HK.out.more (by rw [List.length_map]; omega) hiR HQ.out HCt.out (by rw [hst, hlm]; simpa using h400)
                        have hb4 : ((n2 : Int) == 400) = false := beq_eq_false_iff_ne.2 (by omega)
                        have hn3 : n2 + 1 ≤ 400 := by omega
                        have HKq := hidP (HKy.out _ (HX1.out.trans HP5.out.ext) a3 q.length c3 q HT5.out.termsAt HPp.out)
                        have HK7 : Hid (Seeks nw ts bigB k (i + 1) ((ps2 ++ [PEl.mk lo w3'.heap.size a3 c3 hs3 q]).map PEl.q) res) := by
                          show Seeks _ _ _ _ _ _ _
                          rw [List.map_append]
                          exact hK2
                        clear hst h400 hK2 hlm
                        go_wp2_with fail
                        refine HKq.out.mono ?_
                        rintro e w6 ⟨rfl, hx6⟩
                        have HP6 := hidP (HP5.out.below hx6)
                        have HE6 : Hid (PEl.Ok w6 w1.heap.size (PEl.mk lo w3'.heap.size a3 c3 hs3 q)) :=
                          ⟨HT5.out.below hx6, by have := HBm.out; have := HP6.out.base; show w1.heap.size ≤ lo; omega, HSz.out, by have := HSz5.out; have := hx6.size; show w3'.heap.size ≤ _; omega⟩
                        clear hx6 HKq HP5 HT5
                        go_wp2_with (first | (at_mapUpdate; refine wpList_updateS _ rfl _ _ _ 86 9 4 rfl Tryz.underlying9 Tryz.underlying86 bm n2 f2 rfl HP6.out.map (by unfold maxLen; omega) (str (pathT q)) rfl hks (.bool true) rfl ?_; intro w7 hm7 hg7; have HM7 := hidP (hm7.below (Ext.alloc w7 (.cells #[.slice a3 q.length c3] 28))); have HO7 := hidP ((HP6.out.onMap hg7).1.below (Ext.alloc w7 (.cells #[.slice a3 q.length c3] 28))); have HX7 := hidP ((HP6.out.onMap hg7).2.trans (Ext.alloc w7 (.cells #[.slice a3 q.length c3] 28))); have HE7 := hidP ((HE6.out.onMap hg7 (.inr HBm.out)).below (Ext.alloc w7 (.cells #[.slice a3 q.length c3] 28))); have HCe : Hid ((w7.alloc (.cells #[.slice a3 q.length c3] 28)).cell? ⟨w7.heap.size, 0, none⟩ = some (PEl.val ⟨lo, w3'.heap.size, a3, c3, hs3, q⟩)) := (cell_top _ _ _ _ _ rfl).trans rfl; clear hm7 hg7) | (at_builtin; refine wpList_append_path rfl (.tmp 78) (.tmp 80) rfl w1.heap.size _ n2 c2 ps2 rfl HO7.out w7.heap.size 1 _ rfl HCe.out HE7.out (fun e hf => HTop.out e hf) (fun b o e => by cases e; left; exact HGl.out) (by omega) HX7.out.size ?_; intro a9 c9 w9 ho9 hg9 hn9; have HP9 := hidP (HP6.out.grow HO7.out HX7.out HM7.out HPp.out HBm.out ho9 hg9 hn9); clear ho9 hg9 hn9) | fail)
                        go_roundw
                        case rel => exact ⟨i + 1, n2 + 1, c9, _, _, _, rfl, by go_num, by omega, by omega, by omega, HP9, HK7⟩
                        case measure => simp [intOf]; omega
            · obtain rfl : i = nw := by omega
              have HK2 := hidP (HK.out.next (by rw [List.length_map]; omega) hiR)
              go_wp2
              go_roundw
              case rel => exact ⟨k + 1, n2, c2, a2, ps2, f2, rfl, by go_num, by omega, hn2, HP, HK2⟩
              case measure => simp [intOf]; omega
        · obtain rfl : n = k := by omega
          have hres := HK.out.done (by rw [List.length_map]; omega)
          have HXz := hidP (HX1.out.trans HP.out.ext)
          have HR := hidP (HJ.out.trans (by rw [hres]; rfl : res.getD [] = ps.map PEl.q))
          clear hres
          go_wp2
          go_ret
          exact ⟨_, _, _, ps, rfl, (HP.out.own.ownL).base HX1.out.size, HR.out.symm, HXz.out⟩
end Go.Proofs.YtfikkfbnlegflaaGreatDoor

set_option linter.unusedVariables false
set_option linter.unusedSimpArgs false
namespace Go.Proofs.YtfikkfbnlegflaaGreatDoor
open Go.RowKit

theorem mem_getDL {L : List (List Stp)} {k : Nat} (h : k < L.length) : L.getD k [] ∈ L := by
  rw [List.getD_eq_getElem?_getD, List.getElem?_eq_getElem h]
  exact List.getElem_mem _
set_option maxHeartbeats 2000000 in
theorem eqStepSS_any (a a' : Option Addr) (n n' c c' : Nat) (L : List (List Stp)) (w : World) (h : PathsAt w a n L) (h' : PathsAt w a' n' L) (hL : L.length ≤ 1000000) (hl : ∀ p ∈ L, p.length ≤ 1000000) :
    Calls Tryz.prog 43 #[.slice a n c, .slice a' n' c'] w fun e w' => e = .returned (.bool true) ∧ Ext w w' := by
  have e1 := h.len
  have e2 := h'.len
  obtain rfl : n = n' := by omega
  have H1 := hidP h
  have H2 := hidP h'
  have HL := hidP e1
  have HB := hidP hl
  have hn : n ≤ 1000000 := by omega
  have hne : ((n : Int) != (n : Int)) = false := by simp
  clear h h' hl e1 e2
  go_enter Tryz.func43, Tryz.ntmps43
  go_wp2
  go_loopw [5] (fun i wr => ∃ k : Nat, k ≤ n ∧ i = .int .i64 k ∧ Hid (Ext w wr)) (fun i _ => n - (intOf i).toNat)
  case atStart => exact ⟨0, Nat.zero_le _, rfl, Ext.refl _⟩
  case round =>
    obtain ⟨k, hk, rfl, HX⟩ := hrel
    by_cases hlt : k < n
    · obtain ⟨b, o, a2, c2, rfl, hg, _⟩ := (H1.out.below HX.out).get k hlt
      obtain ⟨b', o', a3, c3, rfl, hg', _⟩ := (H2.out.below HX.out).get k hlt
      have hm := HB.out _ (mem_getDL (show k < L.length by have := HL.out; omega))
      have HG := hidP (fun w' (hx : Ext wr w') => (⟨(hg w' hx).1, (hg' w' hx).1⟩ : _ ∧ _))
      have HS := hidP (fun w' (hx : Ext wr w') => eqStepS_any a2 a3 _ _ c2 c3 (L.getD k []) (L.getD k []) w' (hg w' hx).2.terms (hg' w' hx).2.terms (by omega) (by omega))
      clear hg hg' hm
      obtain ⟨pk, hpk⟩ : ∃ pk, pk = L.getD k [] := ⟨_, rfl⟩
      rw [← hpk] at HG HS
      simp only [beq_self_eq_true] at HS
      clear hpk
      have hE : Ext wr wr.drew := Ext.drew wr
      go_wp2
      (refine walkR_start (fun w' => Ext wr w') 9 (by kernel_rfl) ?_; simp only [numbered, List.take_succ_cons, List.take_zero, Nat.zero_add, Nat.reduceAdd, List.length_cons, List.length_nil])
      (repeat (first | (refine walkR_still (v := ?_) rfl (by decide +kernel) rfl (fun _ _ _ h => h) hE ?_ ?_; rotate_left; (focus (intro w' hw'; obtain ⟨q1, q2⟩ := HG.out w' hw'; go_simp; all_goals (with_reducible rfl))); simp only [Act.put, List.setIfInBounds_toArray, List.set_cons_zero, List.set_cons_succ]) | (refine walkR_skip rfl (by decide +kernel) rfl (fun _ _ _ h => h) hE ?_; simp only [Act.put, List.setIfInBounds_toArray, List.set_cons_zero, List.set_cons_succ])))
      (refine walkR_only (fun w' => Ext wr w') rfl (by decide +kernel) rfl (fun _ h => h) ?_; intro K hK; go_simp; refine (HS.out _ hE).mono ?_; rintro e w3 ⟨rfl, hx3⟩; refine hK _ _ (hE.trans hx3) ?_; clear hK K; (try simp only [Act.put, List.setIfInBounds_toArray, List.set_cons_zero, List.set_cons_succ]))
      have hE3 := hE.trans hx3
      clear hx3
      (repeat (first | (refine walkR_still (v := ?_) rfl (by decide +kernel) rfl (fun _ _ _ h => h) hE3 ?_ ?_; rotate_left; (focus (intro w' hw'; skip; go_simp; all_goals (with_reducible rfl))); simp only [Act.put, List.setIfInBounds_toArray, List.set_cons_zero, List.set_cons_succ]) | (refine walkR_skip rfl (by decide +kernel) rfl (fun _ _ _ h => h) hE3 ?_; simp only [Act.put, List.setIfInBounds_toArray, List.set_cons_zero, List.set_cons_succ])))
      (refine walkR_tail (by rfl) (by kernel_rfl) ?_; simp only [List.drop_succ_cons, List.drop_zero])
      have HX3 := hidP (HX.out.trans hE3)
      clear hE3 hE
      go_wp2
      go_roundw
      case rel => exact ⟨k + 1, by omega, by go_num, HX3⟩
      case measure => simp [intOf]; omega
    · go_wp2
      go_ret
      exact ⟨rfl, HX.out⟩
set_option maxHeartbeats 2000000 in
theorem markStepSS_any (B U : Nat) (a : Option Addr) (n c : Nat) (ps : List PEl) (L : List (List Stp)) (k0 : Int) (w : World) (h : OwnL w B U a n c ps) (hq : ps.map PEl.q = L) (hm : mkL L L.length ≤ 10000000) (hk0 : 0 ≤ k0) (hk1 : k0 ≤ 1000000000) (hLb : L.length ≤ 1000000) :
    Calls Tryz.prog 46 #[.slice a n c, .int .i64 k0] w fun e w' => e = .returned (.int .i64 (k0 + mkL L L.length)) ∧ ∃ ys, OwnL w' B U a n c ys ∧ Hid (∀ k, k < L.length → MarkedL k0 L (ys.map PEl.q) k) ∧ Hid (ys.length = L.length) ∧ UpdB w w' B U := by
  have hl := h.len
  have hL : L.length = n := by rw [← hq, List.length_map]; exact hl
  have H := hidP h
  have HQ := hidP hq
  have HL := hidP hL
  have hcm : n ≤ 1000000 := by omega
  have HM := hidP hm
  clear h hq hL hl hm
  go_enter Tryz.func46, Tryz.ntmps46
  go_wp2
  go_loopw [1, 5] (fun kk i wr => ∃ (k : Nat) (ys : List PEl) (m : Nat), k ≤ n ∧ i = .int .i64 k ∧ kk = .int .i64 (k0 + m) ∧ m ≤ 10000000 ∧ Hid (m = mkL L k) ∧ Hid (OwnL wr B U a n c ys) ∧ Hid (ys.length = n) ∧ Hid (∀ j, j < k → MarkedL k0 L (ys.map PEl.q) j) ∧ Hid (∀ j, k ≤ j → (ys.map PEl.q).getD j [] = L.getD j []) ∧ Hid (UpdB w wr B U)) (fun _ i _ => n - (intOf i).toNat)
  case atStart => exact ⟨0, ps, 0, Nat.zero_le _, rfl, by simp, by omega, rfl, H, H.out.len, fun j hj => absurd hj (Nat.not_lt_zero _), fun j _ => by rw [HQ.out], UpdB.refl _ _ _⟩
  case round =>
    obtain ⟨k, ys, m, hk, rfl, rfl, hm, Hm, HO, HY, HJ, HR, HU⟩ := hrel
    by_cases hlt : k < n
    · have hky : k < ys.length := by have := HY.out; omega
      rcases HO.out.own with ⟨_, h0, _⟩ | ho
      · omega
      obtain ⟨g, rfl, _, _, _, _⟩ := ho.form
      obtain ⟨_, hcell⟩ := ho.cell hlt rfl
      have hE := ho.each ys[k] (List.getElem_mem _)
      have hqk : ys[k].q = L.getD k [] := by rw [← HR.out k (Nat.le_refl _), getD_q hky]
      have hs1 : mkL L (k + 1) = mkL L k + mkAt (L.getD k []) (L.getD k []).length := rfl
      have hs2 := mkL_le L (show k + 1 ≤ L.length by have := HL.out; omega)
      have hm1 := Hm.out
      have hm2 := HM.out
      have HO1 := hidP ho
      have HHi := hidP (HO.out.hiE ys[k] (List.getElem_mem _))
      have HBs := hidP hE.base
      obtain ⟨E, hEe⟩ : ∃ E, E = ys[k] := ⟨_, rfl⟩
      rw [← hEe] at hcell hE hqk HHi HBs
      have HEe := hidP hEe
      have HQk := hidP hqk
      have HEo := hidP hE
      have HMk := hidP (markStepS_any E.lo E.hi E.at_ E.q.length E.cap E.hs E.q (k0 + m) wr hE.own (by rw [hqk]; omega) (by omega) (by omega))
      rw [hqk, ← hqk] at HMk
      have hmm : m + mkAt E.q E.q.length ≤ 10000000 := by rw [hqk]; omega
      have Hs1 := hidP (show m + mkAt E.q E.q.length = mkL L (k + 1) by rw [hqk]; omega)
      obtain ⟨d, hd⟩ : ∃ d, d = mkAt E.q E.q.length := ⟨_, rfl⟩
      rw [← hd] at HMk hmm Hs1
      clear hs1 hs2 hm1 hm2 hqk hE hEe ho hd
      go_wp2_with fail
      refine HMk.out.mono ?_
      rintro e w1 ⟨rfl, xs, ho1, HMm, hu1⟩
      have HU1 := hidP hu1
      have HO2 := hidP ho1
      have HNew : Hid (OwnL w1 B U (some ⟨g, 0, none⟩) n c (ys.set k (E.new E.hs xs))) := by
        have h1 := HO1.out.setq (k := k) hky (hs' := E.hs) (q' := xs) (by rw [← HEe.out]; exact HO2.out) (by rw [← HEe.out]; exact HU1.out)
        rw [← HEe.out] at h1
        refine ⟨.inr h1, fun e he => ?_, HO.out.hiA⟩
        rcases List.mem_or_eq_of_mem_set he with h2 | rfl
        · exact HO.out.hiE e h2
        · exact HHi.out
      have HU2 : Hid (UpdB w w1 B U) := HU.out.trans (HU1.out.wide HBs.out HHi.out)
      have HJ2 : Hid (∀ j, j < k + 1 → MarkedL k0 L ((ys.set k (E.new E.hs xs)).map PEl.q) j) := by
        show ∀ j, _
        intro j hj
        unfold MarkedL
        rw [getD_setq hky]
        by_cases e : k = j
        · subst e
          rw [if_pos rfl]
          show xs.length = _ ∧ ∀ j, _ → MarkedAt _ _ xs j
          rw [← HQk.out]
          refine ⟨HO2.out.xl, fun j hj => ?_⟩
          have := HMm.out j hj
          rw [Hm.out] at this
          exact this
        · rw [if_neg e]
          exact HJ.out j (by omega)
      have HR2 : Hid (∀ j, k + 1 ≤ j → ((ys.set k (E.new E.hs xs)).map PEl.q).getD j [] = L.getD j []) := by
        show ∀ j, _
        intro j hj
        rw [getD_setq hky, if_neg (by omega)]
        exact HR.out j (by omega)
      have HY2 : Hid ((ys.set k (E.new E.hs xs)).length = n) := by
        show _ = _
        rw [List.length_set]
        exact HY.out
      clear ho1 hu1 hcell
      go_wp2
      go_roundw
      case rel => exact ⟨k + 1, _, m + d, by omega, by go_num, by simp [Int.add_assoc], hmm, Hs1, HNew, HY2, HJ2, HR2, HU2⟩
      case measure => simp [intOf]; omega
    · obtain rfl : k = n := by omega
      have HF : Hid ((k0 : Int) + (m : Int) = k0 + (mkL L L.length : Nat)) := by
        show _ = _
        rw [Hm.out, HL.out]
      have HJ2 : Hid (∀ j, j < L.length → MarkedL k0 L (ys.map PEl.q) j) := fun j hj => HJ.out j (by have := HL.out; omega)
      have HY2 : Hid (ys.length = L.length) := HY.out.trans HL.out.symm
      go_wp2
      go_ret
      exact ⟨ret_int HF.out, ys, HO.out, HJ2, HY2, HU.out⟩
set_option maxHeartbeats 2000000 in
theorem heldStepSS_any (a : Option Addr) (n c : Nat) (L : List (List Stp)) (X : List (List Stp)) (k0 : Int) (w : World) (h : PathsAt w a n X) (hM : ∀ k, k < L.length → MarkedL k0 L X k) (hl : X.length = L.length) (hm : mkL L L.length ≤ 10000000) (hk0 : 0 ≤ k0) (hk1 : k0 ≤ 1000000000) (hLb : L.length ≤ 1000000) :
    Calls Tryz.prog 47 #[.slice a n c, .int .i64 k0] w fun e w' => e = .returned (.int .i64 (k0 + mkL L L.length)) ∧ Ext w w' := by
  have H := hidP h
  have HMk := hidP hM
  have hL : L.length = n := by rw [← hl]; exact h.len
  have HL := hidP hL
  have HM := hidP hm
  have hcm : n ≤ 1000000 := by omega
  clear h hM hl hL hm
  go_enter Tryz.func47, Tryz.ntmps47
  go_wp2
  go_loopw [1, 5] (fun kk i wr => ∃ (k : Nat) (m : Nat), k ≤ n ∧ i = .int .i64 k ∧ kk = .int .i64 (k0 + m) ∧ m ≤ 10000000 ∧ Hid (m = mkL L k) ∧ Hid (Ext w wr)) (fun _ i _ => n - (intOf i).toNat)
  case atStart => exact ⟨0, 0, Nat.zero_le _, rfl, by simp, by omega, rfl, Ext.refl _⟩
  case round =>
    obtain ⟨k, m, hk, rfl, rfl, hm, Hm, HX⟩ := hrel
    by_cases hlt : k < n
    · obtain ⟨b, o, a2, c2, rfl, hg, _⟩ := (H.out.below HX.out).get k hlt
      obtain ⟨q1, hs⟩ := hg wr (Ext.refl _)
      obtain ⟨hxl, hmk⟩ := HMk.out k (by have := HL.out; omega)
      have hs1 : mkL L (k + 1) = mkL L k + mkAt (L.getD k []) (L.getD k []).length := rfl
      have hs2 := mkL_le L (show k + 1 ≤ L.length by have := HL.out; omega)
      have hm1 := Hm.out
      have hm2 := HM.out
      have HS := hidP (heldStepS_any a2 _ c2 (L.getD k []) (X.getD k []) (k0 + m) wr hs.terms (by rw [hxl, hm1]; exact hmk) (by rw [hxl]; omega) (by omega) (by omega))
      rw [hxl] at HS q1
      have hmm : m + mkAt (L.getD k []) (L.getD k []).length ≤ 10000000 := by omega
      have Hs1 := hidP (show m + mkAt (L.getD k []) (L.getD k []).length = mkL L (k + 1) by omega)
      obtain ⟨d, hd⟩ : ∃ d, d = mkAt (L.getD k []) (L.getD k []).length := ⟨_, rfl⟩
      rw [← hd] at HS hmm Hs1
      have hng : ¬ (k0 + (m : Int) + (d : Int) < 0) := by omega
      generalize (L.getD k []).length = len at *
      clear hs1 hs2 hm1 hm2 hd hs hxl hmk hg
      go_wp2_with fail
      refine HS.out.mono ?_
      rintro e w1 ⟨rfl, hx⟩
      have HX1 := hidP (HX.out.trans hx)
      clear hx
      go_wp2
      go_roundw
      case rel => exact ⟨k + 1, m + d, by omega, by go_num, by simp [Int.add_assoc], hmm, Hs1, HX1⟩
      case measure => simp [intOf]; omega
    · obtain rfl : k = n := by omega
      have HF : Hid ((k0 : Int) + (m : Int) = k0 + (mkL L L.length : Nat)) := by
        show _ = _
        rw [Hm.out, HL.out]
      go_wp2
      go_ret
      exact ⟨ret_int HF.out, HX.out⟩
end Go.Proofs.YtfikkfbnlegflaaGreatDoor

namespace Go.Proofs.YtfikkfbnlegflaaGreatDoor
open Go.RowKit

theorem szCartan_any (p : Int) (a : Option Addr) (n c : Nat) (left : Int) (w : World) (hn : n ≤ 9223372036854775807) (h0 : 0 ≤ left) (h1 : left ≤ 1048576) :
    Calls Tryz.prog 11 #[carV p a n c, .int .i64 left] w fun e w' => e = .returned (.int .i64 (szLeft n left)) ∧ Ext w w' := by
  have HQ := hidP (fun w' => szIntS_any a n c left w' hn h0 h1)
  by_cases hle : (n : Int) ≤ left
  · have HE : Hid (szLeft n left = left - n) := if_pos hle
    rw [HE.out] at HQ ⊢
    go_enter Tryz.func11, Tryz.ntmps11
    go_wp2_with (go_at_call 51; refine (HQ.out _).mono ?_; rintro e w' ⟨rfl, rfl⟩)
    go_ret
    exact ⟨rfl, Ext.alloc _ _⟩
  · have HE : Hid (szLeft n left = -1) := if_neg hle
    rw [HE.out] at HQ ⊢
    go_enter Tryz.func11, Tryz.ntmps11
    go_wp2_with (go_at_call 51; refine (HQ.out _).mono ?_; rintro e w' ⟨rfl, rfl⟩)
    go_ret
    exact ⟨rfl, Ext.alloc _ _⟩
set_option maxHeartbeats 1000000 in
theorem toCartan_any (p : Int) (a : Option Addr) (n c : Nat) (xs : List Int) (w : World) (h : IntsAt w a n xs) (hn : n ≤ 1048576) :
    Calls Tryz.prog 14 #[carV p a n c] w fun e w' => ∃ a', e = .returned (carV p a' n n) ∧ OwnI w' w.heap.size a' n n xs ∧ Ext w w' := by
  have HQ := hidP (fun w' (hx : Ext w w') => toIntS_any a n c xs w' (h.below hx) hn)
  clear h
  go_enter Tryz.func14, Tryz.ntmps14
  go_wp2_with fail
  have hx0 : Ext w (((w.alloc (.cells #[.int .i64 p, .slice a n c] 24)).alloc (.cells #[.int .i64 0, .slice none 0 0] 31)).alloc (.cells #[.int .i64 p, .slice none 0 0] 31)) :=
    ((Ext.alloc w _).trans (Ext.alloc _ _)).trans (Ext.alloc _ _)
  have hc0 := fun w1 hx j => new_cell (w' := w1) (w := ((w.alloc (.cells #[.int .i64 p, .slice a n c] 24)).alloc (.cells #[.int .i64 0, .slice none 0 0] 31))) (cs := #[.int .i64 p, .slice none 0 0]) (E := 31) (b := w.heap.size + 1 + 1) (by simp) hx j
  have hc1 := fun w1 hx j => new_cell (w' := w1) (w := w.alloc (.cells #[.int .i64 p, .slice a n c] 24)) (cs := #[.int .i64 0, .slice none 0 0]) (E := 31) (b := w.heap.size + 1) (by simp) ((Ext.alloc _ (.cells #[.int .i64 p, .slice none 0 0] 31)).trans hx) j
  have hs0 : w.heap.size + 2 < (((w.alloc (.cells #[.int .i64 p, .slice a n c] 24)).alloc (.cells #[.int .i64 0, .slice none 0 0] 31)).alloc (.cells #[.int .i64 p, .slice none 0 0] 31)).heap.size := by simp
  have hq := HQ.out _ hx0
  obtain ⟨W, hW⟩ : ∃ W, W = (((w.alloc (.cells #[.int .i64 p, .slice a n c] 24)).alloc (.cells #[.int .i64 0, .slice none 0 0] 31)).alloc (.cells #[.int .i64 p, .slice none 0 0] 31)) := ⟨_, rfl⟩
  rw [← hW] at hx0 hc0 hc1 hs0 hq ⊢
  clear hW HQ
  have HQ := hidP hq
  have HX := hidP hx0
  clear hq hx0
  refine HQ.out.mono ?_
  rintro e w1 ⟨a', rfl, ho, hx⟩
  have HO := hidP ho
  obtain ⟨q0, _⟩ := hc0 w1 hx 0
  obtain ⟨q1, z1⟩ := hc0 w1 hx 1
  obtain ⟨r0, y0⟩ := hc1 w1 hx 0
  obtain ⟨r1, y1⟩ := hc1 w1 hx 1
  have q0 := q0.trans (show _ = some (Value.int .i64 p) from rfl)
  have q1 := q1.trans (show _ = some (Value.slice none 0 0) from rfl)
  have r0 := r0.trans (show _ = some (Value.int .i64 0) from rfl)
  have r1 := r1.trans (show _ = some (Value.slice none 0 0) from rfl)
  have HX1 := hidP (HX.out.trans hx)
  have hsz : w.heap.size + 2 < W.heap.size := hs0
  clear hc0 hc1 ho hx hs0
  go_wp2
  refine bodyPost_ret (v := carV p a' n n) (by simp [results, Tryz.results14, go_sem, r0, r1]) rfl ⟨_, rfl, ?_, ?_⟩
  · refine OwnI.base (B := W.heap.size) ?_ (by omega)
    refine OwnI.setBelow (OwnI.setBelow (OwnI.setBelow HO.out _ _ ?_ _) _ _ ?_ _) _ _ ?_ _ <;> omega
  · refine Ext.setNew (Ext.setNew (Ext.setNew HX1.out _ _ ?_ _) _ _ ?_ _) _ _ ?_ _ <;> omega
end Go.Proofs.YtfikkfbnlegflaaGreatDoor

namespace Go.Proofs.YtfikkfbnlegflaaGreatDoor
open Go.ChangeShapes Go.WideShapes Go.ChangeAt Go.RowKit Go.Joins Go.Deep

section
variable {H : Type} {enc : TypeId × Value → H} {P : Program} {w : World} {base : Nat} {spare : Nat → Bool} {held : Bool}
/-- a Cartan matrix by value -/
theorem car_in {r : Reach} {b0 : Nat} {t ti : TypeId} {f0 f1 : Field} {v : Value} {d : DataW H} {p : List MemPlace} (hs : P.underlying t = some (.struct #[f0, f1])) (hone : oneCellFields P #[f0, f1] = true) (hC : P.cellsOf t = 2)
    (e0 : P.underlying f0.type = some (.int .i64)) (e1 : P.underlying f1.type = some (.slice ti)) (he : P.underlying ti = some (.int .i64)) (hc : P.cellsOf ti = 1)
    (hv : Value.okWide P w r b0 t v) (h : DataW.Trod enc P w base spare held t v d p) :
    ∃ p ao n c xs, v = carV p ao n c ∧ IntsAt w ao n xs ∧ n ≤ c ∧ n ≤ 9223372036854775807 := by
  obtain ⟨v0, v1, y0, y1, n, rfl, _, _, h0, h1⟩ := open_agg2 hs hone hC hv h
  obtain ⟨m0, q0, _⟩ := DataW.trod_int e0 h0
  obtain ⟨ao, n, c, xs, q1, hi, hn, hn2, _⟩ := ints_in e1 he hc h1
  simp only [List.cons.injEq, and_true] at q0 q1
  subst q0 q1
  exact ⟨m0, ao, n, c, xs, rfl, hi, hn, hn2⟩
end
end Go.Proofs.YtfikkfbnlegflaaGreatDoor

namespace Go.Proofs.YtfikkfbnlegflaaGreatDoor
open Go.RowKit

end Go.Proofs.YtfikkfbnlegflaaGreatDoor

namespace Go.Proofs.YtfikkfbnlegflaaGreatDoor.fnExactPathsOf
open Go.ChangeShapes Go.WideShapes Go.ChangeAt Go.RowKit
set_option linter.unusedVariables false

theorem ownI_hi {w w' : World} {B' B U n c : Nat} {a : Option Addr} {xs : List Int} (h : OwnI w B' a n c xs) (hu : UpdB w w' B U) (hB : U ≤ B') : OwnI w' B' a n c xs :=
  h.updB hu fun b o e => .inr (Nat.le_trans hB (h.at_base b o e).1)

set_option maxHeartbeats 8000000 in
/-- The Go text returns true, and leaves what was there. -/
theorem walk (r : Int) (ta : Option Addr) (tn tc : Nat) (ts : List Int) (a1 : Option Addr) (n1 c1 : Nat) (xs1 : List Int) (w : World) (hc : IntsAt w ta tn ts) (h1 : IntsAt w a1 n1 xs1) (hcn : tn ≤ 9223372036854775807) (hn1 : n1 ≤ 9223372036854775807) (hm : MaxL w) (htb : Tab w) :
    Calls Tryz.prog 9 #[carV r ta tn tc, .slice a1 n1 c1] w fun e w' => e = .returned (.bool true) ∧ Ext w w' := by
  have hx0 := Ext.alloc w (.cells #[.int .i64 r, .slice ta tn tc] 24)
  have HF := hidP (fun w' (hx : Ext (w.alloc (.cells #[.int .i64 r, .slice ta tn tc] 24)) w') => (CarAt.new w _ rfl r ta tn tc 24).below hx)
  have X := hidP hx0
  have HT := hidP hc
  have HU1 := hidP h1
  have HTb := hidP htb
  have HM := hidP hm
  clear hc h1 hm hx0 htb
  have hz0 : w.heap.size < (w.alloc (.cells #[.int .i64 r, .slice ta tn tc] 24)).heap.size := by simp
  obtain ⟨J2, hJ⟩ : ∃ J, J = pathsJ r ts xs1 := ⟨_, rfl⟩
  obtain ⟨hJl, hJm, hJs⟩ : J2.length ≤ 400 ∧ mkL J2 J2.length ≤ 10000000 ∧ ∀ p ∈ J2, p.length ≤ 1000000 := by rw [hJ]; exact pathsJ_small r ts xs1
  have HJs := hidP hJs
  clear hJs
  have HJ := hidP hJ
  clear hJ
  obtain ⟨w0, hw0⟩ : ∃ w0, w0 = w.alloc (.cells #[.int .i64 r, .slice ta tn tc] 24) := ⟨_, rfl⟩
  rw [← hw0] at X HF hz0
  have Hz0 := hidP hz0
  clear hz0
  have HSC := hidP (fun w' => szCartan_any r ta tn tc 1048576 w' hcn (by omega) (by omega))
  obtain ⟨f0, f1⟩ := HF.out w0 (Ext.refl _)
  go_enter Tryz.func9, Tryz.ntmps9
  by_cases hi1 : (n1 : Int) ≤ 1048576
  rotate_left
  · have hi1n : 1048576 < (n1 : Int) := by omega
    go_wp2
    go_ret
    exact ⟨rfl, Ext.alloc _ _⟩
  have hi1n : ¬ (1048576 < (n1 : Int)) := by omega
  have hi1m : n1 ≤ 1048576 := by omega
  by_cases hle : (tn : Int) ≤ 1048576
  · have HE : Hid (szLeft tn 1048576 = 1048576 - tn) := if_pos hle
    rw [HE.out] at HSC
    have hng : ¬ (1048576 - (tn : Int) < 0) := by omega
    go_wp2_with fail
    rw [← hw0]
    clear hw0
    refine (HSC.out _).mono ?_
    rintro e w1 ⟨rfl, hx⟩
    have Xw0 : Hid (Ext w0 w0) := hidP (Ext.refl w0)
    clear HSC f0 f1
    have Xw1 := hidP (Xw0.out.trans hx)
    have Zw1 : Hid (w0.heap.size ≤ w1.heap.size) := hx.size
    clear hx
    have htn : tn ≤ 1048576 := by omega
    have HTC := hidP (fun w' (hx : Ext w w') => toCartan_any r ta tn tc ts w' (HT.out.below hx) htn)
    have HTS1 := hidP (fun w' (hx : Ext w w') => toIntS_any a1 n1 c1 xs1 w' (HU1.out.below hx) hi1m)
    obtain ⟨f0, f1⟩ := HF.out w1 Xw1.out
    go_wp2_with fail
    refine (HTC.out _ (X.out.trans Xw1.out)).mono ?_
    rintro e w2 ⟨CS, rfl, hC, hx⟩
    clear f0 f1
    have FCS := hidP hC
    clear hC
    have Xw2 := hidP (Xw1.out.trans hx)
    have Zw2 : Hid (w1.heap.size ≤ w2.heap.size) := hx.size
    clear hx
    go_wp2_with fail
    refine (HTS1.out _ (X.out.trans Xw2.out)).mono ?_
    rintro e w3 ⟨PS1, rfl, hP, hx⟩
    have FPS1 := hidP hP
    clear hP
    have Xw3 := hidP (Xw2.out.trans hx)
    have Zw3 : Hid (w2.heap.size ≤ w3.heap.size) := hx.size
    have FCS_w3 := hidP (FCS.out.below hx)
    clear hx
    clear FCS
    have HR := hidP (sPathsOf_any r CS tn tn ts PS1 n1 n1 xs1 w3 FCS_w3.out.ints FPS1.out.ints FPS1.out.nil_cap (by omega) (by omega))
    unfold PathsL at HR
    rw [← HJ.out] at HR
    go_wp2_with fail
    refine HR.out.mono ?_
    rintro e w4 ⟨aS, nS, cS, KS, rfl, hR, hQ, hx⟩
    clear HR
    have FS := hidP hR
    have QS := hidP hQ
    clear hR hQ
    clear FCS_w3 FPS1
    have Xw4 := hidP (Xw3.out.trans hx)
    have Zw4 : Hid (w3.heap.size ≤ w4.heap.size) := hx.size
    clear hx
    obtain ⟨f0, f1⟩ := HF.out w4 Xw4.out
    go_wp2_with fail
    refine (HTC.out _ (X.out.trans Xw4.out)).mono ?_
    rintro e w5 ⟨CX, rfl, hC, hx⟩
    clear f0 f1
    have FCX := hidP hC
    have LCX : Hid (∀ b o, CX = some ⟨b, o, none⟩ → w4.heap.size ≤ b ∧ b < w5.heap.size) := fun b o e => hC.at_base b o e
    clear hC
    have Xw5 := hidP (Xw4.out.trans hx)
    have Zw5 : Hid (w4.heap.size ≤ w5.heap.size) := hx.size
    have FS_w5 := hidP (FS.out.below hx)
    clear hx
    clear FS
    go_wp2_with fail
    have hxa := Ext.alloc w5 (.cells #[.int .i64 r, .slice CX tn tn] 31)
    have FB := hidP (CarAt.new w5 _ rfl r CX tn tn 31)
    have hzz : w5.heap.size < (w5.alloc (.cells #[.int .i64 r, .slice CX tn tn] 31)).heap.size := by simp
    obtain ⟨w6, hww⟩ : ∃ x, x = w5.alloc (.cells #[.int .i64 r, .slice CX tn tn] 31) := ⟨_, rfl⟩
    rw [← hww] at hxa FB hzz ⊢
    clear hww
    have Hzz := hidP hzz
    clear hzz
    have Xw6 := hidP (Xw5.out.trans hxa)
    have Zw6 : Hid (w5.heap.size ≤ w6.heap.size) := hxa.size
    have FS_w6 := hidP (FS_w5.out.below hxa)
    have FCX_w6 := hidP (FCX.out.below hxa)
    clear hxa
    clear FS_w5 FCX
    refine (HTS1.out _ (X.out.trans Xw6.out)).mono ?_
    rintro e w7 ⟨PX1, rfl, hP, hx⟩
    have LPX1 : Hid (∀ b o, PX1 = some ⟨b, o, none⟩ → w6.heap.size ≤ b ∧ b < w7.heap.size) := fun b o e => hP.at_base b o e
    have FPX1 := hidP hP
    clear hP
    have Xw7 := hidP (Xw6.out.trans hx)
    have Zw7 : Hid (w6.heap.size ≤ w7.heap.size) := hx.size
    have FS_w7 := hidP (FS_w6.out.below hx)
    have FCX_w7 := hidP (FCX_w6.out.below hx)
    have FB_w7 := hidP (FB.out.below hx)
    clear hx
    clear FS_w6 FCX_w6 FB
    obtain ⟨y0, y1⟩ := FB_w7.out
    have HR := hidP (pathsOf_any r CX tn tn ts PX1 n1 n1 xs1 w7 FCX_w7.out.ints FPX1.out.ints FPX1.out.nil_cap (by omega) (by omega) (HM.out.below (X.out.trans Xw7.out)) (HTb.out.below (X.out.trans Xw7.out)))
    unfold PathsL at HR
    rw [← HJ.out] at HR
    go_wp2_with fail
    refine HR.out.mono ?_
    rintro e w8 ⟨aG, nG, cG, KG, rfl, hR, hQ, hx⟩
    clear HR
    have FG := hidP hR
    have QG := hidP hQ
    clear hR hQ
    clear y0 y1
    have Xw8 := hidP (Xw7.out.trans hx)
    have Zw8 : Hid (w7.heap.size ≤ w8.heap.size) := hx.size
    have FS_w8 := hidP (FS_w7.out.below hx)
    have FCX_w8 := hidP (FCX_w7.out.below hx)
    have FB_w8 := hidP (FB_w7.out.below hx)
    have FPX1_w8 := hidP (FPX1.out.below hx)
    clear hx
    clear FS_w7 FCX_w7 FB_w7 FPX1
    have HQ := hidP (fun w' (hx : Ext w8 w') => eqStepSS_any aG aS nG nS cG cS J2 w' (QG.out ▸ (FG.out.below hx).at_) (QS.out ▸ (FS_w8.out.below hx).at_) (by omega) HJs.out)
    go_wp2_with fail
    refine (HQ.out _ (Ext.refl _)).mono ?_
    rintro e w9 ⟨rfl, hx⟩
    clear HQ
    have Xw9 := hidP (Xw8.out.trans hx)
    have Zw9 : Hid (w8.heap.size ≤ w9.heap.size) := hx.size
    have FS_w9 := hidP (FS_w8.out.below hx)
    have FCX_w9 := hidP (FCX_w8.out.below hx)
    have FB_w9 := hidP (FB_w8.out.below hx)
    have FPX1_w9 := hidP (FPX1_w8.out.below hx)
    have FG_w9 := hidP (FG.out.below hx)
    clear hx
    clear FS_w8 FCX_w8 FB_w8 FPX1_w8 FG
    have hE : Ext w9 w9.drew := Ext.drew w9
    have HTCd := hidP (fun w' (hx : Ext w9 w') => (HTC.out w' ((X.out.trans Xw9.out).trans hx)).mono (fun (e : Ending) (w'' : World) ⟨a', he, ho, hx'⟩ => (⟨a', he, OwnI.base ho hx.size, hx'⟩ : ∃ a', e = Ending.returned (carV r a' tn tn) ∧ OwnI w'' w9.heap.size a' tn tn ts ∧ Ext w' w'')))
    have HQ := hidP (fun w' (hx : Ext w9 w') (a' : Option Addr) (ho : OwnI w' w9.heap.size a' tn tn ts) => eqCartan_any r r CX a' tn tn tn tn ts ts w' (FCX_w9.out.below hx).ints ho.ints (by omega) (by omega))
    simp only [and_self, decide_true] at HQ
    go_wp2
    (refine walkR_start (fun w' => Ext w9 w') 5 (by kernel_rfl) ?_; simp only [numbered, List.take_succ_cons, List.take_zero, Nat.zero_add, Nat.reduceAdd, List.length_cons, List.length_nil])
    (repeat (first | (refine walkR_still (v := ?_) rfl (by decide +kernel) rfl (fun _ _ _ h => h) hE ?_ ?_; rotate_left; (focus (intro w' hw'; obtain ⟨f0, f1⟩ := HF.out w' (Xw9.out.trans hw'); obtain ⟨y0, y1⟩ := FB_w9.out.below hw'; go_simp; all_goals (with_reducible rfl))); simp only [Act.put, List.setIfInBounds_toArray, List.set_cons_zero, List.set_cons_succ]) | (refine walkR_skip rfl (by decide +kernel) rfl (fun _ _ _ h => h) hE ?_; simp only [Act.put, List.setIfInBounds_toArray, List.set_cons_zero, List.set_cons_succ])))
    (refine walkR_only (fun w' => Ext w9 w') rfl (by decide +kernel) rfl (fun _ h => h) ?_; intro K hK; go_simp; refine (HTCd.out _ hE).mono ?_; rintro e wd ⟨ad, rfl, hod, hxd⟩; refine hK _ _ (hE.trans hxd) ?_; clear hK K; (try simp only [Act.put, List.setIfInBounds_toArray, List.set_cons_zero, List.set_cons_succ]))
    have hE1 := hE.trans hxd
    have HQ1 := hidP (HQ.out _ hE1 ad hod)
    clear hxd hod
    (refine walkR_only (fun w' => Ext w9 w') rfl (by decide +kernel) rfl (fun _ h => h) ?_; intro K hK; go_simp; refine (HQ1.out).mono ?_; rintro e w10 ⟨rfl, hxd⟩; refine hK _ _ (hE1.trans hxd) ?_; clear hK K; (try simp only [Act.put, List.setIfInBounds_toArray, List.set_cons_zero, List.set_cons_succ]))
    have hx := hE1.trans hxd
    have hxx := hx
    clear hxd hE hE1 HQ HQ1 HTCd
    have Xw10 := hidP (Xw9.out.trans hx)
    have Zw10 : Hid (w9.heap.size ≤ w10.heap.size) := hx.size
    have FS_w10 := hidP (FS_w9.out.below hx)
    have FCX_w10 := hidP (FCX_w9.out.below hx)
    have FB_w10 := hidP (FB_w9.out.below hx)
    have FPX1_w10 := hidP (FPX1_w9.out.below hx)
    have FG_w10 := hidP (FG_w9.out.below hx)
    clear FS_w9 FCX_w9 FB_w9 FPX1_w9 FG_w9
    clear hx
    (repeat (first | (refine walkR_still (v := ?_) rfl (by decide +kernel) rfl (fun _ _ _ h => h) hxx ?_ ?_; rotate_left; (focus (intro w' hw'; skip; go_simp; all_goals (with_reducible rfl))); simp only [Act.put, List.setIfInBounds_toArray, List.set_cons_zero, List.set_cons_succ]) | (refine walkR_skip rfl (by decide +kernel) rfl (fun _ _ _ h => h) hxx ?_; simp only [Act.put, List.setIfInBounds_toArray, List.set_cons_zero, List.set_cons_succ])))
    (refine walkR_tail (by rfl) (by kernel_rfl) ?_; simp only [List.drop_succ_cons, List.drop_zero])
    clear hxx
    go_wp2_with fail
    refine (HTS1.out _ (X.out.trans Xw10.out)).mono ?_
    rintro e w11 ⟨gd, rfl, hP, hx⟩
    have FD := hidP hP
    clear hP
    have Xw11 := hidP (Xw10.out.trans hx)
    have Zw11 : Hid (w10.heap.size ≤ w11.heap.size) := hx.size
    have FS_w11 := hidP (FS_w10.out.below hx)
    have FCX_w11 := hidP (FCX_w10.out.below hx)
    have FB_w11 := hidP (FB_w10.out.below hx)
    have FPX1_w11 := hidP (FPX1_w10.out.below hx)
    have FG_w11 := hidP (FG_w10.out.below hx)
    clear hx
    clear FS_w10 FCX_w10 FB_w10 FPX1_w10 FG_w10
    have HQ := hidP (eqIntS_any PX1 gd n1 n1 n1 n1 xs1 xs1 w11 FPX1_w11.out.ints FD.out.ints (by omega) (by omega))
    simp only [beq_self_eq_true] at HQ
    go_wp2_with fail
    refine HQ.out.mono ?_
    rintro e w12 ⟨rfl, m, hd⟩
    have hx : Ext w11 w12 := by rw [hd]; exact Ext.drewN _ _
    clear hd HQ FD
    have Xw12 := hidP (Xw11.out.trans hx)
    have Zw12 : Hid (w11.heap.size ≤ w12.heap.size) := hx.size
    have FS_w12 := hidP (FS_w11.out.below hx)
    have FCX_w12 := hidP (FCX_w11.out.below hx)
    have FB_w12 := hidP (FB_w11.out.below hx)
    have FPX1_w12 := hidP (FPX1_w11.out.below hx)
    have FG_w12 := hidP (FG_w11.out.below hx)
    clear hx
    clear FS_w11 FCX_w11 FB_w11 FPX1_w11 FG_w11
    have HZ : Hid (w0.heap.size ≤ w4.heap.size ∧ w4.heap.size ≤ w5.heap.size ∧ w5.heap.size ≤ w6.heap.size ∧ w6.heap.size ≤ w7.heap.size ∧ w7.heap.size ≤ w8.heap.size) := by
      refine ⟨Xw4.out.size, Zw5.out, Zw6.out, Zw7.out, Zw8.out⟩
    obtain ⟨y0, y1⟩ := FB_w12.out
    have HMk := hidP (markCartan_any r _ CX tn tn 1 ts w12 FCX_w12.out (by omega) (by omega) (by omega))
    go_wp2_with fail
    refine HMk.out.mono ?_
    rintro e w13 ⟨rfl, hu⟩
    clear HMk y0 y1
    have hub := hu.updB LCX.out
    clear hu
    clear FCX_w12 FB_w12
    have Xw13 : Hid (Ext w0 w13) := hub.below Xw12.out Xw12.out.size (by have hZ := HZ.out; omega)
    have Zw13 : Hid (w12.heap.size ≤ w13.heap.size) := hub.size
    have FS_w13 := hidP (FS_w12.out.updB_lo hub (by have hZ := HZ.out; omega))
    have FPX1_w13 := hidP (ownI_hi FPX1_w12.out hub (by have hZ := HZ.out; omega))
    have FG_w13 := hidP (FG_w12.out.updB_hi hub (by have hZ := HZ.out; omega))
    clear hub FS_w12 FPX1_w12 FG_w12
    have HMk := hidP (markIntS_any PX1 n1 n1 (1 + (tn : Int)) xs1 w13 FPX1_w13.out.ints FPX1_w13.out.unfrozen (by omega) (by omega) (by omega))
    go_wp2_with fail
    refine HMk.out.mono ?_
    rintro e w14 ⟨rfl, hu⟩
    clear HMk
    have hub := hu.updB LPX1.out
    clear hu
    clear FPX1_w13
    have Xw14 : Hid (Ext w0 w14) := hub.below Xw13.out Xw13.out.size (by have hZ := HZ.out; omega)
    have Zw14 : Hid (w13.heap.size ≤ w14.heap.size) := hub.size
    have FS_w14 := hidP (FS_w13.out.updB_lo hub (by have hZ := HZ.out; omega))
    have FG_w14 := hidP (FG_w13.out.updB_hi hub (by have hZ := HZ.out; omega))
    clear hub FS_w13 FG_w13
    have hk0 : ¬ (((1 + (tn : Int)) + (n1 : Int)) < 0) := by omega
    have HQ := hidP (fun w' (hx : Ext w14 w') => eqStepSS_any aG aS nG nS cG cS J2 w' (QG.out ▸ (FG_w14.out.below hx).at_) (QS.out ▸ (FS_w14.out.below hx).at_) (by omega) HJs.out)
    go_wp2_with fail
    refine (HQ.out _ (Ext.refl _)).mono ?_
    rintro e w15 ⟨rfl, hx⟩
    clear HQ
    have Xw15 := hidP (Xw14.out.trans hx)
    have Zw15 : Hid (w14.heap.size ≤ w15.heap.size) := hx.size
    have FS_w15 := hidP (FS_w14.out.below hx)
    have FG_w15 := hidP (FG_w14.out.below hx)
    clear hx
    clear FS_w14 FG_w14
    have HMk := hidP (markStepSS_any _ _ aG nG cG KG J2 1 w15 FG_w15.out QG.out hJm (by omega) (by omega) (by omega))
    go_wp2_with fail
    refine HMk.out.mono ?_
    rintro e w16 ⟨rfl, ym, ho, HMm, HYl, hub⟩
    clear HMk
    have FM := hidP ho
    clear ho
    clear FG_w15
    have Xw16 : Hid (Ext w0 w16) := hub.below Xw15.out Xw15.out.size (by have hZ := HZ.out; omega)
    have Zw16 : Hid (w15.heap.size ≤ w16.heap.size) := hub.size
    have FS_w16 := hidP (FS_w15.out.updB_lo hub (by have hZ := HZ.out; omega))
    clear hub FS_w15
    have hq0 : ¬ ((1 : Int) + (mkL J2 J2.length : Int) < 0) := by omega
    have hqq : ((1 : Int) + (mkL J2 J2.length : Int) != 1 + (mkL J2 J2.length : Int)) = false := by simp
    have HH := hidP (heldStepSS_any aG nG cG J2 (ym.map PEl.q) 1 w16 FM.out.at_ HMm.out (by rw [List.length_map]; exact HYl.out) hJm (by omega) (by omega) (by omega))
    go_wp2_with fail
    refine HH.out.mono ?_
    rintro e w17 ⟨rfl, hx⟩
    clear HH
    have Xw17 := hidP (Xw16.out.trans hx)
    have Zw17 : Hid (w16.heap.size ≤ w17.heap.size) := hx.size
    have FS_w17 := hidP (FS_w16.out.below hx)
    have FM_w17 := hidP (FM.out.below hx)
    clear hx
    clear FS_w16 FM
    obtain ⟨f0, f1⟩ := HF.out w17 Xw17.out
    go_wp2_with fail
    refine (HTC.out _ (X.out.trans Xw17.out)).mono ?_
    rintro e w18 ⟨CH, rfl, hC, hx⟩
    clear f0 f1
    have FCH := hidP hC
    clear hC
    have Xw18 := hidP (Xw17.out.trans hx)
    have Zw18 : Hid (w17.heap.size ≤ w18.heap.size) := hx.size
    have FS_w18 := hidP (FS_w17.out.below hx)
    have FM_w18 := hidP (FM_w17.out.below hx)
    clear hx
    clear FS_w17 FM_w17
    go_wp2_with fail
    refine (HTS1.out _ (X.out.trans Xw18.out)).mono ?_
    rintro e w19 ⟨PH1, rfl, hP, hx⟩
    have FPH1 := hidP hP
    clear hP
    have Xw19 := hidP (Xw18.out.trans hx)
    have Zw19 : Hid (w18.heap.size ≤ w19.heap.size) := hx.size
    have FS_w19 := hidP (FS_w18.out.below hx)
    have FM_w19 := hidP (FM_w18.out.below hx)
    have FCH_w19 := hidP (FCH.out.below hx)
    clear hx
    clear FS_w18 FM_w18 FCH
    have HR := hidP (pathsOf_any r CH tn tn ts PH1 n1 n1 xs1 w19 FCH_w19.out.ints FPH1.out.ints FPH1.out.nil_cap (by omega) (by omega) (HM.out.below (X.out.trans Xw19.out)) (HTb.out.below (X.out.trans Xw19.out)))
    unfold PathsL at HR
    rw [← HJ.out] at HR
    go_wp2_with fail
    refine HR.out.mono ?_
    rintro e w20 ⟨aH, nH, cH, KH, rfl, hR, hQ, hx⟩
    clear HR
    have FH := hidP hR
    have QH := hidP hQ
    clear hR hQ
    clear FCH_w19
    clear FPH1
    have Xw20 := hidP (Xw19.out.trans hx)
    have Zw20 : Hid (w19.heap.size ≤ w20.heap.size) := hx.size
    have FS_w20 := hidP (FS_w19.out.below hx)
    have FM_w20 := hidP (FM_w19.out.below hx)
    clear hx
    clear FS_w19 FM_w19
    have HQ := hidP (fun w' (hx : Ext w20 w') => eqStepSS_any aH aS nH nS cH cS J2 w' (QH.out ▸ (FH.out.below hx).at_) (QS.out ▸ (FS_w20.out.below hx).at_) (by omega) HJs.out)
    go_wp2_with fail
    refine (HQ.out _ (Ext.refl _)).mono ?_
    rintro e w21 ⟨rfl, hx⟩
    clear HQ
    have Xw21 := hidP (Xw20.out.trans hx)
    have Zw21 : Hid (w20.heap.size ≤ w21.heap.size) := hx.size
    have FS_w21 := hidP (FS_w20.out.below hx)
    have FM_w21 := hidP (FM_w20.out.below hx)
    have FH_w21 := hidP (FH.out.below hx)
    clear hx
    clear FS_w20 FM_w20 FH
    have HH := hidP (heldStepSS_any aG nG cG J2 (ym.map PEl.q) 1 w21 FM_w21.out.at_ HMm.out (by rw [List.length_map]; exact HYl.out) hJm (by omega) (by omega) (by omega))
    go_wp2_with fail
    refine HH.out.mono ?_
    rintro e w22 ⟨rfl, hx⟩
    clear HH
    have Xw22 := hidP (Xw21.out.trans hx)
    have Zw22 : Hid (w21.heap.size ≤ w22.heap.size) := hx.size
    have FS_w22 := hidP (FS_w21.out.below hx)
    have FM_w22 := hidP (FM_w21.out.below hx)
    have FH_w22 := hidP (FH_w21.out.below hx)
    clear hx
    clear FS_w21 FM_w21 FH_w21
    go_wp2
    go_ret
    exact ⟨rfl, X.out.trans Xw22.out⟩
  · have HE : Hid (szLeft tn 1048576 = -1) := if_neg hle
    rw [HE.out] at HSC
    go_wp2_with fail
    rw [← hw0]
    clear hw0
    refine (HSC.out _).mono ?_
    rintro e w1 ⟨rfl, hx1⟩
    go_wp2
    go_ret
    exact ⟨rfl, X.out.trans hx1⟩
end Go.Proofs.YtfikkfbnlegflaaGreatDoor.fnExactPathsOf

namespace Go.Proofs.YtfikkfbnlegflaaGreatDoor.fnExactPathsOf
open Go.ChangeShapes Go.WideShapes Go.ChangeAt Go.RowKit
set_option linter.unusedVariables false

theorem tab_of {w : World} (hL : laidMetH Tryz.prog Rows.fnExactPathsOfRow.laid w) : Tab w := by
  have h0 : laidMet Tryz.prog Rows.fnExactPathsOfRow.laid w := hL
  have h1 := laidMet.tail (laidMet.tail (h0))
  have e : (Rows.laid_internal_strconv_uint64pow10 : DataW Unit) = Lib.tabData .u64 Lib.pow10Tab := by kernel_rfl
  have h2 : laidMet Tryz.prog (("internal/strconv.uint64pow10", Lib.tabData .u64 Lib.pow10Tab) :: Rows.fnExactPathsOfRow.laid.drop 3) w := by rw [← e]; exact h1
  exact Lib.tabIs_of_head (g := 1) (t := 177) (e := 166) (n := 20) (by kernel_rfl) (by kernel_rfl) (by kernel_rfl) (by kernel_rfl) (by kernel_rfl) (by kernel_rfl) h2
theorem maxL_of {W : World} (h : W.ShapedOpen Tryz.prog) : MaxL W :=
  cell_of_shapedOpen_int (P := Tryz.prog) (g := 0) (t := 3) (zero := #[.int .i64 0]) h (of_decide_eq_true (by kernel_rfl)) (by kernel_rfl) rfl (by kernel_rfl) (by kernel_rfl) Tryz.underlying3

theorem own : ownKnob Tryz.prog.godebug = none := by kernel_rfl
theorem laidOut : laidOutB Tryz.prog = true := by kernel_rfl
/-! ### THE ROW's STEP -/
set_option maxRecDepth 100000 in
theorem lifted (os : Os) (started : os.Started) (H : Type) (enc : TypeId × Value → H) :
    ReturnsInHanded {} Tryz.checked os 9 .any (fun w args => (Rows.fnExactPathsOfSpec.pre enc Tryz.prog Tryz.f9 [] false w args ∧ laidMetH Tryz.prog Rows.fnExactPathsOfRow.laid w) ∧ sizedMet enc Tryz.prog Tryz.f9 (OpenSpec.ofChange Rows.fnExactPathsOfSpec) false w args)
      (Rows.fnExactPathsOfSpec.post enc Tryz.prog Tryz.f9 false true false false) := by
  refine returnsInHanded_of_calls (C := Tryz.checked) own started (by kernel_rfl)
    (ChangeSpec.witness_shaped (enc := enc) (C := Tryz.checked) (os := os) (X := fun w _ => laidMetH Tryz.prog Rows.fnExactPathsOfRow.laid w) false (World.laidAll Tryz.prog os Rows.fnExactPathsOfRow.laid) #[.agg #[.int .i64 0, .slice none 0 0], .slice none 0 0] 8 (World.laidAll_os _ _ _)
      (World.shaped_of_ZipB (by kernel_rfl) (by kernel_rfl)) (by kernel_rfl) (by kernel_rfl) (by kernel_rfl)
      (by rw [MakeChecks.laidMetH_plain _ _ _ (by kernel_rfl)]; exact laidMet_laidAll _ (by kernel_rfl) (by kernel_rfl))) ?_
  intro w0 tape i _ hsh0 _ hok hpre _
  obtain ⟨_, _, _, fn', hfn', _, _, _, _, hval1⟩ := hok
  obtain rfl : fn' = Tryz.f9 := Option.some.inj (hfn'.symm.trans Tryz.func9)
  obtain ⟨⟨⟨ds, gs, before, hw, _⟩, hx⟩, _⟩ := hpre
  have hW0 := DataW.Whole.of_heap (w' := w0.forCall tape i) (by rfl) hw
  have hmax0 : MaxL (w0.forCall tape i) := maxL_of hsh0
  have htab0 : Tab (w0.forCall tape i) := tab_of (laidMetH.of_heap (w := (w0.forCall tape i).memory) (w' := w0.forCall tape i) rfl hx)
  suffices hS : Calls Tryz.prog 9 i.args (w0.forCall tape i) fun e W' => ∃ v, e = .returned v ∧ Rows.fnExactPathsOfSpec.post enc Tryz.prog Tryz.f9 false true false false (w0.forCall tape i) i.args v W' from
    hS.mono fun e W' ⟨v, he, hp⟩ => by subst he; exact ChangeSpec.post_blind hp
  clear hw hx hfn' hsh0
  obtain ⟨W, eW⟩ : ∃ W, W = w0.forCall tape i := ⟨_, rfl⟩
  obtain ⟨args, eA⟩ : ∃ args, args = i.args := ⟨_, rfl⟩
  obtain ⟨base, eB⟩ : ∃ base, base = w0.heap.size := ⟨_, rfl⟩
  rw [← eW, ← eA] at hW0 hval1 ⊢
  rw [← eB] at hval1
  rw [← eW] at hmax0 htab0
  clear eW eA eB
  have hW := hW0
  have hval0 := hval1
  have hval : ∀ (j : Nat) t v, Tryz.f9.params[j]? = some t → args[j]? = some v → Value.okWide Tryz.prog W .any base t v := hval0
  have hW' := hW
  obtain ⟨p, q, hA0, hV, rfl, hfz, hnd⟩ := hW
  have hA : DataW.TrodAll enc Tryz.prog W 0 (fun _ => true) true Tryz.f9.params.toList args.toList ds p := hA0
  rw [Tryz.params9] at hA hval
  obtain ⟨v0, vs0, d0, ds0, p0, q0, hargs, rfl, rfl, h0, r0⟩ := trodAll_cons hA
  obtain ⟨v1, vs1, d1, ds1, p1, q1, rfl, rfl, rfl, h1, r1⟩ := trodAll_cons r0
  obtain ⟨rfl, rfl, rfl⟩ := trodAll_nil r1
  obtain rfl : args = #[v0, v1] := by cases args; simp_all
  obtain ⟨rfl, rfl⟩ := trodVars_none hV
  have lt0 : ∀ x ∈ p0, x.block < W.heap.size := fun x hx => hW'.lt x (by simp [hx])
  obtain ⟨b0, e0, n0, k0, xs0, rfl, i0, g0, s0⟩ := car_in Tryz.underlying24 (by kernel_rfl) (by kernel_rfl) Tryz.underlying3 Tryz.underlying22 Tryz.underlying3 (by kernel_rfl) (hval 0 24 v0 rfl rfl) h0
  have lt1 : ∀ x ∈ p1, x.block < W.heap.size := fun x hx => hW'.lt x (by simp [hx])
  obtain ⟨z1, l1, m1, rfl⟩ := okWide_slice Tryz.underlying22 (hval 1 22 v1 rfl rfl)
  obtain ⟨fuel1, hf1⟩ := id h1
  obtain ⟨e1, n1, k1, xs1, q1, i1, g1, s1, t1, u1⟩ := ints_in Tryz.underlying22 Tryz.underlying3 (by kernel_rfl) hf1
  simp only [Value.cells, List.cons.injEq, and_true, Value.slice.injEq] at q1
  obtain ⟨rfl, rfl, rfl⟩ := q1
  clear hA0 hval0
  refine (walk b0 e0 n0 k0 xs0 z1 l1 m1 xs1 W i0 i1 s0 s1 hmax0 htab0).mono fun e W' ⟨he, bel⟩ => ?_
  subst he
  exact ⟨_, rfl, _, _, _, [], _, [], hW', trodAll_mk1 (shut_bool Tryz.underlying4 _), (trodAll_cons_mk (Below.trod laidOut (by kernel_rfl) (of_decide_eq_true (by kernel_rfl)) h0 bel lt0) (trodAll_cons_mk (Below.trod laidOut (by kernel_rfl) (of_decide_eq_true (by kernel_rfl)) h1 bel lt1) trodAll_mk0)), rfl, bel.frame _, fun h => by cases h⟩

theorem over : Rows.FnExactPathsOfSaid :=
  OpenClaim.holds_of_wide 9 Tryz.f9 rfl rfl rfl rfl rfl rfl rfl ⟨rfl, rfl, rfl, rfl, rfl⟩ rfl rfl rfl rfl rfl (by kernel_rfl) Tryz.func9 closed
    (of_decide_eq_true (by kernel_rfl)) (by unfold Func.isWrapper; first | (rw [if_pos (by decide +kernel)]; kernel_rfl) | (rw [if_neg (by decide +kernel)]; exact ⟨rfl, rfl⟩))
    (fun os started H enc _ => lifted os started H enc)

/-- THE STATEMENT: the tied card -/
theorem proved : Rows.FnExactPathsOfCardSaid :=
  Claim7.holds_tied_plain_at .later [] [.data, .data, .data, .data, .pinned] true _ false
    over (fun _ h => by cases h) (by kernel_rfl) (fun _ h => by cases h) fnExactPathsOf_row_tie rfl ⟨rfl, rfl⟩ (by kernel_rfl) rfl
    (fun f fn hf hfn => by
      obtain rfl : f = 9 := Option.some.inj ((show Tryz.prog.funcNamed Rows.fnExactPathsOfRow.func = some 9 from fnum).symm.trans hf) |>.symm
      obtain rfl : fn = Tryz.f9 := (Option.some.inj (Tryz.func9.symm.trans hfn)).symm
      refine ⟨looks0, fun j t ht => ?_⟩
      have hall : (Tryz.f9.params.toList.all fun t => !Tryz.prog.wantsStandIn t) = true := wants
      have hm : t ∈ Tryz.f9.params.toList := by rw [Array.mem_toList_iff]; exact Array.mem_of_getElem? ht
      have := List.all_eq_true.1 hall t hm
      exact (show Tryz.prog.wantsStandIn t = false by simpa using this))
    goes
#print axioms proved

end Go.Proofs.YtfikkfbnlegflaaGreatDoor.fnExactPathsOf
