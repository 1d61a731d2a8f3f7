/-
  Matrices put one after the other, by the program.
  The program's search for an order of rows.
  The matrix of a type of one part, by the program.
  Cartan matrices of one part, by the program: the names, an entry, the closures that write, the matrix.
  Append of an owned slice's elements to another one, at a single operation.
  Paths put together by the program: copySteps, checked.
  Paths, plain: simple reflections, heights and their bounds, what lowering and raising give. No program in sight.
  Paths, plain: a reflection between two times; lowering, and raising as lowering gone back. No program in sight.
  What functions on paths give: a path in memory of its own, or none.
  Paths put together by the reference: l9Add, l9Join.
  l1Ints: a copy of a slice of integers.
-/
import Derived.Test.YtdhlapppahkjeaaGreatDoorMd5
import Derived.Deep.RegionHeld3
import Derived.Laws.EntriesVeiled
import Derived.BigQuiet
namespace Go.Proofs.YtdhlapppahkjeaaGreatDoor
open Go.RowKit
theorem l1Ints_any (a : Option Addr) (n c : Nat) (xs : List Int) (w : World) (h : IntsAt w a n xs) (hnil : a = none → c = 0) (hn : n ≤ 1000000000) :
    Calls Tryz.prog 49 #[.slice a n c] w fun e w' => ∃ a' c', e = .returned (.slice a' n c') ∧ OwnI w' w.heap.size a' n c' xs ∧ Ext w w' := by
  have H := hidP (h.below (Ext.alloc w (.cells #[] 3)))
  have hm := OwnI.made w w.heap.size 0 (Nat.le_refl _) (by unfold maxLen; omega)
  rw [show Array.replicate 0 (Value.int .i64 0) = #[] from rfl] at hm
  have HM := hidP hm
  have HN := hidP hnil
  clear h hnil hm
  go_enter Tryz.func49, Tryz.ntmps49
  go_wp2_with (at_builtin; refine wpList_append_ints rfl (.tmp 3) (.tmp 4) rfl w.heap.size (some ⟨w.heap.size, 0, none⟩) 0 0 [] rfl HM.out a n c xs rfl H.out HN.out (by omega) (by simp) ?_; intro a' c' w' ho hg)
  go_ret
  rw [Nat.zero_add, List.nil_append] at ho
  exact ⟨_, _, rfl, ho, grown_ext hg (Ext.alloc w _) (by simp) (fun q e => by cases e; exact Nat.le_refl _)⟩
end Go.Proofs.YtdhlapppahkjeaaGreatDoor

namespace Go.Proofs.YtdhlapppahkjeaaGreatDoor
open Go.RowKit

/-- steps, read, a way that is nil having no room -/
structure StepsAt (w : World) (a : Option Addr) (n : Nat) (xs : List Stp) : Prop where
  len : xs.length = n
  get : ∀ k, k < n → ∃ b o aw cw, a = some ⟨b, o, none⟩ ∧ w.cell? ⟨b, o + k * 2, none⟩ = some (.slice aw (wayAt xs k).length cw) ∧ w.cell? ⟨b, o + k * 2 + 1, none⟩ = some (.int .i64 (lenAt xs k)) ∧
    IntsAt w aw (wayAt xs k).length (wayAt xs k) ∧ (wayAt xs k).length ≤ 9223372036854775807 ∧ (aw = none → cw = 0)
theorem StepsAt.terms {w : World} {a : Option Addr} {n : Nat} {xs : List Stp} (h : StepsAt w a n xs) : TermsAt w a n xs :=
  ⟨h.len, fun i hi => by
    obtain ⟨b, o, aw, cw, e, h1, h2, h3, h4, _⟩ := h.get i hi
    exact ⟨b, o, aw, cw, e, h1, h2, h3, h4⟩⟩
theorem StepsAt.below {w w' : World} {a : Option Addr} {n : Nat} {xs : List Stp} (h : StepsAt w a n xs) (hb : Ext w w') : StepsAt w' a n xs := by
  refine ⟨h.len, fun i hi => ?_⟩
  obtain ⟨b, o, aw, cw, rfl, h1, h2, h3, h4, h5⟩ := h.get i hi
  have hl := World.block_lt_of_cell? w _ h1
  exact ⟨b, o, aw, cw, rfl, (hb.cell (p := ⟨b, o + i * 2, none⟩) hl).trans h1, (hb.cell (p := ⟨b, o + i * 2 + 1, none⟩) hl).trans h2, h3.below hb, h4, h5⟩
theorem StepsAt.way {w : World} {a : Option Addr} {n : Nat} {xs : List Stp} (h : StepsAt w a n xs) (k : Nat) (hk : k < n) :
    ∃ b o aw cw, ∃ W : List Int, ∃ L : Int, a = some ⟨b, o, none⟩ ∧ Hid (wayAt xs k = W) ∧ Hid (lenAt xs k = L) ∧ W.length ≤ 9223372036854775807 ∧ Hid (aw = none → cw = 0) ∧
      ∀ w', Ext w w' → w'.cell? ⟨b, o + k * 2, none⟩ = some (.slice aw W.length cw) ∧ w'.cell? ⟨b, o + k * 2 + 1, none⟩ = some (.int .i64 L) ∧ IntsAt w' aw W.length W := by
  obtain ⟨b, o, aw, cw, e, h1, h2, h3, h4, h5⟩ := h.get k hk
  refine ⟨b, o, aw, cw, wayAt xs k, lenAt xs k, e, rfl, rfl, h4, h5, fun w' hx => ?_⟩
  have hl := World.block_lt_of_cell? w _ h1
  exact ⟨(hx.cell (p := ⟨b, o + k * 2, none⟩) hl).trans h1, (hx.cell (p := ⟨b, o + k * 2 + 1, none⟩) hl).trans h2, h3.below hx⟩
theorem OwnK.stepCell {w : World} {B U : Nat} {a : Option Addr} {n c : Nat} {hs : List Hdr} {xs : List Stp} (h : OwnK stepK w B U a n c hs xs) (k : Nat) (hk : k < n) :
    ∃ g aw cw, a = some ⟨g, 0, none⟩ ∧ hs.getD k (none, 0) = (aw, cw) ∧ w.cell? ⟨g, k * 2, none⟩ = some (.slice aw (wayAt xs k).length cw) ∧ w.cell? ⟨g, k * 2 + 1, none⟩ = some (.int .i64 (lenAt xs k)) ∧
    w.frozen? ⟨g, k * 2, none⟩ = false ∧ w.frozen? ⟨g, k * 2 + 1, none⟩ = false ∧ OwnI w B aw (wayAt xs k).length cw (wayAt xs k) := by
  obtain ⟨g, rfl, hc, hf⟩ := h.cell k 0 hk (by decide)
  obtain ⟨g', e, hc', hf'⟩ := h.cell k 1 hk (by decide)
  simp only [Option.some.injEq, Addr.mk.injEq, and_true] at e
  subst e
  rw [show k * stepK.size + 0 = k * 2 from rfl] at hc hf
  rw [show k * stepK.size + 1 = k * 2 + 1 from rfl] at hc' hf'
  exact ⟨g, (hs.getD k (none, 0)).1, (hs.getD k (none, 0)).2, rfl, rfl, hc, hc', hf, hf', h.each k hk⟩
theorem OwnK.stepsAt {w : World} {B U : Nat} {a : Option Addr} {n c : Nat} {hs : List Hdr} {xs : List Stp} (h : OwnK stepK w B U a n c hs xs) : StepsAt w a n xs := by
  refine ⟨h.xl, fun k hk => ?_⟩
  obtain ⟨g, aw, cw, rfl, _, h1, h2, _, _, h5⟩ := h.stepCell k hk
  exact ⟨g, 0, aw, cw, rfl, by rw [Nat.zero_add]; exact h1, by rw [Nat.zero_add]; exact h2, h5.ints, h5.small, h5.nil_cap⟩
theorem addS_at {xs : List Stp} {m : Nat} (h : xs.length = m + 1) (s : Stp) (hs : s.2 ≠ 0) : addS xs s = if wayAt xs m = s.1 then xs.set m (wayAt xs m, lenAt xs m + s.2) else xs ++ [s] := by
  rcases snoc_cases xs with rfl | ⟨o, l, rfl⟩
  · simp at h
  · obtain rfl : o.length = m := by simpa using h
    rw [addS_snoc _ _ _ hs, wayAt_snoc, lenAt_snoc]
    split
    · simp
    · rfl
theorem addS_first {xs : List Stp} (h : xs.length = 0) (s : Stp) (hs : s.2 ≠ 0) : addS xs s = xs ++ [s] := by
  obtain rfl := List.eq_nil_of_length_eq_zero h
  rw [addS_nil _ hs, List.nil_append]
theorem Tryz.info73 : (Tryz.prog.info? 73).map (fun i => (i.zero, i.size, i.bytes)) = some (some (.agg #[.slice none 0 0, .int .i64 0]), 2, 32) := by kernel_rfl
/-- what is new is apart from all that was -/
theorem OwnK.new_apart {w w' : World} {B U B' : Nat} {a a' : Option Addr} {n c n' c' : Nat} {hs : List Hdr} {xs : List Stp} {ys : List Int} (h : OwnK stepK w B U a n c hs xs) (hi : OwnI w' B' a' n' c' ys) (hB : w.heap.size ≤ B') :
    (∀ i, i < n → Apart (hs.getD i (none, 0)).1 a') ∧ Apart a a' :=
  ⟨fun i hi' b o b' o' e e' => by have := ((h.each i hi').at_base b o e).2; have := (hi.at_base b' o' e').1; omega,
   fun b o b' o' e e' => by have := (h.base_lt b o e).2; have := (hi.at_base b' o' e').1; omega⟩

set_option maxRecDepth 100000 in
set_option maxHeartbeats 4000000 in
theorem l9Add_any (B : Nat) (ao : Option Addr) (m co : Nat) (hs : List Hdr) (xs : List Stp) (aw : Option Addr) (cw : Nat) (W : List Int) (L : Int) (w : World) (ho : OwnK stepK w B w.heap.size ao m co hs xs)
    (hway : IntsAt w aw W.length W) (hnil : aw = none → cw = 0) (hk : W.length ≤ 1000000) (hm : m ≤ 1000000) (hB : B ≤ w.heap.size) (hL0 : 0 ≤ L) (hL1 : L ≤ 1000000000000) (hls : ∀ i, i < m → 0 ≤ lenAt xs i ∧ lenAt xs i ≤ 1000000000000) :
    Calls Tryz.prog 85 #[.slice ao m co, .slice aw W.length cw, .int .i64 L] w fun e w' => ∃ a' n' c' hs', e = .returned (.slice a' n' c') ∧ OwnK stepK w' B w'.heap.size a' n' c' hs' (addS xs (W, L)) ∧ Below B w w' := by
  have HO := hidP ho
  have HWy := hidP hway
  have HN := hidP hnil
  have hxl := ho.xl
  have HB := hidP hB
  clear ho hway hnil hB
  by_cases hL : L = 0
  · subst hL
    have HS := hidP (addS_zero xs (W, 0) rfl)
    clear hxl
    go_enter Tryz.func85, Tryz.ntmps85
    go_wp2
    go_ret
    exact ⟨_, _, _, hs, rfl, by rw [HS.out]; exact HO.out, Below.refl _ _⟩
  · have hL' : (L == 0) = false := by simpa using hL
    have HI := hidP (fun w' (hx : Ext w w') => l1Ints_any aw W.length cw W w' (HWy.out.below hx) HN.out (by omega))
    -- the way behind: the step is new
    have hnew : ∀ (w0 : World), Ext w w0 → addS xs (W, L) = xs ++ [(W, L)] → True := fun _ _ _ => trivial
    clear hnew
    have hLne : (W, L).2 ≠ 0 := hL
    cases m with
    | zero =>
      have HS := hidP (addS_first hxl (W, L) hLne)
      clear hxl hL hLne hls
      go_enter Tryz.func85, Tryz.ntmps85
      go_wp2_with fail
      refine (HI.out _ (Ext.refl _)).mono ?_
      rintro e w1 ⟨a1, c1, rfl, ho1, hx1⟩
      have HX2 := hidP (hx1.trans (Ext.alloc w1 (.cells #[.slice a1 W.length c1, .int .i64 L] 73)))
      have HO2 := hidP (HO.out.below HX2.out)
      have HI2 := hidP ((ho1.below (Ext.alloc w1 (.cells #[.slice a1 W.length c1, .int .i64 L] 73))))
      have HAp := hidP (HO.out.new_apart ho1 (Nat.le_refl _))
      have HCe : Hid (∀ j, j < stepK.size → (w1.alloc (.cells #[.slice a1 W.length c1, .int .i64 L] 73)).cell? ⟨w1.heap.size, j, none⟩ = (stepK.cells a1 c1 (W, L))[j]?) := fun j _ => (cell_top _ _ _ _ _ rfl).trans (by simp [stepK])
      clear ho1 hx1 HI
      go_wp2_with (at_builtin; refine wpList_append_elem2 stepK 45 (.agg #[.slice none 0 0, .int .i64 0]) 32 rfl (.tmp 39) (.tmp 44) rfl Tryz.underlying45 Tryz.info73 rfl (by omega) B _ ao 0 co hs xs rfl HO2.out w1.heap.size 1 (a1, c1) (W, L) rfl HCe.out (HI2.out.base HB.out) HAp.out.1 HAp.out.2 (by omega) (Nat.le_trans HB.out HX2.out.size) ?_; intro a3 c3 w3 ho3 hg3 hn3; have HX3 := hidP (HO2.out.below_grown hg3 (show Below B w _ from Below.mono HX2.out HB.out) (Nat.le_trans HB.out HX2.out.size)); have HO3 := hidP ho3; clear ho3 hg3 hn3)
      go_ret
      exact ⟨_, _, _, _, rfl, by rw [HS.out]; exact HO3.out, HX3.out⟩
    | succ m =>
      have HS := hidP (addS_at hxl (W, L) hLne)
      obtain ⟨g, al, cl, rfl, hh, q1, q2, r1, r2, hol⟩ := HO.out.stepCell m (by omega)
      have hl2 := hls m (by omega)
      have hw64 : (wayAt xs m).length ≤ 9223372036854775807 := hol.small
      have HSame := hidP (l1Same_any al aw _ W.length cl cw _ W w hol.ints HWy.out hw64 (by omega))
      have HSt := hidP (fun w' (h : OwnK stepK w' B w.heap.size (some ⟨g, 0, none⟩) (m + 1) co hs xs) => h.stored m 1 (by omega) (by decide) (.int .i64 (lenAt xs m + L)) (wayAt xs m, lenAt xs m + L) rfl rfl rfl)
      obtain ⟨V, hV⟩ : ∃ V, V = wayAt xs m := ⟨_, rfl⟩
      obtain ⟨M, hM⟩ : ∃ M, M = lenAt xs m := ⟨_, rfl⟩
      rw [← hV, ← hM] at HS HSt
      rw [← hV] at HSame q1 hol hw64
      rw [← hM] at q2 hl2
      have hmi : 0 ≤ (m : Int) := by omega
      have hgB := hidP (HO.out.base_lt g 0 rfl)
      clear hxl hL hLne hls hh hV hM hol
      cases hb : (V == W)
      · rw [hb] at HSame
        have HS2 : Hid (addS xs (W, L) = xs ++ [(W, L)]) := by
          show _ = _
          rw [HS.out, if_neg (by simpa using hb)]
        clear hb HS HSt
        go_enter Tryz.func85, Tryz.ntmps85
        go_wp2_with fail
        refine HSame.out.mono ?_
        rintro e w0 ⟨rfl, q, rfl⟩
        go_wp2_with fail
        refine (HI.out _ (Ext.drewN w q)).mono ?_
        rintro e w1 ⟨a1, c1, rfl, ho1, hx1⟩
        have HX2 := hidP (((Ext.drewN w q).trans hx1).trans (Ext.alloc w1 (.cells #[.slice a1 W.length c1, .int .i64 L] 73)))
        have HO2 := hidP (HO.out.below HX2.out)
        have HI2 := hidP ((ho1.below (Ext.alloc w1 (.cells #[.slice a1 W.length c1, .int .i64 L] 73))))
        have HAp := hidP (HO.out.new_apart ho1 (Nat.le_refl _))
        have HCe : Hid (∀ j, j < stepK.size → (w1.alloc (.cells #[.slice a1 W.length c1, .int .i64 L] 73)).cell? ⟨w1.heap.size, j, none⟩ = (stepK.cells a1 c1 (W, L))[j]?) := fun j _ => (cell_top _ _ _ _ _ rfl).trans (by simp [stepK])
        clear ho1 hx1 HI q1 q2 r1 r2
        go_wp2_with (at_builtin; refine wpList_append_elem2 stepK 45 (.agg #[.slice none 0 0, .int .i64 0]) 32 rfl (.tmp 39) (.tmp 44) rfl Tryz.underlying45 Tryz.info73 rfl (by omega) B _ (some ⟨g, 0, none⟩) (m + 1) co hs xs rfl HO2.out w1.heap.size 1 (a1, c1) (W, L) rfl HCe.out (HI2.out.base HB.out) HAp.out.1 HAp.out.2 (by omega) (Nat.le_trans HB.out HX2.out.size) ?_; intro a3 c3 w3 ho3 hg3 hn3; have HX3 := hidP (HO2.out.below_grown hg3 (show Below B w _ from Below.mono HX2.out HB.out) (Nat.le_trans HB.out HX2.out.size)); have HO3 := hidP ho3; clear ho3 hg3 hn3)
        go_ret
        exact ⟨_, _, _, _, rfl, by rw [HS2.out]; exact HO3.out, HX3.out⟩
      · rw [hb] at HSame
        have HS2 : Hid (addS xs (W, L) = xs.set m (V, M + L)) := by
          show _ = _
          rw [HS.out, if_pos (by simpa using hb)]
        have hwr : IntKind.i64.wrap (M + L) = M + L := wrap_in (by omega) (by omega)
        clear hb HS HI
        go_enter Tryz.func85, Tryz.ntmps85
        go_wp2_with fail
        refine HSame.out.mono ?_
        rintro e w0 ⟨rfl, q, rfl⟩
        go_wp2
        go_ret
        refine ⟨_, _, _, hs, rfl, ?_, ?_⟩
        · rw [HS2.out]
          have := HSt.out _ (HO.out.below (Ext.drewN w q))
          refine OwnK.weaken this (Nat.le_refl _) ?_
          simp [World.setCell]
        · exact Below.setCell (p := ⟨g, m * 2 + 1, none⟩) (Below.mono (Ext.drewN w q) HB.out) hgB.out.1 _
/-! ### l9Join -/
def joinTo (o p : List Stp) (k : Nat) : List Stp := (p.take k).foldl addS o
theorem joinTo_succ (o p : List Stp) {k : Nat} (h : k < p.length) : joinTo o p (k + 1) = addS (joinTo o p k) (wayAt p k, lenAt p k) := by
  unfold joinTo
  rw [List.take_succ_eq_append_getElem h, List.foldl_append]
  simp [wayAt, lenAt, List.getD_eq_getElem?_getD, h]
theorem joinS_append (p q : List Stp) : joinS (p ++ q) = joinTo (joinTo [] p p.length) q q.length := by
  unfold joinS joinTo
  rw [List.foldl_append, List.take_length, List.take_length]
theorem joinS_to (p : List Stp) : joinS p = joinTo [] p p.length := by
  unfold joinS joinTo
  rw [List.take_length]
theorem addS_length (o : List Stp) (s : Stp) : (addS o s).length ≤ o.length + 1 := by
  by_cases h : s.2 = 0
  · rw [addS_zero _ _ h]; omega
  · rcases snoc_cases o with rfl | ⟨o, l, rfl⟩
    · rw [addS_nil _ h]; simp
    · rw [addS_snoc _ _ _ h]
      split <;> simp
theorem joinTo_length (o p : List Stp) : ∀ k, (joinTo o p k).length ≤ o.length + k
  | 0 => by simp [joinTo]
  | k + 1 => by
    by_cases h : k < p.length
    · rw [joinTo_succ _ _ h]
      have := addS_length (joinTo o p k) (wayAt p k, lenAt p k)
      have := joinTo_length o p k
      omega
    · have : joinTo o p (k + 1) = joinTo o p k := by unfold joinTo; rw [List.take_of_length_le (by omega), List.take_of_length_le (by omega)]
      rw [this]
      have := joinTo_length o p k
      omega
theorem addS_lens {o : List Stp} {s : Stp} {D C : Int} (ho : ∀ i, i < o.length → 0 ≤ lenAt o i ∧ lenAt o i ≤ D) (hs : 0 ≤ s.2 ∧ s.2 ≤ C) (hD : 0 ≤ D) : ∀ i, i < (addS o s).length → 0 ≤ lenAt (addS o s) i ∧ lenAt (addS o s) i ≤ D + C := by
  have hC : 0 ≤ C := by omega
  by_cases h : s.2 = 0
  · rw [addS_zero _ _ h]
    intro i hi
    have := ho i hi
    omega
  · rcases Nat.eq_zero_or_pos o.length with h0 | h0
    · rw [addS_first h0 _ h]
      obtain rfl := List.eq_nil_of_length_eq_zero h0
      intro i hi
      obtain rfl : i = 0 := by simp at hi; omega
      show 0 ≤ s.2 ∧ s.2 ≤ _
      omega
    · obtain ⟨m, hm⟩ : ∃ m, o.length = m + 1 := ⟨o.length - 1, by omega⟩
      rw [addS_at hm _ h]
      intro i hi
      split at hi <;> split
      · rw [List.length_set] at hi
        unfold lenAt
        rw [OwnK.getD_set _ _ _ _ _ (by omega)]
        split
        · have := ho m (by omega)
          show 0 ≤ lenAt o m + s.2 ∧ lenAt o m + s.2 ≤ _
          omega
        · have := ho i hi
          unfold lenAt at this
          omega
      · contradiction
      · contradiction
      · rw [List.length_append, List.length_cons, List.length_nil] at hi
        by_cases hi2 : i < o.length
        · rw [lenAt_app _ _ _ hi2]
          have := ho i hi2
          omega
        · obtain rfl : i = o.length := by omega
          rw [lenAt_snoc]
          omega
theorem joinTo_lens {o p : List Stp} {D C : Int} (ho : ∀ i, i < o.length → 0 ≤ lenAt o i ∧ lenAt o i ≤ D) (hp : ∀ i, i < p.length → 0 ≤ lenAt p i ∧ lenAt p i ≤ C) : ∀ k, k ≤ p.length → 0 ≤ D → 0 ≤ C → ∀ i, i < (joinTo o p k).length → 0 ≤ lenAt (joinTo o p k) i ∧ lenAt (joinTo o p k) i ≤ D + C * k
  | 0, _, _, _ => by simpa [joinTo] using ho
  | k + 1, hk, hD, hC => by
    rw [joinTo_succ _ _ (by omega)]
    have h1 := joinTo_lens ho hp k (by omega) hD hC
    have hCk : 0 ≤ C * k := Int.mul_nonneg hC (by omega)
    intro i hi
    have := addS_lens (s := (wayAt p k, lenAt p k)) (C := C) h1 (hp k (by omega)) (by omega) i hi
    rw [show ((k + 1 : Nat) : Int) = (k : Int) + 1 from rfl, Int.mul_add, Int.mul_one]
    omega

set_option maxRecDepth 100000 in
set_option maxHeartbeats 4000000 in
theorem l9Join_any (ap : Option Addr) (np cp : Nat) (ps : List Stp) (aq : Option Addr) (nq cq : Nat) (qs : List Stp) (w : World) (hp : StepsAt w ap np ps) (hq : StepsAt w aq nq qs) (hN : np + nq ≤ 100000)
    (hbp : ∀ k, k < np → (wayAt ps k).length ≤ 1000000 ∧ 0 ≤ lenAt ps k ∧ lenAt ps k ≤ 1000000) (hbq : ∀ k, k < nq → (wayAt qs k).length ≤ 1000000 ∧ 0 ≤ lenAt qs k ∧ lenAt qs k ≤ 1000000) :
    Calls Tryz.prog 59 #[.slice ap np cp, .slice aq nq cq] w fun e w' => ∃ a' n' c' hs', e = .returned (.slice a' n' c') ∧ OwnK stepK w' w.heap.size w'.heap.size a' n' c' hs' (joinS (ps ++ qs)) ∧ Ext w w' := by
  have GP := hidP hp
  have GQ := hidP hq
  have BP := hidP hbp
  have BQ := hidP hbq
  have hNN := hidP hN
  have hnpb : np ≤ 100000 := by omega
  have hnqb : nq ≤ 100000 := by omega
  clear hp hq hbp hbq hN
  have HM0 := hidP (OwnK.made0 stepK w)
  have HX0 := hidP (Ext.alloc w (.cells #[] 73))
  go_enter Tryz.func59, Tryz.ntmps59
  go_wp2
  go_loopw [5, 6] (fun out i wr => ∃ (k : Nat) (ao : Option Addr) (mo co : Nat) (hs : List Hdr), k ≤ np ∧ out = .slice ao mo co ∧ i = .int .i64 k ∧ Hid (OwnK stepK wr w.heap.size wr.heap.size ao mo co hs (joinTo ([] : List Stp) ps k)) ∧ Hid (Ext w wr)) (fun _ i _ => np - (intOf i).toNat)
  case atStart => exact ⟨0, _, _, _, [], Nat.zero_le _, rfl, rfl, HM0, HX0⟩
  case round =>
    obtain ⟨k, ao, mo, co, hs, hk, rfl, rfl, HO, HX⟩ := hrel
    by_cases hlt : k < np
    · obtain ⟨b, o, aw, cw, W, L, rfl, HW, HL, hwl, HNl, hq⟩ := GP.out.way k hlt
      have HQ := hidP hq
      clear hq
      have hbw := BP.out k hlt
      rw [HW.out, HL.out] at hbw
      have hmo : Hid (mo ≤ ([] : List Stp).length + k) := by
        show _ ≤ _
        rw [← HO.out.xl]
        exact joinTo_length _ _ _
      have HLn : Hid (∀ i, i < mo → 0 ≤ lenAt (joinTo ([] : List Stp) ps k) i ∧ lenAt (joinTo ([] : List Stp) ps k) i ≤ 1000000000000) := by
        show ∀ i, _
        intro i hi
        have := joinTo_lens (o := ([] : List Stp)) (p := ps) (C := 1000000) (D := (0 : Int)) (fun i hi => absurd hi (by simp)) (fun j hj => (BP.out j (by have := GP.out.len; omega)).2) k (by have := GP.out.len; omega) (by omega) (by omega) i (by rw [HO.out.xl]; exact hi)
        have := hNN.out
        omega
      have HAdd := hidP (fun w' (hx : Ext wr w') => l9Add_any w.heap.size ao mo co hs _ aw cw W L w' ((HO.out.below hx).weaken (Nat.le_refl _) hx.size) (HQ.out w' (HX.out.trans hx)).2.2 HNl.out hbw.1 (by have h1 := hmo.out; have h2 := hNN.out; simp only [List.length_nil] at h1; omega) (Nat.le_trans HX.out.size hx.size) hbw.2.1 (by omega) HLn.out)
      have HSu : Hid (joinTo ([] : List Stp) ps (k + 1) = addS (joinTo ([] : List Stp) ps k) (W, L)) := by
        show _ = _
        rw [joinTo_succ _ _ (by have := GP.out.len; omega), HW.out, HL.out]
      clear hbw
      go_wp2
      have hE : Ext w wr.drew := HX.out.trans (Ext.drew wr)
      (refine walkR_start (fun w' => Ext w w') 12 (by kernel_rfl) ?_; simp only [numbered, List.take_succ_cons, List.take_zero, Nat.zero_add, Nat.reduceAdd, List.length_cons, List.length_nil])
      (repeat (first | (refine walkR_still (v := ?_) rfl (by decide +kernel) rfl (fun _ _ _ h => h) hE ?_ ?_; rotate_left; (focus (intro w' hw'; obtain ⟨q1, q2, _⟩ := HQ.out w' hw'; go_simp; all_goals (with_reducible rfl))); simp only [Act.put, List.setIfInBounds_toArray, List.set_cons_zero, List.set_cons_succ]) | (refine walkR_skip rfl (by decide +kernel) rfl (fun _ _ _ h => h) hE ?_; simp only [Act.put, List.setIfInBounds_toArray, List.set_cons_zero, List.set_cons_succ])))
      (refine walkR_only (fun w' => Ext w w') rfl (by decide +kernel) rfl (fun _ h => h) ?_; intro K hK; go_simp; refine (HAdd.out _ (Ext.drew wr)).mono ?_; rintro e w2 ⟨a2, n2, c2, hs2, rfl, ho2, hb2⟩; refine hK _ _ (Below.trans hE hb2) ?_; clear hK K; (try simp only [Act.put, List.setIfInBounds_toArray, List.set_cons_zero, List.set_cons_succ]))
      have HX2 := hidP (Below.trans hE hb2)
      have HO2 := hidP ho2
      clear ho2 hb2
      (refine walkR_tail (by rfl) (by kernel_rfl) ?_; simp only [List.drop_succ_cons, List.drop_zero])
      go_wp2
      go_roundw
      case rel => exact ⟨k + 1, a2, n2, c2, hs2, by omega, rfl, by go_num, by rw [HSu.out]; exact HO2.out, HX2.out⟩
      case measure => simp [intOf]; omega
    · obtain rfl : np = k := by omega
      obtain ⟨J, hJ⟩ : ∃ J, J = joinTo ([] : List Stp) ps np := ⟨_, rfl⟩
      have HJn : Hid (J.length ≤ np) := by
        show _ ≤ _
        rw [hJ]
        have := joinTo_length ([] : List Stp) ps np
        simpa using this
      have HJl : Hid (∀ i, i < J.length → 0 ≤ lenAt J i ∧ lenAt J i ≤ (1000000 : Int) * np) := by
        show ∀ i, _
        rw [hJ]
        intro i hi
        have := joinTo_lens (o := ([] : List Stp)) (p := ps) (C := 1000000) (D := 0) (fun i hi => absurd hi (by simp)) (fun j hj => (BP.out j (by have := GP.out.len; omega)).2) np (by have := GP.out.len; omega) (by omega) (by omega) i hi
        omega
      have HEnd : Hid (joinS (ps ++ qs) = joinTo J qs nq) := by
        show _ = _
        rw [hJ, ← GQ.out.len, ← GP.out.len]
        exact joinS_append ps qs
      rw [← hJ] at HO
      clear hJ
      go_wp2
      go_loopw [5, 7] (fun out i wr => ∃ (j : Nat) (ao : Option Addr) (mo co : Nat) (hs : List Hdr), j ≤ nq ∧ out = .slice ao mo co ∧ i = .int .i64 j ∧ Hid (OwnK stepK wr w.heap.size wr.heap.size ao mo co hs (joinTo J qs j)) ∧ Hid (Ext w wr)) (fun _ i _ => nq - (intOf i).toNat)
      case atStart => exact ⟨0, ao, mo, co, hs, Nat.zero_le _, rfl, rfl, HO, HX⟩
      case round =>
        obtain ⟨k, ao, mo, co, hs, hk, rfl, rfl, HO, HX⟩ := hrel
        by_cases hlt : k < nq
        · obtain ⟨b, o, aw, cw, W, L, rfl, HW, HL, hwl, HNl, hq⟩ := GQ.out.way k hlt
          have HQ := hidP hq
          clear hq
          have hbw := BQ.out k hlt
          rw [HW.out, HL.out] at hbw
          have hmo : Hid (mo ≤ J.length + k) := by
            show _ ≤ _
            rw [← HO.out.xl]
            exact joinTo_length _ _ _
          have HLn : Hid (∀ i, i < mo → 0 ≤ lenAt (joinTo J qs k) i ∧ lenAt (joinTo J qs k) i ≤ 1000000000000) := by
            show ∀ i, _
            intro i hi
            have := joinTo_lens (o := J) (p := qs) (C := 1000000) (D := (1000000 : Int) * np) HJl.out (fun j hj => (BQ.out j (by have := GQ.out.len; omega)).2) k (by have := GQ.out.len; omega) (by omega) (by omega) i (by rw [HO.out.xl]; exact hi)
            have := hNN.out
            omega
          have HAdd := hidP (fun w' (hx : Ext wr w') => l9Add_any w.heap.size ao mo co hs _ aw cw W L w' ((HO.out.below hx).weaken (Nat.le_refl _) hx.size) (HQ.out w' (HX.out.trans hx)).2.2 HNl.out hbw.1 (by have h1 := hmo.out; have h2 := hNN.out; have := HJn.out; omega) (Nat.le_trans HX.out.size hx.size) hbw.2.1 (by omega) HLn.out)
          have HSu : Hid (joinTo J qs (k + 1) = addS (joinTo J qs k) (W, L)) := by
            show _ = _
            rw [joinTo_succ _ _ (by have := GQ.out.len; omega), HW.out, HL.out]
          clear hbw
          go_wp2
          have hE : Ext w wr.drew := HX.out.trans (Ext.drew wr)
          (refine walkR_start (fun w' => Ext w w') 12 (by kernel_rfl) ?_; simp only [numbered, List.take_succ_cons, List.take_zero, Nat.zero_add, Nat.reduceAdd, List.length_cons, List.length_nil])
          (repeat (first | (refine walkR_still (v := ?_) rfl (by decide +kernel) rfl (fun _ _ _ h => h) hE ?_ ?_; rotate_left; (focus (intro w' hw'; obtain ⟨q1, q2, _⟩ := HQ.out w' hw'; go_simp; all_goals (with_reducible rfl))); simp only [Act.put, List.setIfInBounds_toArray, List.set_cons_zero, List.set_cons_succ]) | (refine walkR_skip rfl (by decide +kernel) rfl (fun _ _ _ h => h) hE ?_; simp only [Act.put, List.setIfInBounds_toArray, List.set_cons_zero, List.set_cons_succ])))
          (refine walkR_only (fun w' => Ext w w') rfl (by decide +kernel) rfl (fun _ h => h) ?_; intro K hK; go_simp; refine (HAdd.out _ (Ext.drew wr)).mono ?_; rintro e w2 ⟨a2, n2, c2, hs2, rfl, ho2, hb2⟩; refine hK _ _ (Below.trans hE hb2) ?_; clear hK K; (try simp only [Act.put, List.setIfInBounds_toArray, List.set_cons_zero, List.set_cons_succ]))
          have HX2 := hidP (Below.trans hE hb2)
          have HO2 := hidP ho2
          clear ho2 hb2
          (refine walkR_tail (by rfl) (by kernel_rfl) ?_; simp only [List.drop_succ_cons, List.drop_zero])
          go_wp2
          go_roundw
          case rel => exact ⟨k + 1, a2, n2, c2, hs2, by omega, rfl, by go_num, by rw [HSu.out]; exact HO2.out, HX2.out⟩
          case measure => simp [intOf]; omega
        · obtain rfl : nq = k := by omega
          go_wp2
          go_ret
          exact ⟨ao, mo, co, hs, rfl, by rw [HEnd.out]; exact HO.out, HX.out⟩
end Go.Proofs.YtdhlapppahkjeaaGreatDoor

namespace Go.Proofs.YtdhlapppahkjeaaGreatDoor
open Go.RowKit

theorem OwnK.small {α : Type} {K : Knd α} {w : World} {B U : Nat} {a : Option Addr} {n c : Nat} {hs : List Hdr} {xs : List α} (h : OwnK K w B U a n c hs xs) : n ≤ 9223372036854775807 := by
  rcases h.form with ⟨_, h0, _⟩ | ⟨_, _, _, _, _, _, h1, h2⟩
  · omega
  · unfold maxLen at h2; omega
/-- what 'checked' gives -/
def chk (r : Nat) (p : List Stp) : Bool × List Stp := if pathB r (joinS p) then (true, joinS p) else (false, [])
/-- a call returns a path of memory of its own, or none -/
def PathRes (f : FuncId) (args : Array Value) (w : World) (res : Bool × List Stp) : Prop :=
  Calls Tryz.prog f args w fun e w' => ∃ a n c hs, e = .returned (.tuple #[.slice a n c, .bool res.1]) ∧ OwnK stepK w' w.heap.size w'.heap.size a n c hs res.2 ∧ Ext w w'
def joinR (r : Int) (ts : List Int) (p q : List Stp) : Bool × List Stp := if typeB r ts && pathB r.toNat p then (if pathB r.toNat q then chk r.toNat (p ++ q) else (false, [])) else (false, [])

theorem pathB_small {r : Nat} {p : List Stp} (h : pathB r p = true) : p.length ≤ 60 ∧ ∀ k, k < p.length → (wayAt p k).length = r ∧ 0 ≤ lenAt p k ∧ lenAt p k ≤ 1000000 := by
  have hp := pathB_iff.1 h
  refine ⟨by
    simp only [pathB, Bool.and_eq_true, decide_eq_true_eq] at h
    exact h.1.1, fun k hk => ⟨?_, ?_⟩⟩
  · simp only [pathB, Bool.and_eq_true, List.all_eq_true, List.mem_range] at h
    exact stepB_way (h.1.2 k hk)
  · simp only [pathB, Bool.and_eq_true, List.all_eq_true, List.mem_range] at h
    exact stepB_len (h.1.2 k hk)

end Go.Proofs.YtdhlapppahkjeaaGreatDoor

namespace Go.Proofs.YtdhlapppahkjeaaGreatDoor

def within (n lo hi : Int) : Int := if n < lo then lo else if n > hi then hi else n
/-- the pieces of step k, by the times u and v between which a reflection R is applied -/
def betK (R : List Int → List Int) (u v : Int) (p : List Stp) (k : Nat) : List Stp :=
  [(wayAt p k, within u (timeAt p k) (timeAt p (k + 1)) - timeAt p k), (R (wayAt p k), within v (timeAt p k) (timeAt p (k + 1)) - within u (timeAt p k) (timeAt p (k + 1))), (wayAt p k, timeAt p (k + 1) - within v (timeAt p k) (timeAt p (k + 1)))]
def betTo (R : List Int → List Int) (u v : Int) (p : List Stp) (n : Nat) : List Stp := (List.range n).flatMap (betK R u v p)
def betS (R : List Int → List Int) (u v : Int) (p : List Stp) : List Stp := betTo R u v p p.length
theorem betTo_succ (R : List Int → List Int) (u v : Int) (p : List Stp) (n : Nat) : betTo R u v p (n + 1) = betTo R u v p n ++ betK R u v p n := by simp [betTo, List.range_succ]
/-- the same by places of steps and times within them -/
def turnK (R : List Int → List Int) (p : List Stp) (a : Nat) (fr : Int) (b : Nat) (tt : Int) (k : Nat) : List Stp :=
  if k < a ∨ b < k then [(wayAt p k, lenAt p k)] else
  [(wayAt p k, if k = a then fr else 0), (R (wayAt p k), (if k = b then tt else lenAt p k) - if k = a then fr else 0), (wayAt p k, lenAt p k - if k = b then tt else lenAt p k)]
def turnTo (R : List Int → List Int) (p : List Stp) (a : Nat) (fr : Int) (b : Nat) (tt : Int) (n : Nat) : List Stp := (List.range n).flatMap (turnK R p a fr b tt)
theorem turnTo_succ (R : List Int → List Int) (p : List Stp) (a : Nat) (fr : Int) (b : Nat) (tt : Int) (n : Nat) : turnTo R p a fr b tt (n + 1) = turnTo R p a fr b tt n ++ turnK R p a fr b tt n := by simp [turnTo, List.range_succ]

def Lens (p : List Stp) : Prop := ∀ k, k < p.length → 0 ≤ lenAt p k
theorem timeAt_mono {p : List Stp} (h : Lens p) : ∀ (d k : Nat), k + d ≤ p.length → timeAt p k ≤ timeAt p (k + d)
  | 0, k, _ => Int.le_refl _
  | d + 1, k, hk => by
    have := timeAt_mono h d k (by omega)
    have h2 := h (k + d) (by omega)
    show timeAt p k ≤ timeAt p (k + d) + lenAt p (k + d)
    omega
theorem timeAt_le {p : List Stp} (h : Lens p) {j k : Nat} (hj : j ≤ k) (hk : k ≤ p.length) : timeAt p j ≤ timeAt p k := by
  have := timeAt_mono h (k - j) j (by omega)
  rwa [show j + (k - j) = k by omega] at this
theorem lens_of_path {r : Nat} {p : List Stp} (h : PathP r p) : Lens p := fun k hk => by have := h.dur k hk; omega

theorem within_mid {n lo hi : Int} (h1 : lo ≤ n) (h2 : n ≤ hi) : within n lo hi = n := by unfold within; rw [if_neg (by omega), if_neg (by omega)]
theorem within_lo {n lo hi : Int} (h1 : n ≤ lo) (h2 : lo ≤ hi) : within n lo hi = lo := by
  unfold within
  split
  · rfl
  · rw [if_neg (by omega)]; omega
theorem within_hi {n lo hi : Int} (h1 : hi ≤ n) (h2 : lo ≤ hi) : within n lo hi = hi := by
  unfold within
  rw [if_neg (by omega)]
  split
  · rfl
  · omega
theorem within_bd {n lo hi : Int} (h : lo ≤ hi) : lo ≤ within n lo hi ∧ within n lo hi ≤ hi := by
  unfold within
  split
  · omega
  · split <;> omega
theorem within_le {u v lo hi : Int} (h : u ≤ v) (h2 : lo ≤ hi) : within u lo hi ≤ within v lo hi := by
  unfold within
  split <;> split <;> (try split) <;> (try split) <;> omega

structure Turn (p : List Stp) (a : Nat) (fr : Int) (b : Nat) (tt : Int) : Prop where
  ab : a ≤ b
  an : a < p.length
  bn : b ≤ p.length
  fr0 : 0 ≤ fr
  fr1 : fr ≤ lenAt p a
  to0 : 0 ≤ tt
  to1 : b < p.length → tt ≤ lenAt p b
  last : b = p.length → tt = 0
  eq : a = b → fr ≤ tt
theorem expand_three (x y z : Stp) : expand [x, y, z] = List.replicate x.2.toNat x.1 ++ (List.replicate y.2.toNat y.1 ++ List.replicate z.2.toNat z.1) := by simp [expand]
theorem turn_eq (R : List Int → List Int) {p : List Stp} (hl : Lens p) {a b : Nat} {fr tt : Int} (h : Turn p a fr b tt) : ∀ n, n ≤ p.length →
    expand (turnTo R p a fr b tt n) = expand (betTo R (timeAt p a + fr) (timeAt p b + tt) p n) := by
  intro n
  induction n with
  | zero => intro _; rfl
  | succ n ih =>
    intro hn
    rw [turnTo_succ, betTo_succ, expand_append, expand_append, ih (by omega)]
    congr 1
    obtain ⟨h1, h2, h3, h4, h5, h6, h7, h8, h9⟩ := h
    have hln := hl n (by omega)
    have hs : timeAt p (n + 1) = timeAt p n + lenAt p n := rfl
    have hle : timeAt p n ≤ timeAt p (n + 1) := by omega
    have hsa : timeAt p (a + 1) = timeAt p a + lenAt p a := rfl
    unfold turnK betK
    rw [expand_three]
    by_cases c1 : n < a
    · rw [if_pos (.inl c1), expand_one]
      have e1 := timeAt_le hl (show n + 1 ≤ a by omega) (by omega)
      have e2 := timeAt_le hl h1 (by omega)
      rw [within_hi (by omega) hle, within_hi (by omega) hle]
      rw [hs, show timeAt p n + lenAt p n - timeAt p n = lenAt p n by omega]
      simp
    · by_cases c2 : b < n
      · rw [if_pos (.inr c2), expand_one]
        have e1 := timeAt_le hl (show b + 1 ≤ n by omega) (by omega)
        have e2 := timeAt_le hl (show a + 1 ≤ n by omega) (by omega)
        have e3 := h7 (by omega)
        have hsb : timeAt p (b + 1) = timeAt p b + lenAt p b := rfl
        rw [within_lo (by omega) hle, within_lo (by omega) hle]
        rw [hs, show timeAt p n + lenAt p n - timeAt p n = lenAt p n by omega]
        simp
      · rw [if_neg (by omega), expand_three]
        have ea : within (timeAt p a + fr) (timeAt p n) (timeAt p (n + 1)) = timeAt p n + (if n = a then fr else 0) := by
          split
          · rename_i e; subst e
            rw [within_mid (by omega) (by omega)]
          · have e1 := timeAt_le hl (show a + 1 ≤ n by omega) (by omega)
            rw [within_lo (by omega) hle]
            omega
        have eb : within (timeAt p b + tt) (timeAt p n) (timeAt p (n + 1)) = timeAt p n + (if n = b then tt else lenAt p n) := by
          split
          · rename_i e; subst e
            have := h7 (by omega)
            rw [within_mid (by omega) (by rw [hs]; omega)]
          · have e1 := timeAt_le hl (show n + 1 ≤ b by omega) (by omega)
            rw [within_hi (by omega) hle]
            omega
        rw [ea, eb, hs]
        generalize (if n = a then fr else 0) = X
        generalize (if n = b then tt else lenAt p n) = Y
        rw [show timeAt p n + X - timeAt p n = X by omega, show timeAt p n + Y - (timeAt p n + X) = Y - X by omega, show timeAt p n + lenAt p n - (timeAt p n + Y) = lenAt p n - Y by omega]
theorem expand_filter (p : List Stp) : expand (p.filter fun s => s.2 != 0) = expand p := by
  induction p with
  | nil => rfl
  | cons s p ih =>
    have h2 : expand (s :: p) = List.replicate s.2.toNat s.1 ++ expand p := by simp [expand]
    rw [h2, List.filter_cons]
    split
    · have h3 : expand (s :: p.filter fun s => s.2 != 0) = List.replicate s.2.toNat s.1 ++ expand (p.filter fun s => s.2 != 0) := by simp [expand]
      rw [h3, ih]
    · rename_i h
      have : s.2 = 0 := by simpa using h
      rw [ih, this]
      rfl
theorem bet_nonneg (R : List Int → List Int) {p : List Stp} (hl : Lens p) {u v : Int} (huv : u ≤ v) (n : Nat) (hn : n ≤ p.length) : ∀ s ∈ betTo R u v p n, 0 ≤ s.2 := by
  intro s hs
  simp only [betTo, List.mem_flatMap, List.mem_range] at hs
  obtain ⟨k, hk, hs⟩ := hs
  have h1 := hl k (by omega)
  have h2 : timeAt p k ≤ timeAt p (k + 1) := by show timeAt p k ≤ timeAt p k + lenAt p k; omega
  have h3 := within_bd (n := u) h2
  have h4 := within_bd (n := v) h2
  have h5 := within_le huv h2
  simp only [betK, List.mem_cons, List.not_mem_nil, or_false] at hs
  rcases hs with rfl | rfl | rfl
  · show 0 ≤ _ - _; omega
  · show 0 ≤ _ - _; omega
  · show 0 ≤ _ - _; omega
theorem turn_nonneg (R : List Int → List Int) {p : List Stp} (hl : Lens p) {a b : Nat} {fr tt : Int} (h : Turn p a fr b tt) (n : Nat) (hn : n ≤ p.length) : ∀ s ∈ turnTo R p a fr b tt n, 0 ≤ s.2 := by
  intro s hs
  simp only [turnTo, List.mem_flatMap, List.mem_range] at hs
  obtain ⟨k, hk, hs⟩ := hs
  have h1 := hl k (by omega)
  obtain ⟨g1, g2, g3, g4, g5, g6, g7, g8, g9⟩ := h
  unfold turnK at hs
  split at hs
  · simp only [List.mem_singleton] at hs
    subst hs
    exact h1
  · simp only [List.mem_cons, List.not_mem_nil, or_false] at hs
    have e1 : k = b → tt ≤ lenAt p k := by rintro rfl; exact g7 (by omega)
    have e2 : k = a → fr ≤ lenAt p k := by rintro rfl; exact g5
    rcases hs with rfl | rfl | rfl
    · show 0 ≤ if k = a then fr else 0
      split <;> omega
    · show 0 ≤ (if k = b then tt else lenAt p k) - if k = a then fr else 0
      split <;> split <;> omega
    · show 0 ≤ lenAt p k - if k = b then tt else lenAt p k
      split <;> omega
theorem turn_le {p : List Stp} (hl : Lens p) {a b : Nat} {fr tt : Int} (h : Turn p a fr b tt) : timeAt p a + fr ≤ timeAt p b + tt := by
  obtain ⟨g1, g2, g3, g4, g5, g6, g7, g8, g9⟩ := h
  rcases Nat.eq_or_lt_of_le g1 with rfl | h1
  · have := g9 rfl; omega
  · have := timeAt_le hl (show a + 1 ≤ b by omega) g3
    have hsa : timeAt p (a + 1) = timeAt p a + lenAt p a := rfl
    omega
/-- both ways to apply a reflection between two times -/
theorem turn_check (R : List Int → List Int) {r : Nat} {p : List Stp} (hl : Lens p) {a b : Nat} {fr tt : Int} (h : Turn p a fr b tt) :
    checkS r ((turnTo R p a fr b tt p.length).filter fun s => s.2 != 0) = checkS r (betS R (timeAt p a + fr) (timeAt p b + tt) p) := by
  unfold checkS
  have h1 := turn_nonneg R hl h p.length (Nat.le_refl _)
  have h2 := bet_nonneg R hl (turn_le hl h) p.length (Nat.le_refl _)
  have h3 : joinS ((turnTo R p a fr b tt p.length).filter fun s => s.2 != 0) = joinS (betS R (timeAt p a + fr) (timeAt p b + tt) p) := by
    refine join_congr (fun s hs => h1 s (List.mem_filter.1 hs).1) h2 ?_
    rw [expand_filter, turn_eq R hl h p.length (Nat.le_refl _)]
    rfl
  rw [h3]

/-! ### a path gone back -/
/-! ### places -/
def lastEq (f : Nat → Bool) : Nat → Nat
  | 0 => 0
  | k + 1 => if f (k + 1) then k + 1 else lastEq f k
theorem lastEq_of {f : Nat → Bool} : ∀ {n a : Nat}, a ≤ n → f a = true → (∀ k, a < k → k ≤ n → f k = false) → lastEq f n = a
  | 0, a, h, _, _ => by simp [lastEq]; omega
  | n + 1, a, h, hf, hn => by
    unfold lastEq
    by_cases e : a = n + 1
    · subst e; rw [if_pos hf]
    · rw [if_neg (by rw [hn (n + 1) (by omega) (Nat.le_refl _)]; simp)]
      exact lastEq_of (by omega) hf fun k h1 h2 => hn k h1 (by omega)
theorem lastEq_spec {f : Nat → Bool} : ∀ {n a : Nat}, a ≤ n → f a = true → lastEq f n ≤ n ∧ f (lastEq f n) = true ∧ a ≤ lastEq f n ∧ ∀ k, lastEq f n < k → k ≤ n → f k = false
  | 0, a, h, hf => by
    obtain rfl : a = 0 := by omega
    exact ⟨Nat.le_refl _, hf, Nat.le_refl _, fun k h1 h2 => by simp [lastEq] at h1; omega⟩
  | n + 1, a, h, hf => by
    unfold lastEq
    split
    · rename_i e; exact ⟨Nat.le_refl _, e, h, fun k h1 h2 => by omega⟩
    · rename_i e
      have ha : a ≤ n := by
        rcases Nat.eq_or_lt_of_le h with rfl | h'
        · exact absurd hf e
        · omega
      obtain ⟨h1, h2, h3, h4⟩ := lastEq_spec ha hf
      refine ⟨by omega, h2, h3, fun k h5 h6 => ?_⟩
      rcases Nat.eq_or_lt_of_le h6 with rfl | h7
      · simpa using e
      · exact h4 k h5 (by omega)
def firstEq (f : Nat → Bool) : Nat → Nat → Nat
  | 0, k => k
  | n + 1, k => if f k then k else firstEq f n (k + 1)
theorem firstEq_of {f : Nat → Bool} : ∀ {n k a : Nat}, k ≤ a → a ≤ k + n → f a = true → (∀ j, k ≤ j → j < a → f j = false) → firstEq f n k = a
  | 0, k, a, h1, h2, _, _ => by simp [firstEq]; omega
  | n + 1, k, a, h1, h2, hf, hn => by
    unfold firstEq
    by_cases e : k = a
    · subst e; rw [if_pos hf]
    · rw [if_neg (by rw [hn k (Nat.le_refl _) (by omega)]; simp)]
      exact firstEq_of (by omega) (by omega) hf fun j h3 h4 => hn j (by omega) h4
theorem firstEq_spec {f : Nat → Bool} : ∀ {n k a : Nat}, k ≤ a → a ≤ k + n → f a = true → k ≤ firstEq f n k ∧ firstEq f n k ≤ a ∧ f (firstEq f n k) = true ∧ ∀ j, k ≤ j → j < firstEq f n k → f j = false
  | 0, k, a, h1, h2, hf => by
    obtain rfl : a = k := by omega
    exact ⟨Nat.le_refl _, Nat.le_refl _, hf, fun j h3 h4 => by simp [firstEq] at h4; omega⟩
  | n + 1, k, a, h1, h2, hf => by
    unfold firstEq
    split
    · rename_i e; exact ⟨Nat.le_refl _, h1, e, fun j h3 h4 => by omega⟩
    · rename_i e
      have ha : k + 1 ≤ a := by
        rcases Nat.eq_or_lt_of_le h1 with rfl | h'
        · exact absurd hf e
        · omega
      obtain ⟨h3, h4, h5, h6⟩ := firstEq_spec (n := n) ha (by omega) hf
      refine ⟨by omega, h4, h5, fun j h7 h8 => ?_⟩
      rcases Nat.eq_or_lt_of_le h7 with rfl | h9
      · simpa using e
      · exact h6 j (by omega) h8

def minHt (i : Nat) (p : List Stp) : Nat → Int
  | 0 => 0
  | k + 1 => if htAt i p (k + 1) < minHt i p k then htAt i p (k + 1) else minHt i p k
theorem minHt_le (i : Nat) (p : List Stp) : ∀ (n k : Nat), k ≤ n → minHt i p n ≤ htAt i p k
  | 0, k, h => by
    obtain rfl : k = 0 := by omega
    exact Int.le_refl _
  | n + 1, k, h => by
    unfold minHt
    rcases Nat.eq_or_lt_of_le h with rfl | h'
    · split <;> omega
    · have := minHt_le i p n k (by omega)
      split <;> omega
theorem minHt_at (i : Nat) (p : List Stp) : ∀ (n : Nat), ∃ k, k ≤ n ∧ htAt i p k = minHt i p n
  | 0 => ⟨0, Nat.le_refl _, rfl⟩
  | n + 1 => by
    unfold minHt
    split
    · exact ⟨n + 1, Nat.le_refl _, rfl⟩
    · obtain ⟨k, h1, h2⟩ := minHt_at i p n
      exact ⟨k, by omega, h2⟩
theorem minHt_eq {i : Nat} {p : List Stp} {n k : Nat} {m : Int} (hk : k ≤ n) (h1 : htAt i p k = m) (h2 : ∀ j, j ≤ n → m ≤ htAt i p j) : minHt i p n = m := by
  obtain ⟨j, h3, h4⟩ := minHt_at i p n
  have h5 := minHt_le i p n k hk
  have h6 := h2 j h3
  omega

/-! ### lowering and raising -/
def lowT (i : Nat) (p : List Stp) : Int := minHt i p p.length + 27720
def lowA (i : Nat) (p : List Stp) : Nat := lastEq (fun k => htAt i p k == minHt i p p.length) p.length
def lowB (i : Nat) (p : List Stp) : Nat := firstEq (fun k => decide (lowT i p ≤ htAt i p (k + 1))) p.length (lowA i p)
def slopeAt (i : Nat) (p : List Stp) (k : Nat) : Int := (wayAt p k).getD i 0
def lowS (r : Nat) (R : List Int → List Int) (i : Nat) (p : List Stp) : Option (List Stp) :=
  if htAt i p p.length < lowT i p then none
  else if (lowT i p - htAt i p (lowB i p)).tmod (slopeAt i p (lowB i p)) = 0 then checkS r (betS R (timeAt p (lowA i p)) (timeAt p (lowB i p) + (lowT i p - htAt i p (lowB i p)).tdiv (slopeAt i p (lowB i p))) p)
  else none
/-- what the search for the two places finds -/
structure LowP (i : Nat) (p : List Stp) (a b : Nat) : Prop where
  ab : a ≤ b
  bn : b < p.length
  ha : htAt i p a = minHt i p p.length
  aft : ∀ k, a < k → k ≤ p.length → htAt i p k ≠ minHt i p p.length
  hb : htAt i p b < lowT i p
  hb1 : lowT i p ≤ htAt i p (b + 1)
theorem low_places {i : Nat} {p : List Stp} (h : lowT i p ≤ htAt i p p.length) : LowP i p (lowA i p) (lowB i p) := by
  obtain ⟨k, hk, hk2⟩ := minHt_at i p p.length
  obtain ⟨h1, h2, _, h4⟩ := lastEq_spec (f := fun k => htAt i p k == minHt i p p.length) hk (by simpa using hk2)
  have h2' : htAt i p (lowA i p) = minHt i p p.length := by simpa [lowA] using h2
  have hT : lowT i p = minHt i p p.length + 27720 := rfl
  have hlt : lowA i p < p.length := by
    rcases Nat.lt_or_ge (lowA i p) p.length with h | h'
    · exact h
    · exfalso
      have e : lowA i p = p.length := Nat.le_antisymm h1 h'
      rw [e] at h2'
      omega
  obtain ⟨g1, g2, g3, g4⟩ := firstEq_spec (f := fun k => decide (lowT i p ≤ htAt i p (k + 1))) (n := p.length) (k := lowA i p) (a := p.length - 1) (by omega) (by omega) (by rw [show p.length - 1 + 1 = p.length by omega]; simpa using h)
  refine ⟨g1, by show firstEq _ _ _ < _; omega, h2', fun k h5 h6 => by simpa using h4 k h5 h6, ?_, by simpa [lowB] using g3⟩
  show htAt i p (lowB i p) < _
  rcases Nat.eq_or_lt_of_le g1 with h5 | h5
  · have e : lowB i p = lowA i p := h5.symm
    rw [e, h2']
    omega
  · have := g4 (lowB i p - 1) (by show _ ≤ lowB i p - 1; have : lowA i p < lowB i p := h5; omega) (by show lowB i p - 1 < lowB i p; have : lowA i p < lowB i p := h5; omega)
    have h6 : lowA i p < lowB i p := h5
    rw [show lowB i p - 1 + 1 = lowB i p by omega] at this
    simpa using this
theorem LowP.unique {i : Nat} {p : List Stp} {a b : Nat} (h : LowP i p a b) (hbet : ∀ k, a < k → k ≤ b → htAt i p k < lowT i p) : lowA i p = a ∧ lowB i p = b := by
  have e : lowA i p = a := lastEq_of (f := fun k => htAt i p k == minHt i p p.length) (by have := h.ab; have := h.bn; omega) (by simpa using h.ha) fun k h1 h2 => by simpa using h.aft k h1 h2
  refine ⟨e, ?_⟩
  unfold lowB
  rw [e]
  exact firstEq_of (f := fun k => decide (lowT i p ≤ htAt i p (k + 1))) h.ab (by have := h.bn; omega) (by simpa using h.hb1) fun j h1 h2 => by simpa using hbet (j + 1) (by omega) (by omega)
theorem lowB_before {i : Nat} {p : List Stp} (h : lowT i p ≤ htAt i p p.length) : ∀ k, lowA i p < k → k ≤ lowB i p → htAt i p k < lowT i p := by
  have hp := low_places h
  obtain ⟨g1, g2, g3, g4⟩ := firstEq_spec (f := fun k => decide (lowT i p ≤ htAt i p (k + 1))) (n := p.length) (k := lowA i p) (a := p.length - 1) (by have := hp.ab; have := hp.bn; omega) (by omega) (by have := hp.bn; rw [show p.length - 1 + 1 = p.length by omega]; simpa using h)
  intro k h1 h2
  have := g4 (k - 1) (by omega) (by show k - 1 < lowB i p; omega)
  rw [show k - 1 + 1 = k by omega] at this
  simpa using this
/-- the height that a step reaches, and the time within it -/
theorem cross_pos {d s l : Int} (h0 : 0 < d) (h1 : d ≤ l * s) (hl : 0 ≤ l) (hm : d.tmod s = 0) : 0 < s ∧ 0 ≤ d.tdiv s ∧ d.tdiv s ≤ l ∧ d.tdiv s * s = d := by
  have hs : 0 < s := by
    rcases Int.lt_or_le 0 s with h | h
    · exact h
    · exfalso
      have := Int.mul_le_mul_of_nonneg_left h hl
      omega
  have e : d.tdiv s * s = d := by
    have := Int.mul_tdiv_add_tmod d s
    rw [hm, Int.add_zero, Int.mul_comm] at this
    exact this
  have h2 : 0 ≤ d.tdiv s := Int.tdiv_nonneg (by omega) (by omega)
  refine ⟨hs, h2, ?_, e⟩
  rcases Int.lt_or_le l (d.tdiv s) with h | h
  · exfalso
    have := Int.mul_lt_mul_of_pos_right h hs
    omega
  · exact h
end Go.Proofs.YtdhlapppahkjeaaGreatDoor

namespace Go.Proofs.YtdhlapppahkjeaaGreatDoor

/-- a simple reflection -/
def refl (r : Nat) (ts : List Int) (i : Nat) (w : List Int) : List Int := (List.range r).map fun k => w.getD k 0 - w.getD i 0 * ts.getD (k * r + i) 0
theorem refl_length (r : Nat) (ts : List Int) (i : Nat) (w : List Int) : (refl r ts i w).length = r := by simp [refl]
theorem refl_get (r : Nat) (ts : List Int) (i : Nat) (w : List Int) (k : Nat) (hk : k < r) : (refl r ts i w).getD k 0 = w.getD k 0 - w.getD i 0 * ts.getD (k * r + i) 0 := by
  simp [refl, List.getD_eq_getElem?_getD, hk]
theorem typeB_entry {r : Nat} {ts : List Int} (h : typeB r ts = true) (m : Nat) : -3 ≤ ts.getD m 0 ∧ ts.getD m 0 ≤ 2 := by
  rw [typeB_eq] at h
  simp only [partsB, entryB, Bool.and_eq_true, List.all_eq_true, List.mem_range, decide_eq_true_eq] at h
  rcases Nat.lt_or_ge m ts.length with hm | hm
  · exact (h.1.2 m hm).1
  · rw [List.getD_eq_getElem?_getD, List.getElem?_eq_none hm]
    simp

/-- a path or none, as a call gives it -/
def optJ : Option (List Stp) → Bool × List Stp
  | some q => (true, q)
  | none => (false, [])
theorem chk_opt (r : Nat) (p : List Stp) : chk r p = optJ (checkS r p) := by
  unfold chk checkS
  split <;> rfl
def lowR (r : Nat) (ts : List Int) (i : Nat) (p : List Stp) : Bool × List Stp := optJ (lowS r (refl r ts i) i p)
theorem check_path {r : Nat} {p q : List Stp} (h : checkS r p = some q) : pathB r q = true := by
  unfold checkS at h
  split at h
  · rename_i hb
    cases h
    exact hb
  · cases h
theorem lowS_path {r : Nat} {R : List Int → List Int} {i : Nat} {p q : List Stp} (h : lowS r R i p = some q) : pathB r q = true := by
  unfold lowS at h
  split at h
  · cases h
  · split at h
    · exact check_path h
    · cases h
/-- the heights at the ends of the steps -/
def hts (i : Nat) (p : List Stp) (n : Nat) : List Int := (List.range (n + 1)).map (htAt i p)
theorem hts_length (i : Nat) (p : List Stp) (n : Nat) : (hts i p n).length = n + 1 := by simp [hts]
theorem hts_get (i : Nat) (p : List Stp) (n k : Nat) (hk : k ≤ n) : (hts i p n).getD k 0 = htAt i p k := by
  simp [hts, List.getD_eq_getElem?_getD, show k < n + 1 by omega]
theorem hts_succ (i : Nat) (p : List Stp) (n : Nat) : hts i p (n + 1) = hts i p n ++ [htAt i p (n + 1)] := by
  simp [hts, List.range_succ]
theorem ht_bound {r : Nat} {p : List Stp} (h : PathP r p) {i : Nat} (hi : i < r) : ∀ k, k ≤ p.length → -1000 * timeAt p k ≤ htAt i p k ∧ htAt i p k ≤ 1000 * timeAt p k
  | 0, _ => by simp [htAt, timeAt]
  | k + 1, hk => by
    have ih := ht_bound h hi k (by omega)
    obtain ⟨hd1, hd2⟩ := h.dur k (by omega)
    obtain ⟨hw1, hw2⟩ := (h.way k (by omega)).2 i hi
    have e1 : htAt i p (k + 1) = htAt i p k + lenAt p k * (wayAt p k).getD i 0 := rfl
    have e2 : timeAt p (k + 1) = timeAt p k + lenAt p k := rfl
    have h1 : lenAt p k * (wayAt p k).getD i 0 ≤ lenAt p k * 1000 := Int.mul_le_mul_of_nonneg_left hw2 (by omega)
    have h2 : lenAt p k * (-1000) ≤ lenAt p k * (wayAt p k).getD i 0 := Int.mul_le_mul_of_nonneg_left hw1 (by omega)
    rw [e1, e2]
    omega
theorem ht_small {r : Nat} {p : List Stp} (h : PathP r p) {i : Nat} (hi : i < r) (k : Nat) (hk : k ≤ p.length) : -83160000 ≤ htAt i p k ∧ htAt i p k ≤ 83160000 := by
  have h1 := ht_bound h hi k hk
  have h2 := timeAt_le (lens_of_path h) hk (Nat.le_refl _)
  have h3 := h.tle
  omega
theorem time_small {r : Nat} {p : List Stp} (h : PathP r p) (k : Nat) (hk : k ≤ p.length) : 0 ≤ timeAt p k ∧ timeAt p k ≤ 83160 := by
  have h1 := timeAt_le (lens_of_path h) (Nat.zero_le k) hk
  have h2 := timeAt_le (lens_of_path h) hk (Nat.le_refl _)
  have h3 := h.tle
  have h4 : timeAt p 0 = 0 := rfl
  omega
theorem min_small {r : Nat} {p : List Stp} (h : PathP r p) {i : Nat} (hi : i < r) : -83160000 ≤ minHt i p p.length ∧ minHt i p p.length ≤ 0 := by
  obtain ⟨k, hk, e⟩ := minHt_at i p p.length
  have h1 := ht_small h hi k hk
  have h2 := minHt_le i p p.length 0 (Nat.zero_le _)
  have h3 : htAt i p 0 = 0 := rfl
  omega
end Go.Proofs.YtdhlapppahkjeaaGreatDoor

namespace Go.Proofs.YtdhlapppahkjeaaGreatDoor
open Go.RowKit

theorem take_succ_at (p : List Stp) {k : Nat} (h : k < p.length) : p.take (k + 1) = p.take k ++ [(wayAt p k, lenAt p k)] := by
  rw [List.take_succ_eq_append_getElem h, show p[k] = (wayAt p k, lenAt p k) by simp [wayAt, lenAt, List.getD_eq_getElem?_getD, h]]
theorem set_self_at (p : List Stp) (k : Nat) : p.set k (wayAt p k, lenAt p k) = p := by
  apply List.ext_getElem?
  intro j
  rw [List.getElem?_set]
  split
  · rename_i e
    subst e
    split
    · rename_i h
      simp [wayAt, lenAt, List.getD_eq_getElem?_getD, h]
    · rename_i h
      rw [List.getElem?_eq_none (by omega)]
  · rfl
theorem addS_ways {P : List Int → Prop} {o : List Stp} {s : Stp} (ho : ∀ i, i < o.length → P (wayAt o i)) (hs : P s.1) : ∀ i, i < (addS o s).length → P (wayAt (addS o s) i) := by
  by_cases h : s.2 = 0
  · rw [addS_zero _ _ h]
    exact ho
  · rcases Nat.eq_zero_or_pos o.length with h0 | h0
    · rw [addS_first h0 _ h]
      obtain rfl := List.eq_nil_of_length_eq_zero h0
      intro i hi
      obtain rfl : i = 0 := by simp at hi; omega
      exact hs
    · obtain ⟨m, hm⟩ : ∃ m, o.length = m + 1 := ⟨o.length - 1, by omega⟩
      rw [addS_at hm _ h]
      intro i hi
      split at hi <;> split
      · rw [List.length_set] at hi
        unfold wayAt
        rw [OwnK.getD_set _ _ _ _ _ (by omega)]
        split
        · exact ho m (by omega)
        · exact ho i hi
      · contradiction
      · contradiction
      · rw [List.length_append, List.length_cons, List.length_nil] at hi
        by_cases hi2 : i < o.length
        · rw [wayAt_app _ _ _ hi2]
          exact ho i hi2
        · obtain rfl : i = o.length := by omega
          rw [wayAt_snoc]
          exact hs
theorem joinTo_ways {P : List Int → Prop} {p : List Stp} (hp : ∀ i, i < p.length → P (wayAt p i)) : ∀ k, k ≤ p.length → ∀ i, i < (joinTo [] p k).length → P (wayAt (joinTo [] p k) i)
  | 0, _, i, hi => by simp [joinTo] at hi
  | k + 1, hk, i, hi => by
    rw [joinTo_succ _ _ (by omega)] at hi ⊢
    exact addS_ways (s := (wayAt p k, lenAt p k)) (joinTo_ways hp k (by omega)) (hp k (by omega)) i hi
theorem Below.own {w0 w w' : World} {N n c : Nat} {a : Option Addr} (hb : Below N w0 w) (hg : w.grownBy w' (Value.slice a n c).ownBlock) (hB : N ≤ w.heap.size) (ha : ∀ b o, a = some ⟨b, o, none⟩ → N ≤ b) (h0 : ∀ p, a = some p → ∃ b, p = ⟨b, 0, none⟩) : Below N w0 w' := by
  refine Below.grown hb hg hB fun k hk => ?_
  cases a with
  | none => simp [Value.ownBlock] at hk
  | some p =>
    obtain ⟨b, rfl⟩ := h0 p rfl
    simp only [Value.ownBlock, Option.some.injEq] at hk
    rw [← hk]
    exact ha b 0 rfl
theorem OwnK.addr {α : Type} {K : Knd α} {w : World} {B U : Nat} {a : Option Addr} {n c : Nat} {hs : List Hdr} {xs : List α} (h : OwnK K w B U a n c hs xs) : ∀ p, a = some p → ∃ b, p = ⟨b, 0, none⟩ := by
  intro p e
  rcases h.form with ⟨rfl, _⟩ | ⟨g, cur, rfl, _⟩
  · cases e
  · cases e; exact ⟨g, rfl⟩

set_option maxRecDepth 100000 in
set_option maxHeartbeats 4000000 in
theorem copySteps_any (ap : Option Addr) (np cp : Nat) (ps : List Stp) (w : World) (hp : StepsAt w ap np ps) (hN : np ≤ 100000) (hbp : ∀ k, k < np → (wayAt ps k).length ≤ 1000000) :
    Calls Tryz.prog 40 #[.slice ap np cp] w fun e w' => ∃ g c' hs', e = .returned (.slice (some ⟨g, 0, none⟩) np c') ∧ OwnK stepK w' w.heap.size w'.heap.size (some ⟨g, 0, none⟩) np c' hs' ps ∧ Ext w w' := by
  have GP := hidP hp
  have BP := hidP hbp
  clear hp hbp
  have HM0 := hidP (OwnK.made0 stepK w)
  have HX0 := hidP (Ext.alloc w (.cells #[] 73))
  go_enter Tryz.func40, Tryz.ntmps40
  go_wp2
  go_loopw [3, 9] (fun out i wr => ∃ (k g co : Nat) (hs : List Hdr), k ≤ np ∧ out = .slice (some ⟨g, 0, none⟩) k co ∧ i = .int .i64 k ∧ Hid (OwnK stepK wr w.heap.size wr.heap.size (some ⟨g, 0, none⟩) k co hs (ps.take k)) ∧ Hid (Ext w wr)) (fun _ i _ => np - (intOf i).toNat)
  case atStart => exact ⟨0, _, _, [], Nat.zero_le _, rfl, rfl, HM0, HX0⟩
  case round =>
    obtain ⟨k, g, co, hs, hk, rfl, rfl, HO, HX⟩ := hrel
    by_cases hlt : k < np
    · obtain ⟨b, o, aw, cw, W, L, rfl, HW, HL, hwl, HNl, hq⟩ := (GP.out.below HX.out).way k hlt
      have HQ := hidP hq
      obtain ⟨q1, q2, _⟩ := hq wr (Ext.refl wr)
      have hbw : Hid (W.length ≤ 1000000) := by
        show _ ≤ _
        rw [← HW.out]
        exact BP.out k hlt
      have HA2 := hidP (Ext.alloc wr (.cells #[.slice aw W.length cw, .int .i64 L] 73))
      have HS := hidP (fun w' (hx : Ext (wr.alloc (.cells #[.slice aw W.length cw, .int .i64 L] 73)) w') => (StpAt.new wr _ rfl aw W.length cw L 73).below hx)
      obtain ⟨w2, hw2⟩ : ∃ w2, w2 = wr.alloc (.cells #[.slice aw W.length cw, .int .i64 L] 73) := ⟨_, rfl⟩
      rw [← hw2] at HA2 HS
      have HCl := hidP (fun w' (hx : Ext w2 w') => clone_any aw W.length cw W w' (HQ.out w' (HA2.out.trans hx)).2.2 HNl.out (by have := hbw.out; omega))
      have HTk : Hid (ps.take (k + 1) = ps.take k ++ [(W, L)]) := by
        show _ = _
        rw [take_succ_at _ (by have := GP.out.len; omega), HW.out, HL.out]
      clear hq
      go_wp2
      rw [← hw2]
      clear hw2 q1 q2
      have hE : Ext w2 w2.drew := Ext.drew w2
      (refine walkR_start (fun w' => Ext w2 w') 8 (by kernel_rfl) ?_; simp only [numbered, List.take_succ_cons, List.take_zero, Nat.zero_add, Nat.reduceAdd, List.length_cons, List.length_nil])
      (repeat (first | (refine walkR_still (v := ?_) rfl (by decide +kernel) rfl (fun _ _ _ h => h) hE ?_ ?_; rotate_left; (focus (intro w' hw'; obtain ⟨q1, q2⟩ := HS.out w' hw'; go_simp; all_goals (with_reducible rfl))); simp only [Act.put, List.setIfInBounds_toArray, List.set_cons_zero, List.set_cons_succ]) | (refine walkR_skip rfl (by decide +kernel) rfl (fun _ _ _ h => h) hE ?_; simp only [Act.put, List.setIfInBounds_toArray, List.set_cons_zero, List.set_cons_succ])))
      (refine walkR_later ?_; simp only [List.cons_append, List.nil_append])
      (repeat (first | (refine walkR_still (v := ?_) rfl (by decide +kernel) rfl (fun _ _ _ h => h) hE ?_ ?_; rotate_left; (focus (intro w' hw'; obtain ⟨q1, q2⟩ := HS.out w' hw'; go_simp; all_goals (with_reducible rfl))); simp only [Act.put, List.setIfInBounds_toArray, List.set_cons_zero, List.set_cons_succ]) | (refine walkR_skip rfl (by decide +kernel) rfl (fun _ _ _ h => h) hE ?_; simp only [Act.put, List.setIfInBounds_toArray, List.set_cons_zero, List.set_cons_succ])))
      (refine walkR_later ?_; simp only [List.cons_append, List.nil_append]); (refine walkR_later ?_; simp only [List.cons_append, List.nil_append])
      (refine walkR_only (fun w' => Ext w2 w') rfl (by decide +kernel) rfl (fun _ h => h) ?_; intro K hK; go_simp; refine (HCl.out _ hE).mono ?_; rintro e w3 ⟨a1, c1, rfl, ho1, hx1⟩; refine hK _ _ (hE.trans hx1) ?_; clear hK K; (try simp only [Act.put, List.setIfInBounds_toArray, List.set_cons_zero, List.set_cons_succ]))
      have HE3 := hidP (HA2.out.trans ((hE.trans hx1).trans (Ext.alloc w3 (.cells #[.slice a1 W.length c1, .int .i64 L] 73))))
      have HO3 := hidP (HO.out.below HE3.out)
      have HI3 := hidP (ho1.below (Ext.alloc w3 (.cells #[.slice a1 W.length c1, .int .i64 L] 73)))
      have HAp := hidP (HO.out.new_apart ho1 (by have := HA2.out.size; simpa using this))
      have HB3 : Hid (w.heap.size ≤ w2.drew.heap.size) := Nat.le_trans HX.out.size (HA2.out.trans hE).size
      have HCe : Hid (∀ j, j < stepK.size → (w3.alloc (.cells #[.slice a1 W.length c1, .int .i64 L] 73)).cell? ⟨w3.heap.size, j, none⟩ = (stepK.cells a1 c1 (W, L))[j]?) := fun j _ => (cell_top _ _ _ _ _ rfl).trans (by simp [stepK])
      have hE3 := hE.trans hx1
      clear ho1 hx1 hE
      (repeat (first | (refine walkR_still (v := ?_) rfl (by decide +kernel) rfl (fun _ _ _ h => h) hE3 ?_ ?_; rotate_left; (focus (intro w' hw'; skip; go_simp; all_goals (with_reducible rfl))); simp only [Act.put, List.setIfInBounds_toArray, List.set_cons_zero, List.set_cons_succ]) | (refine walkR_skip rfl (by decide +kernel) rfl (fun _ _ _ h => h) hE3 ?_; simp only [Act.put, List.setIfInBounds_toArray, List.set_cons_zero, List.set_cons_succ])))
      (refine walkR_only (fun w' => Ext w2 w') rfl (by decide +kernel) rfl ?_ ?_)
      · exact fun _ h => h
      intro K hK
      go_simp
      refine hK _ _ (hE3.trans (Ext.alloc w3 (.cells #[.slice a1 W.length c1, .int .i64 L] 73))) ?_
      clear hK K
      (try simp only [Act.put, List.setIfInBounds_toArray, List.set_cons_zero, List.set_cons_succ])
      (refine walkR_tail (by rfl) (by kernel_rfl) ?_; simp only [List.drop_succ_cons, List.drop_zero])
      go_wp2_with (at_builtin; refine wpList_append_elem2 stepK 45 (.agg #[.slice none 0 0, .int .i64 0]) 32 rfl (.tmp 13) (.tmp 20) rfl Tryz.underlying45 Tryz.info73 rfl (by omega) w.heap.size _ (some ⟨g, 0, none⟩) k co hs _ rfl HO3.out w3.heap.size 1 (a1, c1) (W, L) rfl HCe.out (HI3.out.base HB3.out) HAp.out.1 HAp.out.2 (by omega) (Nat.le_trans HX.out.size HE3.out.size) ?_; intro a4 c4 w4 ho4 hg4 hn4; have HX4 := hidP (HO3.out.below_grown hg4 (HX.out.trans HE3.out) (HX.out.trans HE3.out).size); have HO4 := hidP ho4; clear ho4 hg4 hn4)
      obtain ⟨g4, rfl⟩ : ∃ g4, a4 = some ⟨g4, 0, none⟩ := by
        rcases HO4.out.form with ⟨_, h0, _⟩ | ⟨g4, _, e4, _⟩
        · omega
        · exact ⟨g4, e4⟩
      go_roundw
      case rel => exact ⟨k + 1, g4, c4, hs ++ [(a1, c1)], by omega, rfl, by go_num, by rw [HTk.out]; exact HO4.out, HX4.out⟩
      case measure => simp [intOf]; omega
    · obtain rfl : np = k := by omega
      have HT : Hid (ps.take np = ps) := List.take_of_length_le (by have := GP.out.len; omega)
      go_wp2
      go_ret
      exact ⟨g, co, hs, rfl, by rw [← HT.out]; exact HO.out, HX.out⟩

/-- the way of a place -/
def V0 (p : List Stp) (m : Nat) : List Int := wayAt p m

set_option maxRecDepth 100000 in
set_option maxHeartbeats 8000000 in
theorem checked_of (R : Nat) (ta : Option Addr) (tn tc : Nat) (ts : List Int) (B U : Nat) (ap : Option Addr) (np cp : Nat) (hs : List Hdr) (ps : List Stp) (w : World) (hp : OwnK stepK w B U ap np cp hs ps) (hB : B ≤ w.heap.size) (hN : np ≤ 100000)
    (hbp : ∀ k, k < np → (wayAt ps k).length ≤ 1000000 ∧ 0 ≤ lenAt ps k ∧ lenAt ps k ≤ 1000000) (hT : typeB R ts = true)
    (HIs : ∀ w', Ext w w' → Calls Tryz.prog 36 #[carV R ta tn tc] w' fun e w'' => e = .returned (.bool (typeB R ts)) ∧ Ext w' w'') :
    Calls Tryz.prog 38 #[carV R ta tn tc, .slice ap np cp] w fun e w' => ∃ a' n' c' hs', e = .returned (.tuple #[.slice a' n' c', .bool (chk R ps).1]) ∧ OwnK stepK w' B w'.heap.size a' n' c' hs' (chk R ps).2 ∧ Ext w w' := by
  have GP := hidP hp
  have BP := hidP hbp
  have HHs := hidP HIs
  have HT := hidP hT
  have hx1 := Ext.alloc w (.cells #[.int .i64 R, .slice ta tn tc] 29)
  have HC := hidP (fun w' (hx : Ext (w.alloc (.cells #[.int .i64 R, .slice ta tn tc] 29)) w') => (CarAt.new w _ rfl R ta tn tc 29).below hx)
  have HX1 := hidP hx1
  have HB1 : Hid (B ≤ (w.alloc (.cells #[.int .i64 R, .slice ta tn tc] 29)).heap.size) := Nat.le_trans hB hx1.size
  clear hp hbp HIs hT hB hx1
  have HM0 := hidP (OwnK.made0 stepK (w.alloc (.cells #[.int .i64 R, .slice ta tn tc] 29)))
  have HXM := hidP (Ext.alloc (w.alloc (.cells #[.int .i64 R, .slice ta tn tc] 29)) (.cells #[] 73))
  go_enter Tryz.func38, Tryz.ntmps38
  go_wp2
  obtain ⟨w1, hw1⟩ : ∃ w1, w1 = w.alloc (.cells #[.int .i64 R, .slice ta tn tc] 29) := ⟨_, rfl⟩
  have hws : w.heap.size + 1 = w1.heap.size := by rw [hw1]; simp
  rw [← hw1] at HM0 HXM HC HX1 HB1 ⊢
  have HWS := hidP hws
  clear hw1 hws
  go_loopw [6, 13] (fun out i wr => ∃ (k : Nat) (ao : Option Addr) (m co : Nat) (hso : List Hdr), k ≤ np ∧ out = .slice ao m co ∧ i = .int .i64 k ∧ Hid (OwnK stepK wr B wr.heap.size ao m co hso (joinTo [] ps k)) ∧ Hid (Ext w1 wr) ∧ Hid (∀ b o, ao = some ⟨b, o, none⟩ → w1.heap.size ≤ b) ∧ Hid (∀ i, i < m → ∃ j, j < k ∧ hso.getD i (none, 0) = hs.getD j (none, 0))) (fun _ i _ => np - (intOf i).toNat)
  case atStart => exact ⟨0, _, _, _, [], Nat.zero_le _, rfl, rfl, (by rw [HWS.out]; exact HM0.out.weaken HB1.out (Nat.le_refl _)), HXM, fun b o e => by have := HWS.out; simp only [Option.some.injEq, Addr.mk.injEq, and_true] at e; omega, fun i hi => absurd hi (Nat.not_lt_zero _)⟩
  case round =>
    obtain ⟨k, ao, m, co, hso, hk, rfl, rfl, HO, HX, HNew, HMem⟩ := hrel
    by_cases hlt : k < np
    · obtain ⟨b, al, cl, rfl, hhk, p1, p2, _, _, hwo⟩ := (GP.out.below (HX1.out.trans HX.out)).stepCell k hlt
      have Hhk := hidP hhk
      have hbw := BP.out k hlt
      have HSu : Hid (joinTo [] ps (k + 1) = addS (joinTo [] ps k) (wayAt ps k, lenAt ps k)) := joinTo_succ _ _ (by have := GP.out.xl; omega)
      have HAp : Hid (∀ i, i < m → Apart (hso.getD i (none, 0)).1 al) := by
        show ∀ i, _
        intro i hi
        obtain ⟨j, hj, e⟩ := HMem.out i hi
        rw [e]
        have := GP.out.apart j k (by omega) hlt (by omega)
        rw [hhk] at this
        exact this
      have HWo0 : Hid (∀ w', Ext w1 w' → OwnI w' B al (wayAt ps k).length cl (wayAt ps k)) := by
        show ∀ w', _
        intro w' hx
        have := ((GP.out.below HX1.out).below hx).each k hlt
        rw [hhk] at this
        exact this
      have hm : m ≤ k := by
        have := joinTo_length [] ps k
        rw [HO.out.xl] at this
        simpa using this
      have HLn : Hid (∀ i, i < m → 0 ≤ lenAt (joinTo [] ps k) i ∧ lenAt (joinTo [] ps k) i ≤ 1000000000000) := by
        show ∀ i, _
        intro i hi
        have := joinTo_lens (o := []) (p := ps) (C := 1000000) (D := 0) (fun i hi => absurd hi (by simp)) (fun j hj => (BP.out j (by have := GP.out.xl; omega)).2) k (by have := GP.out.xl; omega) (by omega) (by omega) i (by rw [HO.out.xl]; exact hi)
        omega
      have HWn : Hid (∀ i, i < m → (wayAt (joinTo [] ps k) i).length ≤ 1000000) := by
        show ∀ i, _
        intro i hi
        exact joinTo_ways (P := fun W => W.length ≤ 1000000) (fun j hj => (BP.out j (by have := GP.out.xl; omega)).1) k (by have := GP.out.xl; omega) i (by rw [HO.out.xl]; exact hi)
      obtain ⟨W, hW⟩ : ∃ W, W = wayAt ps k := ⟨_, rfl⟩
      obtain ⟨L, hL⟩ : ∃ L, L = lenAt ps k := ⟨_, rfl⟩
      rw [← hW] at p1 hwo hbw HSu HWo0
      rw [← hL] at p2 hbw HSu
      clear hW hL hhk hwo
      have HA2 := hidP (Ext.alloc wr (.cells #[.slice al W.length cl, .int .i64 L] 73))
      have HS := hidP (fun w' (hx : Ext (wr.alloc (.cells #[.slice al W.length cl, .int .i64 L] 73)) w') => (StpAt.new wr _ rfl al W.length cl L 73).below hx)
      have HO2 := hidP (HO.out.below (Ext.alloc wr (.cells #[.slice al W.length cl, .int .i64 L] 73)))
      obtain ⟨w2, hw2⟩ : ∃ w2, w2 = wr.alloc (.cells #[.slice al W.length cl, .int .i64 L] 73) := ⟨_, rfl⟩
      rw [← hw2] at HA2 HS HO2
      have HX2 := hidP (HX.out.trans HA2.out)
      have HWo := HWo0
      have hE : Ext w2 w2.drew := Ext.drew w2
      cases m with
      | zero =>
        have hlen0 : (joinTo [] ps k).length = 0 := HO.out.xl
        go_wp2
        rw [← hw2]
        clear hw2 p1 p2
        (refine walkR_start (fun w' => Ext w2 w') 12 (by kernel_rfl) ?_; simp only [numbered, List.take_succ_cons, List.take_zero, Nat.zero_add, Nat.reduceAdd, List.length_cons, List.length_nil])
        (repeat (first | (refine walkR_still (v := ?_) rfl (by decide +kernel) rfl (fun _ _ _ h => h) hE ?_ ?_; rotate_left; (focus (intro w' hw'; skip; go_simp; all_goals (with_reducible rfl))); simp only [Act.put, List.setIfInBounds_toArray, List.set_cons_zero, List.set_cons_succ]) | (refine walkR_skip rfl (by decide +kernel) rfl (fun _ _ _ h => h) hE ?_; simp only [Act.put, List.setIfInBounds_toArray, List.set_cons_zero, List.set_cons_succ])))
        (refine walkR_tail (by rfl) (by kernel_rfl) ?_; simp only [List.drop_succ_cons, List.drop_zero])
        by_cases hL : 0 < L
        · have HSu2 : Hid (joinTo [] ps (k + 1) = joinTo [] ps k ++ [(W, L)]) := by show _ = _; rw [HSu.out, addS_first hlen0 _ (by show L ≠ 0; omega)]
          obtain ⟨q1, q2⟩ := HS.out _ hE
          have HO3 := hidP (HO2.out.below hE)
          obtain ⟨w3, hw3⟩ : ∃ w3, w3 = w2.drew := ⟨_, rfl⟩
          have HE3 : Hid (Ext w2 w3) := by rw [hw3]; exact hE
          rw [← hw3] at HO3 q1 q2 ⊢
          clear hw3
          have HX4 := hidP (HX2.out.trans (HE3.out.trans (Ext.alloc w3 (.cells #[.slice al W.length cl, .int .i64 L] 73))))
          have HO4 := hidP (HO3.out.below (Ext.alloc w3 (.cells #[.slice al W.length cl, .int .i64 L] 73)))
          have HI4 := hidP (HWo.out _ HX4.out)
          have HFa := hidP (HO4.out.off_ints HI4.out)
          have HCe : Hid (∀ j, j < stepK.size → (w3.alloc (.cells #[.slice al W.length cl, .int .i64 L] 73)).cell? ⟨w3.heap.size, j, none⟩ = (stepK.cells al cl (W, L))[j]?) := fun j _ => (cell_top _ _ _ _ _ rfl).trans (by simp [stepK])
          go_wp2_with (at_builtin; refine wpList_append_elem2 stepK 45 (.agg #[.slice none 0 0, .int .i64 0]) 32 rfl (.tmp 46) (.tmp 48) rfl Tryz.underlying45 Tryz.info73 rfl (by omega) B _ ao 0 co hso _ rfl HO4.out w3.heap.size 1 (al, cl) (W, L) rfl HCe.out HI4.out HAp.out HFa.out (by omega) (Nat.le_trans HB1.out HX4.out.size) ?_; intro a5 c5 w5 ho5 hg5 hn5; have HX5 := hidP (Below.own HX4.out hg5 HX4.out.size HNew.out HO4.out.addr); have HO5 := hidP ho5; have HN5 := hidP hn5; clear ho5 hg5 hn5)
          go_roundw
          case rel =>
            refine ⟨k + 1, a5, 0 + 1, c5, hso ++ [(al, cl)], by omega, rfl, by go_num, by rw [HSu2.out]; exact HO5.out, HX5.out, fun b o e => ?_, fun i hi => ?_⟩
            · rcases HN5.out with h | h
              · exact HNew.out b o (h ▸ e)
              · exact Nat.le_trans HX4.out.size (h b o e)
            · by_cases hi2 : i < 0
              · obtain ⟨j, hj, e⟩ := HMem.out i hi2
                exact ⟨j, by omega, by rw [← e]; exact getD_left _ _ _ _ (by rw [HO.out.hl]; exact hi2)⟩
              · obtain rfl : i = 0 := by omega
                exact ⟨k, by omega, by rw [Hhk.out, getD_right _ _ _ _ (by rw [HO.out.hl]; exact Nat.le_refl _), HO.out.hl, Nat.sub_self]; rfl⟩
          case measure => simp [intOf]; omega
        · obtain rfl : L = 0 := by omega
          have HSu2 : Hid (joinTo [] ps (k + 1) = joinTo [] ps k) := by
            show _ = _
            rw [HSu.out, addS_zero _ _ rfl]
          obtain ⟨q1, q2⟩ := HS.out _ hE
          have HX4 := hidP (HX2.out.trans hE)
          have HO4 := hidP (HO2.out.below hE)
          go_wp2
          go_roundw
          case rel => exact ⟨k + 1, ao, 0, co, hso, by omega, rfl, by go_num, by rw [HSu2.out]; exact HO4.out.weaken (Nat.le_refl _) (HA2.out.trans hE).size, HX4.out, HNew.out, fun i hi => by obtain ⟨j, hj, e⟩ := HMem.out i hi; exact ⟨j, by omega, e⟩⟩
          case measure => simp [intOf]; omega
      | succ m =>
        have hlenS : (joinTo [] ps k).length = m + 1 := HO.out.xl
        obtain ⟨g, aV, cV, rfl, _, _, _, _, _, _⟩ := HO2.out.stepCell m (by omega)
        have HSt := hidP (fun w' (h : OwnK stepK w' B wr.heap.size (some ⟨g, 0, none⟩) (m + 1) co hso (joinTo [] ps k)) => h.stored m 1 (by omega) (by decide) (.int .i64 (lenAt (joinTo [] ps k) m + L)) (wayAt (joinTo [] ps k) m, lenAt (joinTo [] ps k) m + L) rfl rfl rfl)
        have HOc : Hid (∀ w', Ext w2 w' → ∃ aV cV, w'.cell? ⟨g, m * 2, none⟩ = some (.slice aV (wayAt (joinTo [] ps k) m).length cV) ∧ w'.cell? ⟨g, m * 2 + 1, none⟩ = some (.int .i64 (lenAt (joinTo [] ps k) m)) ∧ w'.frozen? ⟨g, m * 2 + 1, none⟩ = false ∧ IntsAt w' aV (wayAt (joinTo [] ps k) m).length (wayAt (joinTo [] ps k) m) ∧ hso.getD m (none, 0) = (aV, cV)) := by
          show ∀ w', _
          intro w' hx
          obtain ⟨g', aV, cV, e, hh, c1, c2, _, f2, ho⟩ := (HO2.out.below hx).stepCell m (by omega)
          simp only [Option.some.injEq, Addr.mk.injEq, and_true] at e
          obtain rfl := e
          exact ⟨aV, cV, c1, c2, f2, ho.ints, hh⟩
        obtain ⟨⟨aV, cV⟩, hVV⟩ : ∃ h : Hdr, h = hso.getD m (none, 0) := ⟨_, rfl⟩
        have hVl := HWn.out m (by omega)
        have hMl := HLn.out m (by omega)
        have HSuE : Hid (V0 (joinTo [] ps k) m = W → joinTo [] ps (k + 1) = (joinTo [] ps k).set m (wayAt (joinTo [] ps k) m, lenAt (joinTo [] ps k) m + L)) := by
          show _ → _
          intro e
          rw [HSu.out]
          by_cases h0 : L = 0
          · rw [addS_zero _ _ h0, h0, Int.add_zero, set_self_at]
          · rw [addS_at hlenS _ h0, if_pos (show wayAt (joinTo [] ps k) m = (W, L).1 from e)]
        have HSuN : Hid (V0 (joinTo [] ps k) m ≠ W → L ≠ 0 → joinTo [] ps (k + 1) = joinTo [] ps k ++ [(W, L)]) := by
          show _ → _
          intro e h0
          rw [HSu.out, addS_at hlenS _ h0, if_neg (show ¬ wayAt (joinTo [] ps k) m = (W, L).1 from e)]
        obtain ⟨V, hV⟩ : ∃ V, V = wayAt (joinTo [] ps k) m := ⟨_, rfl⟩
        obtain ⟨M, hM⟩ : ∃ M, M = lenAt (joinTo [] ps k) m := ⟨_, rfl⟩
        unfold V0 at HSuE HSuN
        rw [← hV] at HOc hVl HSt HSuE HSuN
        rw [← hM] at HOc hMl HSt HSuE
        have HOc2 : Hid (∀ w', Ext w2 w' → w'.cell? ⟨g, m * 2, none⟩ = some (.slice aV V.length cV) ∧ w'.cell? ⟨g, m * 2 + 1, none⟩ = some (.int .i64 M) ∧ w'.frozen? ⟨g, m * 2 + 1, none⟩ = false ∧ IntsAt w' aV V.length V) := by
          show ∀ w', _
          intro w' hx
          obtain ⟨a1, c1, h1, h2, h3, h4, h5⟩ := HOc.out w' hx
          rw [← hVV] at h5
          simp only [Prod.mk.injEq] at h5
          obtain ⟨rfl, rfl⟩ := h5
          exact ⟨h1, h2, h3, h4⟩
        have HEq := hidP (fun w' (hx : Ext w2 w') => (equalI_any aV al V.length cV W.length cl V W w' (HOc2.out w' hx).2.2.2 (HWo.out w' (HX2.out.trans hx)).ints (by omega) (by omega)).mono (fun (e : Ending) (w'' : World) (h : e = .returned (.bool (V == W)) ∧ ∃ m, w'' = w'.drewN m) => (⟨h.1, by obtain ⟨_, q, rfl⟩ := h; exact Ext.drewN _ _⟩ : e = .returned (.bool (V == W)) ∧ Ext w' w'')))
        have hwr : IntKind.i64.wrap (M + L) = M + L := wrap_in (by omega) (by omega)
        have hm0 : (0 : Int) ≤ (m : Int) := by omega
        have hm1 : (0 : Int) < (m : Int) + 1 := by omega
        have hm5 : (m : Int) < (m : Int) + 1 := by omega
        have hm4 : IntKind.i64.wrap (m : Int) = m := wrap_in (by omega) (by omega)
        clear hV hM hVV HOc hVl
        cases hb : (V == W)
        · rw [hb] at HEq
          have HVW : Hid (V ≠ W) := by
            show _ ≠ _
            simpa using hb
          clear hb HSt HSuE
          go_wp2
          rw [← hw2]
          clear hw2 p1 p2
          (refine walkR_start (fun w' => Ext w2 w') 12 (by kernel_rfl) ?_; simp only [numbered, List.take_succ_cons, List.take_zero, Nat.zero_add, Nat.reduceAdd, List.length_cons, List.length_nil])
          (repeat (first | (refine walkR_still (v := ?_) rfl (by decide +kernel) rfl (fun _ _ _ h => h) hE ?_ ?_; rotate_left; (focus (intro w' hw'; obtain ⟨q1, q2⟩ := HS.out w' hw'; obtain ⟨y1, y2, y3, _⟩ := HOc2.out w' hw'; go_simp; all_goals (with_reducible rfl))); simp only [Act.put, List.setIfInBounds_toArray, List.set_cons_zero, List.set_cons_succ]) | (refine walkR_skip rfl (by decide +kernel) rfl (fun _ _ _ h => h) hE ?_; simp only [Act.put, List.setIfInBounds_toArray, List.set_cons_zero, List.set_cons_succ])))
          (refine walkR_only (fun w' => Ext w2 w') rfl (by decide +kernel) rfl (fun _ h => h) ?_; intro K hK; go_simp; refine (HEq.out _ hE).mono ?_; rintro e w25 ⟨rfl, hx25⟩; refine hK _ _ (hE.trans hx25) ?_; clear hK K; (try simp only [Act.put, List.setIfInBounds_toArray, List.set_cons_zero, List.set_cons_succ]))
          have hE2 := hE.trans hx25
          clear hx25
          (repeat (first | (refine walkR_still (v := ?_) rfl (by decide +kernel) rfl (fun _ _ _ h => h) hE2 ?_ ?_; rotate_left; (focus (intro w' hw'; skip; go_simp; all_goals (with_reducible rfl))); simp only [Act.put, List.setIfInBounds_toArray, List.set_cons_zero, List.set_cons_succ]) | (refine walkR_skip rfl (by decide +kernel) rfl (fun _ _ _ h => h) hE2 ?_; simp only [Act.put, List.setIfInBounds_toArray, List.set_cons_zero, List.set_cons_succ])))
          (refine walkR_tail (by rfl) (by kernel_rfl) ?_; simp only [List.drop_succ_cons, List.drop_zero])
          by_cases hL : 0 < L
          · have HSu2 : Hid (joinTo [] ps (k + 1) = joinTo [] ps k ++ [(W, L)]) := HSuN.out HVW.out (by omega)
            obtain ⟨q1, q2⟩ := HS.out _ hE2
            have HO3 := hidP (HO2.out.below hE2)
            obtain ⟨w3, hw3⟩ : ∃ w3, w3 = w25 := ⟨_, rfl⟩
            have HE3 : Hid (Ext w2 w3) := by rw [hw3]; exact hE2
            rw [← hw3] at HO3 q1 q2 ⊢
            clear hw3
            have HX4 := hidP (HX2.out.trans (HE3.out.trans (Ext.alloc w3 (.cells #[.slice al W.length cl, .int .i64 L] 73))))
            have HO4 := hidP (HO3.out.below (Ext.alloc w3 (.cells #[.slice al W.length cl, .int .i64 L] 73)))
            have HI4 := hidP (HWo.out _ HX4.out)
            have HFa := hidP (HO4.out.off_ints HI4.out)
            have HCe : Hid (∀ j, j < stepK.size → (w3.alloc (.cells #[.slice al W.length cl, .int .i64 L] 73)).cell? ⟨w3.heap.size, j, none⟩ = (stepK.cells al cl (W, L))[j]?) := fun j _ => (cell_top _ _ _ _ _ rfl).trans (by simp [stepK])
            go_wp2_with (at_builtin; refine wpList_append_elem2 stepK 45 (.agg #[.slice none 0 0, .int .i64 0]) 32 rfl (.tmp 46) (.tmp 48) rfl Tryz.underlying45 Tryz.info73 rfl (by omega) B _ (some ⟨g, 0, none⟩) (m + 1) co hso _ rfl HO4.out w3.heap.size 1 (al, cl) (W, L) rfl HCe.out HI4.out HAp.out HFa.out (by omega) (Nat.le_trans HB1.out HX4.out.size) ?_; intro a5 c5 w5 ho5 hg5 hn5; have HX5 := hidP (Below.own HX4.out hg5 HX4.out.size HNew.out HO4.out.addr); have HO5 := hidP ho5; have HN5 := hidP hn5; clear ho5 hg5 hn5)
            go_roundw
            case rel =>
              refine ⟨k + 1, a5, (m + 1) + 1, c5, hso ++ [(al, cl)], by omega, rfl, by go_num, by rw [HSu2.out]; exact HO5.out, HX5.out, fun b o e => ?_, fun i hi => ?_⟩
              · rcases HN5.out with h | h
                · exact HNew.out b o (h ▸ e)
                · exact Nat.le_trans HX4.out.size (h b o e)
              · by_cases hi2 : i < (m + 1)
                · obtain ⟨j, hj, e⟩ := HMem.out i hi2
                  exact ⟨j, by omega, by rw [← e]; exact getD_left _ _ _ _ (by rw [HO.out.hl]; exact hi2)⟩
                · obtain rfl : i = (m + 1) := by omega
                  exact ⟨k, by omega, by rw [Hhk.out, getD_right _ _ _ _ (by rw [HO.out.hl]; exact Nat.le_refl _), HO.out.hl, Nat.sub_self]; rfl⟩
            case measure => simp [intOf]; omega
          · obtain rfl : L = 0 := by omega
            have HSu2 : Hid (joinTo [] ps (k + 1) = joinTo [] ps k) := by
              show _ = _
              rw [HSu.out, addS_zero _ _ rfl]
            obtain ⟨q1, q2⟩ := HS.out _ hE2
            have HX4 := hidP (HX2.out.trans hE2)
            have HO4 := hidP (HO2.out.below hE2)
            go_wp2
            go_roundw
            case rel => exact ⟨k + 1, (some ⟨g, 0, none⟩), (m + 1), co, hso, by omega, rfl, by go_num, by rw [HSu2.out]; exact HO4.out.weaken (Nat.le_refl _) (HA2.out.trans hE2).size, HX4.out, HNew.out, fun i hi => by obtain ⟨j, hj, e⟩ := HMem.out i hi; exact ⟨j, by omega, e⟩⟩
            case measure => simp [intOf]; omega
        · rw [hb] at HEq
          have HSu2 : Hid (joinTo [] ps (k + 1) = (joinTo [] ps k).set m (V, M + L)) := HSuE.out (by simpa using hb)
          clear hb HSuE HSuN
          go_wp2
          rw [← hw2]
          clear hw2 p1 p2
          (refine walkR_start (fun w' => Ext w2 w') 12 (by kernel_rfl) ?_; simp only [numbered, List.take_succ_cons, List.take_zero, Nat.zero_add, Nat.reduceAdd, List.length_cons, List.length_nil])
          (repeat (first | (refine walkR_still (v := ?_) rfl (by decide +kernel) rfl (fun _ _ _ h => h) hE ?_ ?_; rotate_left; (focus (intro w' hw'; obtain ⟨q1, q2⟩ := HS.out w' hw'; obtain ⟨y1, y2, y3, _⟩ := HOc2.out w' hw'; go_simp; all_goals (with_reducible rfl))); simp only [Act.put, List.setIfInBounds_toArray, List.set_cons_zero, List.set_cons_succ]) | (refine walkR_skip rfl (by decide +kernel) rfl (fun _ _ _ h => h) hE ?_; simp only [Act.put, List.setIfInBounds_toArray, List.set_cons_zero, List.set_cons_succ])))
          (refine walkR_only (fun w' => Ext w2 w') rfl (by decide +kernel) rfl (fun _ h => h) ?_; intro K hK; go_simp; refine (HEq.out _ hE).mono ?_; rintro e w25 ⟨rfl, hx25⟩; refine hK _ _ (hE.trans hx25) ?_; clear hK K; (try simp only [Act.put, List.setIfInBounds_toArray, List.set_cons_zero, List.set_cons_succ]))
          have hE2 := hE.trans hx25
          clear hx25
          (repeat (first | (refine walkR_still (v := ?_) rfl (by decide +kernel) rfl (fun _ _ _ h => h) hE2 ?_ ?_; rotate_left; (focus (intro w' hw'; skip; go_simp; all_goals (with_reducible rfl))); simp only [Act.put, List.setIfInBounds_toArray, List.set_cons_zero, List.set_cons_succ]) | (refine walkR_skip rfl (by decide +kernel) rfl (fun _ _ _ h => h) hE2 ?_; simp only [Act.put, List.setIfInBounds_toArray, List.set_cons_zero, List.set_cons_succ])))
          (refine walkR_tail (by rfl) (by kernel_rfl) ?_; simp only [List.drop_succ_cons, List.drop_zero])
          go_wp2
          obtain ⟨w3, hw3⟩ : ∃ w3, w3 = w25 := ⟨_, rfl⟩
          have HE3 : Hid (Ext w2 w3) := by rw [hw3]; exact hE2
          rw [← hw3]
          clear hw3
          have hE3 := HE3.out.trans (Ext.drew w3)
          (refine walkR_start (fun w' => Ext w2 w') 11 (by kernel_rfl) ?_; simp only [numbered, List.take_succ_cons, List.take_zero, Nat.zero_add, Nat.reduceAdd, List.length_cons, List.length_nil])
          (repeat (first | (refine walkR_still (v := ?_) rfl (by decide +kernel) rfl (fun _ _ _ h => h) hE3 ?_ ?_; rotate_left; (focus (intro w' hw'; obtain ⟨q1, q2⟩ := HS.out w' hw'; obtain ⟨y1, y2, y3, _⟩ := HOc2.out w' hw'; go_simp; all_goals (with_reducible rfl))); simp only [Act.put, List.setIfInBounds_toArray, List.set_cons_zero, List.set_cons_succ]) | (refine walkR_skip rfl (by decide +kernel) rfl (fun _ _ _ h => h) hE3 ?_; simp only [Act.put, List.setIfInBounds_toArray, List.set_cons_zero, List.set_cons_succ])))
          (refine walkR_tail (by rfl) (by kernel_rfl) ?_; simp only [List.drop_succ_cons, List.drop_zero])
          obtain ⟨y1, y2, y3, _⟩ := HOc2.out _ hE3
          have HO4 := hidP (HSt.out _ ((HO.out.below HA2.out).below hE3))
          have hgN := hidP (HNew.out g 0 rfl)
          have HX4 := hidP (show Ext w1 (w3.drew.setCell ⟨g, m * 2 + 1, none⟩ (.int .i64 (M + L))) from Below.setCell (p := ⟨g, m * 2 + 1, none⟩) (HX2.out.trans hE3) hgN.out _)
          go_wp2
          go_roundw
          case rel =>
            refine ⟨k + 1, some ⟨g, 0, none⟩, m + 1, co, hso, by omega, rfl, by go_num, ?_, HX4.out, HNew.out, fun i hi => by obtain ⟨j, hj, e⟩ := HMem.out i hi; exact ⟨j, by omega, e⟩⟩
            rw [HSu2.out]
            refine OwnK.weaken HO4.out (Nat.le_refl _) ?_
            have := (HA2.out.trans hE3).size
            simpa [World.setCell] using this
          case measure => simp [intOf]; omega
    · obtain rfl : np = k := by omega
      have HJ : Hid (joinTo [] ps np = joinS ps) := by
        show _ = _
        rw [joinS_to, ← GP.out.xl]
      rw [HJ.out] at HO
      have HPO := hidP (pathOk_of R ta tn tc ts ao m co (joinS ps) wr HO.out.termsAt (by
        have := HO.out.row.1
        rcases HO.out.form with ⟨_, h0, _⟩ | ⟨_, _, _, _, _, _, h1, h2⟩
        · omega
        · unfold maxLen at h2; omega) (fun w' hx => HHs.out w' ((HX1.out.trans HX.out).trans hx)))
      rw [HT.out, Bool.true_and] at HPO
      obtain ⟨f0, f1⟩ := HC.out wr HX.out
      rw [show ((R : Int)).toNat = R from rfl] at HPO
      cases hpb : pathB R (joinS ps)
      · rw [hpb] at HPO
        have HCk : Hid (chk R ps = (false, [])) := by
          show _ = _
          unfold chk
          rw [hpb]
          rfl
        clear hpb
        go_wp2_with fail
        refine HPO.out.mono ?_
        rintro e w2 ⟨rfl, hx⟩
        have HX2 := hidP ((HX1.out.trans HX.out).trans hx)
        clear hx f0 f1
        go_wp2
        refine bodyPost_ret (v := .tuple #[.slice none 0 0, .bool false]) (by simp [results, Tryz.results38, go_sem]) rfl ⟨none, 0, 0, [], by rw [HCk.out], ?_, HX2.out⟩
        rw [HCk.out]
        exact OwnK.nil stepK _ _ _
      · rw [hpb] at HPO
        have HCk : Hid (chk R ps = (true, joinS ps)) := by
          show _ = _
          unfold chk
          rw [hpb]
          rfl
        clear hpb
        go_wp2_with fail
        refine HPO.out.mono ?_
        rintro e w2 ⟨rfl, hx⟩
        have HX2 := hidP ((HX1.out.trans HX.out).trans hx)
        have HO2 := hidP ((HO.out.below hx).weaken (Nat.le_refl _) hx.size)
        clear hx f0 f1
        go_wp2
        refine bodyPost_ret (v := .tuple #[.slice ao m co, .bool true]) (by simp [results, Tryz.results38, go_sem]) rfl ⟨ao, m, co, hso, by rw [HCk.out], ?_, HX2.out⟩
        rw [HCk.out]
        exact HO2.out
end Go.Proofs.YtdhlapppahkjeaaGreatDoor

namespace Go.Proofs.YtdhlapppahkjeaaGreatDoor
open Go.RowKit

variable {α : Type}
/-- append of an owned slice's elements to another one -/
theorem wp_append_elems {o : Oper} {av : Act} {Kk : Act → World → Prop} {Q : Exit → Act → World → Prop} {w : World} (K : Knd α) (T : TypeId) (z : Value) (bytes : Nat) (s x : Operand)
    (ho : o.op = .call { callee := .builtin .append, args := #[s, x], argTypes := #[T, T] }) (hT : Tryz.prog.underlying T = some (.slice K.E)) (hinfo : (Tryz.prog.info? K.E).map (fun i => (i.zero, i.size, i.bytes)) = some (some z, K.size, bytes))
    (hz : z.cells.size = K.size) (hbp : bytes ≤ 1000)
    (B U U2 : Nat) (a : Option Addr) (n c : Nat) (hs hs2 : List Hdr) (xs xs2 : List α) (hsv : av.eval s = .slice a n c) (hown : OwnK K w B U a n c hs xs)
    (g m c2 : Nat) (hx : av.eval x = .slice (some ⟨g, 0, none⟩) m c2) (h2 : OwnK K w B U2 (some ⟨g, 0, none⟩) m c2 hs2 xs2)
    (hap : ∀ i j, i < n → j < m → Apart (hs.getD i (none, 0)).1 (hs2.getD j (none, 0)).1) (hsm : n + m ≤ 1000000000) (ha : a ≠ none) (hB : B ≤ w.heap.size)
    (h : ∀ a' c' w', OwnK K w' B w'.heap.size a' (n + m) c' (hs ++ hs2) (xs ++ xs2) → w.grownBy w' (Value.slice a n c).ownBlock → OrNew w.heap.size a a' → Kk (av.put o.dst (.slice a' (n + m) c')) w') : o.wp Tryz.prog av w Kk Q := by
  obtain ⟨i, hi, hz0, hz1, hz2⟩ := info_parts hinfo
  have hl2 := K.all_length hs2 xs2 (h2.hl.trans h2.xl.symm)
  rw [h2.xl] at hl2
  have hcells : ∀ j u, (K.all hs2 xs2)[j]? = some u → w.cell? ((⟨g, 0, none⟩ : Addr).add j) = some u := by
    intro j u hu
    have hj : j < m * K.size := by have := (List.getElem?_eq_some_iff.1 hu).1; rwa [hl2] at this
    rw [add_none, Nat.zero_add, h2.row.cellAt j hj]
    exact hu
  by_cases hroom : n + m ≤ c
  · rcases hown.form with ⟨e0, _⟩ | ⟨g0, cur, rfl, _⟩
    · exact absurd e0 ha
    · obtain ⟨w', hrun, hr, hg⟩ := run_append_fits (P := Tryz.prog) w B T o.type K.E i K.size hT hi hz1 g0 n c (K.all hs xs) hown.row ⟨g, 0, none⟩ m c2 (K.all hs2 xs2) hl2 hcells (K.all_one _ _) hroom
      obtain ⟨a', c', e, hk⟩ := hown.cat_of h2 hr hg hap ⟨_, _, rfl⟩
      simp only [Value.slice.injEq] at e
      obtain ⟨rfl, _, rfl⟩ := e
      unfold Oper.wp
      simp only [execOp, ho, resolve, invoke, builtin, Sem.run_bind, Sem.run_pure, Result.andThen_ok, List.map_toArray, List.map_cons, List.map_nil, hsv, hx, hrun]
      exact h _ _ w' hk hg (.inl rfl)
  · have hlx := K.all_length hs xs (hown.hl.trans hown.xl.symm)
    rw [hown.xl] at hlx
    obtain ⟨b0, rfl⟩ : ∃ b0, a = some b0 := by
      cases a with
      | none => exact absurd rfl ha
      | some b0 => exact ⟨b0, rfl⟩
    obtain ⟨v', w', hrun, hr, hg0⟩ := run_append_arg_grows (P := Tryz.prog) w T o.type K.E i z K.size bytes hT hi hz0 hz1 hz2 hz K.pos b0 n c (K.all hs xs) hlx (by
      intro j u hu
      rcases hown.form with ⟨e2, _⟩ | ⟨g0, cur, e2, _⟩
      · cases e2
      · simp only [Option.some.injEq] at e2
        subst e2
        have hj : j < n * K.size := by have := (List.getElem?_eq_some_iff.1 hu).1; rwa [hlx] at this
        rw [add_none, Nat.zero_add, hown.row.cellAt j hj]
        exact hu) ⟨g, 0, none⟩ m c2 (K.all hs2 xs2) hl2 hcells (by omega) (by unfold maxLen; omega)
      (by calc (n + m) * bytes ≤ 1000000000 * 1000 := Nat.mul_le_mul (by omega) hbp
            _ ≤ _ := by omega)
    · have hg : w.grownBy w' (Value.slice (some b0) n c).ownBlock := ⟨hg0.os, hg0.tape, hg0.output, hg0.size, fun k hk _ => hg0.block k hk (by simp)⟩
      have hr2 : w'.ownsRow B K.E K.size v' (n + m) (K.all hs xs ++ K.all hs2 xs2) := by
        refine ⟨hr.1, ?_⟩
        rcases hr.2 with h2 | ⟨g', cap, cur, he, hB', r⟩
        · exact .inl h2
        · exact .inr ⟨g', cap, cur, he, Nat.le_trans hB hB', r⟩
      obtain ⟨a', c', rfl, hk⟩ := hown.cat_of h2 hr2 hg hap (by
        rcases hr.2 with ⟨e5, h0⟩ | ⟨g', cap, cur, he, hB', _⟩
        · omega
        · exact ⟨_, _, he⟩)
      unfold Oper.wp
      simp only [execOp, ho, resolve, invoke, builtin, Sem.run_bind, Sem.run_pure, Result.andThen_ok, List.map_toArray, List.map_cons, List.map_nil, hsv, hx, hrun]
      refine h a' c' w' hk hg (.inr fun b o e => ?_)
      rcases hr.2 with ⟨_, h0⟩ | ⟨g', cap, cur, he, hB', _⟩
      · omega
      · simp only [Value.slice.injEq] at he
        rw [e] at he
        simp only [Option.some.injEq, Addr.mk.injEq, and_true] at he
        obtain ⟨⟨rfl, _⟩, _⟩ := he
        exact hB'
end Go.Proofs.YtdhlapppahkjeaaGreatDoor

namespace Go.Proofs.YtdhlapppahkjeaaGreatDoor
open Go.RowKit

/-- a slice of strings, read -/
structure StrsAt (w : World) (a : Option Addr) (n : Nat) (ss : List ByteArray) : Prop where
  len : ss.length = n
  get : ∀ i, i < n → ∃ b o, a = some ⟨b, o, none⟩ ∧ w.cell? ⟨b, o + i, none⟩ = some (.string (ss.getD i ByteArray.empty))
theorem StrsAt.below {w w' : World} {a : Option Addr} {n : Nat} {ss : List ByteArray} (h : StrsAt w a n ss) (hb : Ext w w') : StrsAt w' a n ss := by
  refine ⟨h.len, fun i hi => ?_⟩
  obtain ⟨b, o, rfl, hc⟩ := h.get i hi
  exact ⟨b, o, rfl, (hb.cell (p := ⟨b, o + i, none⟩) (World.block_lt_of_cell? w _ hc)).trans hc⟩
theorem StrsAt.nil (w : World) (a : Option Addr) : StrsAt w a 0 [] := ⟨rfl, fun i h => by omega⟩
theorem strs_alloc (w : World) (ss : List ByteArray) (E : TypeId) : StrsAt (w.alloc (.cells (svs ss).toArray E)) (some ⟨w.heap.size, 0, none⟩) ss.length ss := by
  refine ⟨rfl, fun i hi => ⟨w.heap.size, 0, rfl, ?_⟩⟩
  rw [cell_top _ _ _ _ _ rfl, Nat.zero_add, List.getElem?_toArray]
  simp [svs, hi]
theorem OwnS.strs {w : World} {B : Nat} {a : Option Addr} {n c : Nat} {xs : List ByteArray} (h : OwnS w B a n c xs) : StrsAt w a n xs := by
  refine ⟨h.len, fun i hi => ?_⟩
  obtain ⟨g, rfl, _, _, _, _, hc⟩ := h.form
  have hl := h.len
  exact ⟨g, 0, rfl, hc i _ (by simp [show i < xs.length by omega])⟩

def nameS : List ByteArray := pNames.map str
theorem partNames_any (w : World) : Calls Tryz.prog 109 #[] w fun e w' => ∃ b, e = .returned (.slice (some ⟨b, 0, none⟩) 12 12) ∧ StrsAt w' (some ⟨b, 0, none⟩) 12 nameS ∧ Ext w w' := by
  go_enter Tryz.func109, Tryz.ntmps109
  go_wp2
  go_ret
  exact ⟨_, rfl, strs_alloc w nameS 9, Ext.alloc _ _⟩
theorem l5Names_any (w : World) : Calls Tryz.prog 93 #[] w fun e w' => ∃ b, e = .returned (.slice (some ⟨b, 0, none⟩) 12 12) ∧ StrsAt w' (some ⟨b, 0, none⟩) 12 nameS ∧ Ext w w' := by
  go_enter Tryz.func93, Tryz.ntmps93
  go_wp2
  go_ret
  exact ⟨_, rfl, strs_alloc w nameS 9, Ext.alloc _ _⟩

theorem UpdI.far {w w' : World} {g o n : Nat} {ys : List Int} (h : UpdI w w' (some ⟨g, o, none⟩) n ys) {b i : Nat} {v : Value} (hc : w.cell? ⟨b, i, none⟩ = some v) (hne : b ≠ g) : w'.cell? ⟨b, i, none⟩ = some v :=
  (World.cell?_of_block (a := ⟨b, i, none⟩) (h.other b (World.block_lt_of_cell? w _ hc) fun b' o' e _ => by cases e; exact hne)).trans hc
theorem UpdI.farF {w w' : World} {g o n : Nat} {ys : List Int} (h : UpdI w w' (some ⟨g, o, none⟩) n ys) {b i : Nat} (hb : b < w.heap.size) (hne : b ≠ g) : w'.frozen? ⟨b, i, none⟩ = w.frozen? ⟨b, i, none⟩ := by
  have := h.other b hb fun b' o' e _ => by cases e; exact hne
  simp only [World.frozen?, this]
theorem OwnI.setFar {w : World} {B g n c : Nat} {xs : List Int} (h : OwnI w B (some ⟨g, 0, none⟩) n c xs) (b i : Nat) (v : Value) (hne : g ≠ b) : OwnI (w.setCell ⟨b, i, none⟩ v) B (some ⟨g, 0, none⟩) n c xs :=
  h.grown (row := some b) ⟨rfl, rfl, rfl, by simp [World.setCell], fun k _ hk => Below.heap_setCell _ _ _ _ (fun e => hk (by rw [e]))⟩ (fun g' o e => by cases e; simpa using hne)
/-- places in a matrix of rank at most 4 -/
theorem idx4 {r i j : Int} (hr : r ≤ 4) (hi0 : 0 ≤ i) (hi : i < r) (_hj0 : 0 ≤ j) (hj : j < r) : 0 ≤ i * r ∧ i * r ≤ 12 ∧ i * r + j < r * r ∧ r * r ≤ 16 := by
  have h1 : (i + 1) * r ≤ r * r := Int.mul_le_mul_of_nonneg_right (by omega) (by omega)
  have h2 : 0 ≤ i * r := Int.mul_nonneg hi0 (by omega)
  have h3 : r * r ≤ 4 * 4 := Int.mul_le_mul hr hr (by omega) (by omega)
  have h4 : i * r ≤ 3 * 4 := Int.mul_le_mul (by omega) hr (by omega) (by omega)
  rw [Int.add_mul, Int.one_mul] at h1
  omega

theorem cartAt_any (r : Int) (a : Option Addr) (n c : Nat) (xs : List Int) (i j : Nat) (w : World) (h : IntsAt w a n xs) (hn : (n : Int) = r * r) (hr : r ≤ 4) (hi : (i : Int) < r) (hj : (j : Int) < r) :
    Calls Tryz.prog 121 #[carV r a n c, .int .i64 i, .int .i64 j] w fun e w' => e = .returned (.int .i64 (atM xs r.toNat i j)) ∧ Ext w w' := by
  obtain ⟨R, rfl⟩ : ∃ R : Nat, r = R := ⟨r.toNat, by omega⟩
  obtain ⟨h0, h1, h2, h3⟩ := idx4 hr (Int.natCast_nonneg i) hi (Int.natCast_nonneg j) hj
  rw [← hn] at h2 h3
  have hx : i * R + j < n := by
    have : ((i * R + j : Nat) : Int) < n := by rw [Int.natCast_add, Int.natCast_mul]; exact h2
    omega
  obtain ⟨b, o, rfl, hc⟩ := (h.below (Ext.alloc w (.cells #[.int .i64 R, .slice a n c] 29))).get _ hx
  have HA : Hid (xs.getD (i * R + j) 0 = atM xs (R : Int).toNat i j) := rfl
  rw [HA.out] at hc
  have hp : 0 ≤ (i : Int) * R + j := by omega
  have hCA := CarAt.new w _ rfl R (some ⟨b, o, none⟩) n c 29
  obtain ⟨f0, f1⟩ := hCA
  clear h hn
  go_enter Tryz.func121, Tryz.ntmps121
  go_wp2
  go_ret
  exact ⟨rfl, Ext.alloc _ _⟩
theorem l5At_any (r : Int) (a : Option Addr) (n c : Nat) (xs : List Int) (i j : Nat) (w : World) (h : IntsAt w a n xs) (hn : (n : Int) = r * r) (hr : r ≤ 4) (hi : (i : Int) < r) (hj : (j : Int) < r) :
    Calls Tryz.prog 114 #[carV r a n c, .int .i64 i, .int .i64 j] w fun e w' => e = .returned (.int .i64 (atM xs r.toNat i j)) ∧ Ext w w' := by
  obtain ⟨R, rfl⟩ : ∃ R : Nat, r = R := ⟨r.toNat, by omega⟩
  obtain ⟨h0, h1, h2, h3⟩ := idx4 hr (Int.natCast_nonneg i) hi (Int.natCast_nonneg j) hj
  rw [← hn] at h2 h3
  have hx : i * R + j < n := by
    have : ((i * R + j : Nat) : Int) < n := by rw [Int.natCast_add, Int.natCast_mul]; exact h2
    omega
  obtain ⟨b, o, rfl, hc⟩ := (h.below (Ext.alloc w (.cells #[.int .i64 R, .slice a n c] 29))).get _ hx
  have HA : Hid (xs.getD (i * R + j) 0 = atM xs (R : Int).toNat i j) := rfl
  rw [HA.out] at hc
  have hp : 0 ≤ (i : Int) * R + j := by omega
  have hCA := CarAt.new w _ rfl R (some ⟨b, o, none⟩) n c 29
  obtain ⟨f0, f1⟩ := hCA
  clear h hn
  go_enter Tryz.func114, Tryz.ntmps114
  go_wp2
  go_ret
  exact ⟨rfl, Ext.alloc _ _⟩

theorem callFunc_put (args : Array Value) (w : World) : Sem.run Tryz.prog (callFunc 136 args) w = .ok (.enter 136 args) w := by
  kernel_rfl
theorem callFunc_both (args : Array Value) (w : World) : Sem.run Tryz.prog (callFunc 137 args) w = .ok (.enter 137 args) w := by
  kernel_rfl
/-- one entry is written -/
theorem put_any (i j v n : Int) (bc bn g m c : Nat) (v0 : Value) (w : World) (h1 : w.cell? ⟨bc, 1, none⟩ = some (.slice (some ⟨g, 0, none⟩) m c)) (h2 : w.cell? ⟨bn, 0, none⟩ = some (.int .i64 n))
    (hi : 1 ≤ i) (hi2 : i ≤ n) (hj : 1 ≤ j) (hj2 : j ≤ n) (hn : n ≤ 4) (hm : (m : Int) = n * n) (hc : w.cell? ⟨g, ((i - 1) * n + j).toNat - 1, none⟩ = some v0) (hf : w.frozen? ⟨g, ((i - 1) * n + j).toNat - 1, none⟩ = false) :
    Calls Tryz.prog 136 #[.int .i64 i, .int .i64 j, .int .i64 v, .pointer (some ⟨bc, 0, none⟩), .pointer (some ⟨bn, 0, none⟩)] w fun e w' => e = .returned (.tuple #[]) ∧ w' = w.setCell ⟨g, ((i - 1) * n + j).toNat - 1, none⟩ (.int .i64 v) := by
  obtain ⟨k0, k1, k2, k3⟩ := idx4 (r := n) (i := i - 1) (j := j - 1) hn (by omega) (by omega) (by omega) (by omega)
  rw [← hm] at k2 k3
  have hp : 0 ≤ (i - 1) * n + j - 1 := by omega
  have hl : (i - 1) * n + j - 1 < m := by omega
  clear hm
  go_enter Tryz.func136, Tryz.ntmps136
  go_wp2
  go_end0
  exact ⟨rfl, rfl⟩
/-- a place in a matrix of rank n, as a number -/
theorem place4 {i j n : Int} {m : Nat} (hn : n ≤ 4) (hm : (m : Int) = n * n) (hi : 1 ≤ i) (hi2 : i ≤ n) (hj : 1 ≤ j) (hj2 : j ≤ n) : ((i - 1) * n + j).toNat - 1 < m := by
  obtain ⟨k0, k1, k2, k3⟩ := idx4 (r := n) (i := i - 1) (j := j - 1) hn (by omega) (by omega) (by omega) (by omega)
  omega
theorem put_upd (i j v n : Int) (bc bn g m c : Nat) (xs : List Int) (w0 w : World) (h1 : w.cell? ⟨bc, 1, none⟩ = some (.slice (some ⟨g, 0, none⟩) m c)) (h2 : w.cell? ⟨bn, 0, none⟩ = some (.int .i64 n))
    (hi : 1 ≤ i) (hi2 : i ≤ n) (hj : 1 ≤ j) (hj2 : j ≤ n) (hn : n ≤ 4) (hm : (m : Int) = n * n) (hx : UpdI w0 w (some ⟨g, 0, none⟩) m xs) (hf : ∀ t, t < m → w0.frozen? ⟨g, t, none⟩ = false) :
    Calls Tryz.prog 136 #[.int .i64 i, .int .i64 j, .int .i64 v, .pointer (some ⟨bc, 0, none⟩), .pointer (some ⟨bn, 0, none⟩)] w fun e w' => e = .returned (.tuple #[]) ∧ UpdI w0 w' (some ⟨g, 0, none⟩) m (xs.set (((i - 1) * n + j).toNat - 1) v) := by
  have hl := place4 hn hm hi hi2 hj hj2
  obtain ⟨q, hz⟩ := hx.cellInt _ hl
  rw [Nat.zero_add] at q hz
  refine (put_any i j v n bc bn g m c _ w h1 h2 hi hi2 hj hj2 hn hm q (hz.trans (hf _ hl))).mono ?_
  rintro e w' ⟨rfl, rfl⟩
  refine ⟨rfl, ?_⟩
  have := hx.store _ hl v
  rwa [Nat.zero_add] at this
/-- what the closures hold -/
structure PutAt (w : World) (bp bc bn g m c : Nat) (n : Int) : Prop where
  hp : w.cell? ⟨bp, 0, none⟩ = some (.func (.func 136) #[] #[.pointer (some ⟨bc, 0, none⟩), .pointer (some ⟨bn, 0, none⟩)])
  h1 : w.cell? ⟨bc, 1, none⟩ = some (.slice (some ⟨g, 0, none⟩) m c)
  h2 : w.cell? ⟨bn, 0, none⟩ = some (.int .i64 n)
  np : bp ≠ g
  nc : bc ≠ g
  nn : bn ≠ g
theorem PutAt.upd {w w' : World} {bp bc bn g m c : Nat} {n : Int} (h : PutAt w bp bc bn g m c n) {ys : List Int} (hu : UpdI w w' (some ⟨g, 0, none⟩) m ys) : PutAt w' bp bc bn g m c n :=
  ⟨hu.far h.hp h.np, hu.far h.h1 h.nc, hu.far h.h2 h.nn, h.np, h.nc, h.nn⟩
theorem both_upd (i j n : Int) (bp bc bn g m c : Nat) (xs : List Int) (w0 w : World) (hP : PutAt w0 bp bc bn g m c n)
    (hi : 1 ≤ i) (hi2 : i ≤ n) (hj : 1 ≤ j) (hj2 : j ≤ n) (hn : n ≤ 4) (hm : (m : Int) = n * n) (hx : UpdI w0 w (some ⟨g, 0, none⟩) m xs) (hf : ∀ t, t < m → w0.frozen? ⟨g, t, none⟩ = false) :
    Calls Tryz.prog 137 #[.int .i64 i, .int .i64 j, .pointer (some ⟨bp, 0, none⟩)] w fun e w' => e = .returned (.tuple #[]) ∧ UpdI w0 w' (some ⟨g, 0, none⟩) m ((xs.set (((i - 1) * n + j).toNat - 1) (-1)).set (((j - 1) * n + i).toNat - 1) (-1)) := by
  obtain ⟨f0, f1, f2, _, _, _⟩ := hP.upd hx
  have h1 := hidP (put_upd i j (-1) n bc bn g m c xs w0 w f1 f2 hi hi2 hj hj2 hn hm hx hf)
  have h2 := hidP (fun w1 (hx1 : UpdI w0 w1 (some ⟨g, 0, none⟩) m (xs.set (((i - 1) * n + j).toNat - 1) (-1))) => put_upd j i (-1) n bc bn g m c _ w0 w1 (hP.upd hx1).h1 (hP.upd hx1).h2 hj hj2 hi hi2 hn hm hx1 hf)
  have H := hidP hP
  have kp := callFunc_put
  clear hP hx hf hm f1 f2
  go_enter Tryz.func137, Tryz.ntmps137
  go_wp2_with fail
  refine h1.out.mono ?_
  rintro e w1 ⟨rfl, hx1⟩
  obtain ⟨g0, _, _, _, _, _⟩ := H.out.upd hx1
  have h3 := hidP (h2.out w1 hx1)
  clear hx1 f0
  go_wp2_with fail
  refine h3.out.mono ?_
  rintro e w2 ⟨rfl, hx2⟩
  go_wp2
  go_end0
  exact ⟨rfl, hx2⟩
end Go.Proofs.YtdhlapppahkjeaaGreatDoor

namespace Go.Proofs.YtdhlapppahkjeaaGreatDoor
open Go.RowKit

theorem containsS_any (a : Option Addr) (n c : Nat) (ss : List ByteArray) (x : ByteArray) (w : World) (h : StrsAt w a n ss) (hn : n ≤ 1000000000000) :
    Calls Tryz.prog 135 #[.slice a n c, .string x] w fun e w' => e = .returned (.bool (Lib.containsS ss x)) ∧ w = w' := by
  have hl := h.len
  rcases Nat.eq_zero_or_pos n with rfl | h0
  · have : ss = [] := List.eq_nil_of_length_eq_zero hl
    subst this
    exact (Tryz.slices_Contains_string_empty a c x w).mono fun e w' ⟨he, hw⟩ => ⟨he, hw.symm⟩
  · obtain ⟨b, o, rfl, _⟩ := h.get 0 h0
    refine (Tryz.slices_Contains_string b o n c ss x w (by omega) (by omega) fun j hj => ?_).mono fun e w' ⟨he, hw⟩ => ⟨?_, hw.symm⟩
    · obtain ⟨b', o', e, hc⟩ := h.get j (by omega)
      simp only [Option.some.injEq, Addr.mk.injEq, and_true] at e
      obtain ⟨rfl, rfl⟩ := e
      exact hc
    · rw [he, List.take_of_length_le (by omega)]

def chainM (n : Nat) (d4 : Bool) : Nat → List Int
  | 0 => List.replicate (n * n) 0
  | i + 1 => if decide (i + 1 < n) && !d4 then (((chainM n d4 i).set (i * n + i) 2).set (i * n + (i + 1)) (-1)).set ((i + 1) * n + i) (-1) else (chainM n d4 i).set (i * n + i) 2
def letterN (k : Nat) : Nat := if k < 4 then 65 else if k < 7 then 66 else if k < 9 then 67 else if k = 9 then 68 else if k = 10 then 70 else 71
theorem place_nat (a b n : Nat) : (((a : Int) + 1 - 1) * (n : Int) + ((b : Int) + 1)).toNat - 1 = a * n + b := by
  have : ((a : Int) + 1 - 1) * (n : Int) + ((b : Int) + 1) = ((a * n + b + 1 : Nat) : Int) := by
    rw [Int.add_sub_cancel, Int.natCast_add, Int.natCast_add, Int.natCast_mul]
    omega
  rw [this]
  omega
set_option maxRecDepth 100000 in
set_option maxHeartbeats 4000000 in
theorem partCartan_any (k : Nat) (hk : k < 12) (s : ByteArray) (hs : s = nameS.getD k ByteArray.empty) (w : World) :
    Calls Tryz.prog 111 #[.string s] w fun e w' => ∃ a, e = .returned (.tuple #[carV (pRank k) a (pRank k * pRank k) (pRank k * pRank k), .bool true]) ∧ OwnI w' w.heap.size a (pRank k * pRank k) (pRank k * pRank k) (pMat k) ∧ Ext w w' := by
  have hc : Lib.containsS nameS s = true := by
    subst hs
    have : ∀ k, k < 12 → Lib.containsS nameS (nameS.getD k ByteArray.empty) = true := by decide +kernel
    exact this k hk
  have h2 : s.size = 2 := by
    subst hs
    have : ∀ k, k < 12 → (nameS.getD k ByteArray.empty).size = 2 := by decide +kernel
    exact this k hk
  have h2' : 1 < s.size := by omega
  obtain ⟨hn1, hn4⟩ := pRank_pos k hk
  have hb : ((s[1].toNat : Int) - 48) % 256 = (pRank k : Int) := by
    have key : ∀ k, k < 12 → ((((nameS.getD k ByteArray.empty).data[1]?.getD 0).toNat : Int) - 48) % 256 = (pRank k : Int) := by decide +kernel
    have := key k hk
    rw [← hs] at this
    rw [← this]
    congr 2
    have h3 : 1 < s.data.size := h2'
    rw [Array.getElem?_eq_getElem h3]
    rfl
  have hD : (s.toList == [68, 52]) = (k == 9) := by
    have key : ∀ k, k < 12 → ((nameS.getD k ByteArray.empty).toList == [68, 52]) = (k == 9) := by decide +kernel
    rw [hs]
    exact key k hk
  have HD := hidP hD
  have HL0 : Hid (∀ c, letterN k = c → s[0].toNat = c) := by
    rintro c rfl
    have key : ∀ k, k < 12 → ((nameS.getD k ByteArray.empty).data[0]?.getD 0).toNat = letterN k := by decide +kernel
    have := key k hk
    rw [← hs] at this
    rw [← this]
    have h3 : 0 < s.data.size := by have : s.data.size = 2 := h2; omega
    rw [Array.getElem?_eq_getElem h3]
    rfl
  clear hD
  obtain ⟨d4, hd4⟩ : ∃ d, d = (k == 9) := ⟨_, rfl⟩
  rw [← hd4] at HD
  generalize hnk : pRank k = n at *
  have HK := hidP hnk
  have HK4 := hidP hd4
  clear hnk hd4
  have HC := hidP hc
  have HN := hidP (fun w' => partNames_any w')
  clear hc hs
  go_enter Tryz.func111, Tryz.ntmps111
  go_wp2_with fail
  refine (HN.out _).mono ?_
  rintro e w1 ⟨bn, rfl, hs1, hx1⟩
  have HX1 := hidP ((Ext.alloc w (.cells #[.int .i64 0, .slice none 0 0] 29)).trans hx1)
  have HX1a := hidP hx1
  have HB2 : Hid (w.heap.size < w1.heap.size) := by show _ < _; have := hx1.size; simp at this; omega
  have H1 := hidP (containsS_any _ 12 12 nameS s w1 hs1 (by omega))
  rw [HC.out] at H1
  clear hs1 hx1
  go_wp2_with fail
  refine H1.out.mono ?_
  rintro e w' ⟨rfl, rfl⟩
  go_wp2
  have hx4 := Ext.alloc w1 (.cells #[.int .i64 n] 3)
  have hq4 : (w1.alloc (.cells #[.int .i64 n] 3)).cell? ⟨w1.heap.size, 0, none⟩ = some (.int .i64 n) := (cell_top _ _ _ _ _ rfl).trans rfl
  obtain ⟨b4, hb4⟩ : ∃ b, b = w1.heap.size := ⟨_, rfl⟩
  obtain ⟨w4, hw4⟩ : ∃ w, w = w1.alloc (.cells #[.int .i64 n] 3) := ⟨_, rfl⟩
  rw [← hb4] at hq4 ⊢
  rw [← hw4] at hx4 hq4 ⊢
  have hnn : (n : Int) * n ≤ 16 := by
    have := Nat.mul_le_mul hn4 hn4
    have h : ((n * n : Nat) : Int) ≤ ((4 * 4 : Nat) : Int) := by exact_mod_cast this
    rw [Int.natCast_mul] at h
    exact h
  have hnn0 : 0 ≤ (n : Int) * n := Int.mul_nonneg (by omega) (by omega)
  have hmk := make_ints ((n : Int) * n) hnn0 (by omega)
  have hwr : IntKind.i64.wrap ((n : Int) * n) = (n : Int) * n := wrap_in (by omega) (by omega)
  have hmn : ((n : Int) * n).toNat = n * n := by rw [← Int.natCast_mul]; rfl
  rw [hmn] at hmk
  clear hmn hw4 hb4 hb
  go_region_held3 (fun w' => w'.cell? ⟨b4, 0, none⟩ = some (.int .i64 n)) (go_keep) (fail)
  all_goals first
    | (
        have hz := OwnI.made w4 w.heap.size (n * n) (by have := HX1.out.size; have := hx4.size; omega) (by unfold maxLen; omega)
        have hxa := Ext.alloc w4 (.cells (Array.replicate (n * n) (.int .i64 0)) 3)
        have hxb := Ext.alloc (w4.alloc (.cells (Array.replicate (n * n) (.int .i64 0)) 3)) (.cells #[.int .i64 n, .slice (some ⟨w4.heap.size, 0, none⟩) (n * n) (n * n)] 29)
        have hcar := CarAt.new (w4.alloc (.cells (Array.replicate (n * n) (.int .i64 0)) 3)) (w4.heap.size + 1) (by simp) n (some ⟨w4.heap.size, 0, none⟩) (n * n) (n * n) 29
        obtain ⟨w5, hw5⟩ : ∃ w5, w5 = ((w4.alloc (Obj.cells (Array.replicate (n * n) (Value.int IntKind.i64 0)) 3)).alloc (Obj.cells #[Value.int IntKind.i64 ↑n, Value.slice (some ⟨w4.heap.size, 0, none⟩) (n * n) (n * n)] 29)).drew := ⟨_, rfl⟩
        have hx5 : Ext w4 w5 := by rw [hw5]; exact (hxa.trans hxb).trans (Ext.drew _)
        have ho5 : OwnI w5 w.heap.size (some ⟨w4.heap.size, 0, none⟩) (n * n) (n * n) (List.replicate (n * n) 0) := by rw [hw5]; exact (hz.below hxb).below (Ext.drew _)
        have hc5 : CarAt w5 (w4.heap.size + 1) n (some ⟨w4.heap.size, 0, none⟩) (n * n) (n * n) := by rw [hw5]; exact hcar.below (Ext.drew _)
        rw [← hw5]
        clear hw5 hz hxa hxb hcar
        obtain ⟨g, hg⟩ : ∃ g, g = w4.heap.size := ⟨_, rfl⟩
        obtain ⟨b5, hb5⟩ : ∃ b, b = w4.heap.size + 1 := ⟨_, rfl⟩
        have hne : b5 ≠ g := by omega
        have hg4 : w4.heap.size ≤ g := by omega
        rw [← hb5] at hc5 ⊢
        rw [← hg] at ho5 hc5 ⊢
        clear hg hb5)
    | (
        have hxa := Ext.alloc w4 (.cells #[.int .i64 n, .slice (some ⟨w4.heap.size + 1, 0, none⟩) (n * n) (n * n)] 29)
        have hz := OwnI.made (w4.alloc (.cells #[.int .i64 n, .slice (some ⟨w4.heap.size + 1, 0, none⟩) (n * n) (n * n)] 29)) w.heap.size (n * n) (by have := HX1.out.size; have := hx4.size; have := hxa.size; omega) (by unfold maxLen; omega)
        have hxb := Ext.alloc (w4.alloc (.cells #[.int .i64 n, .slice (some ⟨w4.heap.size + 1, 0, none⟩) (n * n) (n * n)] 29)) (.cells (Array.replicate (n * n) (.int .i64 0)) 3)
        have hcar := (CarAt.new w4 w4.heap.size rfl n (some ⟨w4.heap.size + 1, 0, none⟩) (n * n) (n * n) 29).below hxb
        rw [show (w4.alloc (.cells #[.int .i64 n, .slice (some ⟨w4.heap.size + 1, 0, none⟩) (n * n) (n * n)] 29)).heap.size = w4.heap.size + 1 by simp] at hz
        obtain ⟨w5, hw5⟩ : ∃ w5, w5 = ((w4.alloc (Obj.cells #[Value.int IntKind.i64 ↑n, Value.slice (some ⟨w4.heap.size + 1, 0, none⟩) (n * n) (n * n)] 29)).alloc (Obj.cells (Array.replicate (n * n) (Value.int IntKind.i64 0)) 3)).drew := ⟨_, rfl⟩
        have hx5 : Ext w4 w5 := by rw [hw5]; exact (hxa.trans hxb).trans (Ext.drew _)
        have ho5 : OwnI w5 w.heap.size (some ⟨w4.heap.size + 1, 0, none⟩) (n * n) (n * n) (List.replicate (n * n) 0) := by rw [hw5]; exact hz.below (Ext.drew _)
        have hc5 : CarAt w5 w4.heap.size n (some ⟨w4.heap.size + 1, 0, none⟩) (n * n) (n * n) := by rw [hw5]; exact hcar.below (Ext.drew _)
        rw [← hw5]
        clear hw5 hz hxa hxb hcar
        obtain ⟨g, hg⟩ : ∃ g, g = w4.heap.size + 1 := ⟨_, rfl⟩
        obtain ⟨b5, hb5⟩ : ∃ b, b = w4.heap.size := ⟨_, rfl⟩
        have hne : b5 ≠ g := by omega
        have hg4 : w4.heap.size ≤ g := by omega
        rw [← hg] at ho5 hc5 ⊢
        rw [← hb5] at hc5 ⊢
        clear hg hb5)
  all_goals
    have H5 := hidP ho5
    have HC5 := hidP hc5
    have HX5 := hidP ((HX1.out.trans hx4).trans hx5)
    have HX45 := hidP hx5
    have HX16 := hidP hx4
    have HG := hidP hne
    have HG4 := hidP hg4
    have hcp := callFunc_put
    have hcb := callFunc_both
    clear ho5 hc5 hx5 hx4 hne hg4 hwr hmk HC HN
    go_wp2
    have hx6 := Ext.alloc w5 (.cells #[.func (.func 136) #[] #[.pointer (some ⟨b5, 0, none⟩), .pointer (some ⟨b4, 0, none⟩)]] 151)
    have hq6 : (w5.alloc (.cells #[.func (.func 136) #[] #[.pointer (some ⟨b5, 0, none⟩), .pointer (some ⟨b4, 0, none⟩)]] 151)).cell? ⟨w5.heap.size, 0, none⟩ = some (.func (.func 136) #[] #[.pointer (some ⟨b5, 0, none⟩), .pointer (some ⟨b4, 0, none⟩)]) := (cell_top _ _ _ _ _ rfl).trans rfl
    obtain ⟨b6, hb6⟩ : ∃ b, b = w5.heap.size := ⟨_, rfl⟩
    obtain ⟨w6, hw6⟩ : ∃ w, w = w5.alloc (.cells #[.func (.func 136) #[] #[.pointer (some ⟨b5, 0, none⟩), .pointer (some ⟨b4, 0, none⟩)]] 151) := ⟨_, rfl⟩
    rw [← hb6] at hq6 ⊢
    rw [← hw6] at hx6 hq6 ⊢
    have hb4 : b4 < w4.heap.size := World.block_lt_of_cell? w4 _ hq4
    have hg5 : g < w5.heap.size := (H5.out.at_base g 0 rfl).2
    have n1 : b6 ≠ g := by omega
    have n3 : b4 ≠ g := by have := HG4.out; omega
    have h46 : b4 < w6.heap.size := Nat.lt_of_lt_of_le hb4 (Nat.le_trans (show w4.heap.size ≤ w5.heap.size from HX45.out.size) hx6.size)
    have HGW : Hid (g ≠ w.heap.size) := by show _ ≠ _; have := HG4.out; have := HB2.out; have := HX16.out.size; omega
    have HGB : Hid (w.heap.size ≤ g) := by show _ ≤ _; have := HG4.out; have := HB2.out; have := HX16.out.size; omega
    have HP6 : Hid (PutAt w6 b6 b5 b4 g (n * n) (n * n) n) :=
      ⟨hq6, (HC5.out.below hx6).c1, (hx6.cell (p := ⟨b4, 0, none⟩) (Nat.lt_of_lt_of_le hb4 HX45.out.size)).trans ((HX45.out.cell (p := ⟨b4, 0, none⟩) hb4).trans hq4), n1, HG.out, n3⟩
    clear n1 n3 hb4 hg5
    have H6 := hidP (H5.out.below hx6)
    have HX6 := hidP (HX5.out.trans hx6)
    have HF6 : Hid (∀ t, t < n * n → w6.frozen? ⟨g, t, none⟩ = false) := fun t ht => by
      have := H6.out.unfrozen t g 0 ht rfl
      rwa [Nat.zero_add] at this
    have HC6 := hidP (HC5.out.below hx6)
    have HR6 : Hid (∀ v fin, UpdI w6 v (some ⟨g, 0, none⟩) (n * n) fin → v.cell? ⟨w.heap.size, 0, none⟩ = some (.int .i64 0) ∧ v.cell? ⟨w.heap.size, 1, none⟩ = some (.slice none 0 0) ∧ v.frozen? ⟨w.heap.size, 0, none⟩ = false ∧ v.frozen? ⟨w.heap.size, 1, none⟩ = false ∧ w.heap.size < v.heap.size) := fun v fin hu => by
      have hx := (HX1a.out.trans (HX16.out.trans HX45.out)).trans hx6
      obtain ⟨a0, a1⟩ := new_cell (w := w) (b := w.heap.size) rfl hx 0
      obtain ⟨b0, b1⟩ := new_cell (w := w) (b := w.heap.size) rfl hx 1
      have hlt : w.heap.size < w6.heap.size := by have := hx.size; simp at this; omega
      exact ⟨hu.far a0 (Ne.symm HGW.out), hu.far b0 (Ne.symm HGW.out), (hu.farF hlt (Ne.symm HGW.out)).trans a1, (hu.farF hlt (Ne.symm HGW.out)).trans b1, Nat.lt_of_lt_of_le hlt hu.size⟩
    have HU0 := hidP (UpdI.start H6.out.ints)
    have hb26 : w.heap.size < w6.heap.size := by have := HX45.out.size; have := hx6.size; have := HB2.out; have := HX16.out.size; omega
    have hm : ((n * n : Nat) : Int) = (n : Int) * n := Int.natCast_mul n n
    have HMM := hidP hm
    clear hm
    clear hq6 hx6 H5 HC5 HX5 HX45 hw6 hb6 hq4
    go_loopw [8] (fun i wr => ∃ q : Nat, q ≤ n ∧ i = .int .i64 ((q : Int) + 1) ∧ Hid (UpdI w6 wr (some ⟨g, 0, none⟩) (n * n) (chainM n d4 q))) (fun i _ => n + 1 - (intOf i).toNat)
    case atStart => exact ⟨0, Nat.zero_le _, rfl, HU0⟩
    case round =>
      obtain ⟨q, hq, rfl, HU⟩ := hrel
      by_cases hlt : q < n
      · have HPU := hidP (put_upd ((q : Int) + 1) ((q : Int) + 1) 2 n b5 b4 g (n * n) (n * n) _ w6 wr (HP6.out.upd HU.out).h1 (HP6.out.upd HU.out).h2 (by omega) (by omega) (by omega) (by omega) (by omega) HMM.out HU.out HF6.out)
        rw [place_nat] at HPU
        obtain ⟨f0, f1, f2, _, _, _⟩ := HP6.out.upd HU.out
        go_wp2_with fail
        refine HPU.out.mono ?_
        rintro e w7 ⟨rfl, hu7⟩
        have HU7 := hidP hu7
        clear hu7 f0 f1 f2 HPU
        obtain ⟨f0, f1, f2, _, _, _⟩ := HP6.out.upd HU7.out
        by_cases hq1 : q + 1 < n
        · have hq1' : (q : Int) + 1 < n := by omega
          cases d4
          · have hd := HD.out
            have HE : Hid (chainM n false (q + 1) = (((chainM n false q).set (q * n + q) 2).set (q * n + (q + 1)) (-1)).set ((q + 1) * n + q) (-1)) := by
              show _ = _
              rw [chainM, if_pos (by simp [hq1])]
            have HBU := hidP (both_upd ((q : Int) + 1) ((q : Int) + 1 + 1) n b6 b5 b4 g (n * n) (n * n) _ w6 w7 HP6.out (by omega) (by omega) (by omega) (by omega) (by omega) HMM.out HU7.out HF6.out)
            rw [show (q : Int) + 1 + 1 = ((q + 1 : Nat) : Int) + 1 by omega, place_nat, place_nat, ← HE.out] at HBU
            simp only [Int.natCast_add, Int.cast_ofNat_Int] at HBU
            go_wp2_with fail
            refine HBU.out.mono ?_
            rintro e w8 ⟨rfl, hu8⟩
            have HU8 := hidP hu8
            clear hu8 f0 f1 f2 HBU
            go_wp2
            go_roundw
            case rel => exact ⟨q + 1, by omega, by go_num, HU8⟩
            case measure => simp [intOf]; omega
          · have hd := HD.out
            have HE : Hid (chainM n true (q + 1) = (chainM n true q).set (q * n + q) 2) := by
              show _ = _
              rw [chainM, if_neg (by simp)]
            rw [← HE.out] at HU7
            go_wp2
            go_roundw
            case rel => exact ⟨q + 1, by omega, by go_num, HU7⟩
            case measure => simp [intOf]; omega
        · have hq1' : ¬ (q : Int) + 1 < n := by omega
          have HE : Hid (chainM n d4 (q + 1) = (chainM n d4 q).set (q * n + q) 2) := by
            show _ = _
            rw [chainM, if_neg (by simp [hq1])]
          rw [← HE.out] at HU7
          go_wp2
          go_roundw
          case rel => exact ⟨q + 1, by omega, by go_num, HU7⟩
          case measure => simp [intOf]; omega
      · obtain rfl : q = n := by omega
        have HKQ := HK
        have hcase : k < 4 ∨ (4 ≤ k ∧ k < 7) ∨ (7 ≤ k ∧ k < 9) ∨ k = 9 ∨ k = 10 ∨ k = 11 := by omega
        rcases hcase with hkc | hkc | hkc | hkc | hkc | hkc
        · have h0 : s[0].toNat = 65 := HL0.out 65 (by unfold letterN; rw [if_pos hkc])
          have HCK := hidP hkc
          clear hkc
          obtain ⟨fin, hfin⟩ : ∃ l, l = pMat k := ⟨_, rfl⟩
          have HUF : Hid (UpdI w6 wr (some ⟨g, 0, none⟩) (q * q) fin) := by
            have h := HU.out
            show UpdI _ _ _ _ _
            rw [hfin]
            obtain rfl | rfl | rfl | rfl : k = 0 ∨ k = 1 ∨ k = 2 ∨ k = 3 := by have := HCK.out; omega
            all_goals
              have hd := HK4.out
              have hn := HK.out
              subst hd
              subst hn
              exact h
          have HFN := hidP hfin
          clear hfin
          obtain ⟨g0, g1⟩ := HC6.out
          have f0 := HUF.out.far g0 HG.out
          obtain ⟨f2, f1, f3, _, _, _⟩ := HP6.out.upd HUF.out
          obtain ⟨r0, r1, r2, r3, r4⟩ := HR6.out wr fin HUF.out
          have HEnd : Hid (OwnI ((wr.setCell ⟨w.heap.size, 0, none⟩ (.int .i64 q)).setCell ⟨w.heap.size, 1, none⟩ (.slice (some ⟨g, 0, none⟩) (q * q) (q * q))) w.heap.size (some ⟨g, 0, none⟩) (q * q) (q * q) (pMat k) ∧ Ext w ((wr.setCell ⟨w.heap.size, 0, none⟩ (.int .i64 q)).setCell ⟨w.heap.size, 1, none⟩ (.slice (some ⟨g, 0, none⟩) (q * q) (q * q)))) := by
            refine ⟨?_, ?_⟩
            · have h := HUF.out.own H6.out
              rw [HFN.out] at h
              exact (h.setFar _ 0 _ (HGW.out)).setFar _ 1 _ (HGW.out)
            · have h : Ext w wr := HUF.out.below HX6.out HX6.out.size fun b o e _ => by cases e; exact HGB.out
              exact (h.setNew _ _ (Nat.le_refl _) _).setNew _ _ (Nat.le_refl _) _
          clear g0 g1
          go_wp2
          refine bodyPost_ret (v := .tuple #[carV q (some ⟨g, 0, none⟩) (q * q) (q * q), .bool true]) (by simp [results, Tryz.results111, go_sem, r0, r1]) rfl ⟨some ⟨g, 0, none⟩, rfl, ?_, ?_⟩
          · exact HEnd.out.1
          · exact HEnd.out.2
        · have h0 : s[0].toNat = 66 := HL0.out 66 (by unfold letterN; rw [if_neg (by omega), if_pos (by omega)])
          have hq2 : 2 ≤ q := by
            have key : ∀ k, k < 12 → (4 ≤ k ∧ k < 7) → 2 ≤ pRank k := by decide
            rw [← HK.out]
            exact key k hk hkc
          have HCK := hidP hkc
          clear hkc
          obtain ⟨f0, f1, f2, _, _, _⟩ := HP6.out.upd HU.out
          have HPU := hidP (put_upd ((q : Int)) ((q : Int) - 1) (-2) q b5 b4 g (q * q) (q * q) _ w6 wr (HP6.out.upd HU.out).h1 (HP6.out.upd HU.out).h2 (by omega) (by omega) (by omega) (by omega) (by omega) HMM.out HU.out HF6.out)
          go_wp2_with fail
          refine HPU.out.mono ?_
          rintro e v1 ⟨rfl, hu⟩
          have HU11 := hidP hu
          clear hu f0 f1 f2 HPU
          obtain ⟨fin, hfin⟩ : ∃ l, l = pMat k := ⟨_, rfl⟩
          have HUF : Hid (UpdI w6 v1 (some ⟨g, 0, none⟩) (q * q) fin) := by
            have h := HU11.out
            show UpdI _ _ _ _ _
            rw [hfin]
            obtain rfl | rfl | rfl : k = 4 ∨ k = 5 ∨ k = 6 := by have := HCK.out; omega
            all_goals
              have hd := HK4.out
              have hn := HK.out
              subst hd
              subst hn
              exact h
          have HFN := hidP hfin
          clear hfin
          obtain ⟨g0, g1⟩ := HC6.out
          have f0 := HUF.out.far g0 HG.out
          obtain ⟨f2, f1, f3, _, _, _⟩ := HP6.out.upd HUF.out
          obtain ⟨r0, r1, r2, r3, r4⟩ := HR6.out v1 fin HUF.out
          have HEnd : Hid (OwnI ((v1.setCell ⟨w.heap.size, 0, none⟩ (.int .i64 q)).setCell ⟨w.heap.size, 1, none⟩ (.slice (some ⟨g, 0, none⟩) (q * q) (q * q))) w.heap.size (some ⟨g, 0, none⟩) (q * q) (q * q) (pMat k) ∧ Ext w ((v1.setCell ⟨w.heap.size, 0, none⟩ (.int .i64 q)).setCell ⟨w.heap.size, 1, none⟩ (.slice (some ⟨g, 0, none⟩) (q * q) (q * q)))) := by
            refine ⟨?_, ?_⟩
            · have h := HUF.out.own H6.out
              rw [HFN.out] at h
              exact (h.setFar _ 0 _ (HGW.out)).setFar _ 1 _ (HGW.out)
            · have h : Ext w v1 := HUF.out.below HX6.out HX6.out.size fun b o e _ => by cases e; exact HGB.out
              exact (h.setNew _ _ (Nat.le_refl _) _).setNew _ _ (Nat.le_refl _) _
          clear g0 g1
          go_wp2
          refine bodyPost_ret (v := .tuple #[carV q (some ⟨g, 0, none⟩) (q * q) (q * q), .bool true]) (by simp [results, Tryz.results111, go_sem, r0, r1]) rfl ⟨some ⟨g, 0, none⟩, rfl, ?_, ?_⟩
          · exact HEnd.out.1
          · exact HEnd.out.2
        · have h0 : s[0].toNat = 67 := HL0.out 67 (by unfold letterN; rw [if_neg (by omega), if_neg (by omega), if_pos (by omega)])
          have hq2 : 3 ≤ q := by
            have key : ∀ k, k < 12 → (7 ≤ k ∧ k < 9) → 3 ≤ pRank k := by decide
            rw [← HK.out]
            exact key k hk hkc
          have HCK := hidP hkc
          clear hkc
          obtain ⟨f0, f1, f2, _, _, _⟩ := HP6.out.upd HU.out
          have HPU := hidP (put_upd ((q : Int) - 1) ((q : Int)) (-2) q b5 b4 g (q * q) (q * q) _ w6 wr (HP6.out.upd HU.out).h1 (HP6.out.upd HU.out).h2 (by omega) (by omega) (by omega) (by omega) (by omega) HMM.out HU.out HF6.out)
          go_wp2_with fail
          refine HPU.out.mono ?_
          rintro e v1 ⟨rfl, hu⟩
          have HU11 := hidP hu
          clear hu f0 f1 f2 HPU
          obtain ⟨fin, hfin⟩ : ∃ l, l = pMat k := ⟨_, rfl⟩
          have HUF : Hid (UpdI w6 v1 (some ⟨g, 0, none⟩) (q * q) fin) := by
            have h := HU11.out
            show UpdI _ _ _ _ _
            rw [hfin]
            obtain rfl | rfl : k = 7 ∨ k = 8 := by have := HCK.out; omega
            all_goals
              have hd := HK4.out
              have hn := HK.out
              subst hd
              subst hn
              exact h
          have HFN := hidP hfin
          clear hfin
          obtain ⟨g0, g1⟩ := HC6.out
          have f0 := HUF.out.far g0 HG.out
          obtain ⟨f2, f1, f3, _, _, _⟩ := HP6.out.upd HUF.out
          obtain ⟨r0, r1, r2, r3, r4⟩ := HR6.out v1 fin HUF.out
          have HEnd : Hid (OwnI ((v1.setCell ⟨w.heap.size, 0, none⟩ (.int .i64 q)).setCell ⟨w.heap.size, 1, none⟩ (.slice (some ⟨g, 0, none⟩) (q * q) (q * q))) w.heap.size (some ⟨g, 0, none⟩) (q * q) (q * q) (pMat k) ∧ Ext w ((v1.setCell ⟨w.heap.size, 0, none⟩ (.int .i64 q)).setCell ⟨w.heap.size, 1, none⟩ (.slice (some ⟨g, 0, none⟩) (q * q) (q * q)))) := by
            refine ⟨?_, ?_⟩
            · have h := HUF.out.own H6.out
              rw [HFN.out] at h
              exact (h.setFar _ 0 _ (HGW.out)).setFar _ 1 _ (HGW.out)
            · have h : Ext w v1 := HUF.out.below HX6.out HX6.out.size fun b o e _ => by cases e; exact HGB.out
              exact (h.setNew _ _ (Nat.le_refl _) _).setNew _ _ (Nat.le_refl _) _
          clear g0 g1
          go_wp2
          refine bodyPost_ret (v := .tuple #[carV q (some ⟨g, 0, none⟩) (q * q) (q * q), .bool true]) (by simp [results, Tryz.results111, go_sem, r0, r1]) rfl ⟨some ⟨g, 0, none⟩, rfl, ?_, ?_⟩
          · exact HEnd.out.1
          · exact HEnd.out.2
        · have h0 : s[0].toNat = 68 := HL0.out 68 (by unfold letterN; rw [if_neg (by omega), if_neg (by omega), if_neg (by omega), if_pos hkc])
          have hq2 : 4 ≤ q := by
            have key : ∀ k, k < 12 → (k = 9) → 4 ≤ pRank k := by decide
            rw [← HK.out]
            exact key k hk hkc
          have HCK := hidP hkc
          clear hkc
          obtain ⟨f0, f1, f2, _, _, _⟩ := HP6.out.upd HU.out
          have HPU := hidP (both_upd (2) (1) q b6 b5 b4 g (q * q) (q * q) _ w6 wr HP6.out (by omega) (by omega) (by omega) (by omega) (by omega) HMM.out HU.out HF6.out)
          go_wp2_with fail
          refine HPU.out.mono ?_
          rintro e v1 ⟨rfl, hu⟩
          have HU11 := hidP hu
          clear hu f0 f1 f2 HPU
          obtain ⟨f0, f1, f2, _, _, _⟩ := HP6.out.upd HU11.out
          have HPU := hidP (both_upd (2) (3) q b6 b5 b4 g (q * q) (q * q) _ w6 v1 HP6.out (by omega) (by omega) (by omega) (by omega) (by omega) HMM.out HU11.out HF6.out)
          go_wp2_with fail
          refine HPU.out.mono ?_
          rintro e v2 ⟨rfl, hu⟩
          have HU12 := hidP hu
          clear hu f0 f1 f2 HPU
          obtain ⟨f0, f1, f2, _, _, _⟩ := HP6.out.upd HU12.out
          have HPU := hidP (both_upd (2) (4) q b6 b5 b4 g (q * q) (q * q) _ w6 v2 HP6.out (by omega) (by omega) (by omega) (by omega) (by omega) HMM.out HU12.out HF6.out)
          go_wp2_with fail
          refine HPU.out.mono ?_
          rintro e v3 ⟨rfl, hu⟩
          have HU13 := hidP hu
          clear hu f0 f1 f2 HPU
          obtain ⟨fin, hfin⟩ : ∃ l, l = pMat k := ⟨_, rfl⟩
          have HUF : Hid (UpdI w6 v3 (some ⟨g, 0, none⟩) (q * q) fin) := by
            have h := HU13.out
            show UpdI _ _ _ _ _
            rw [hfin]
            obtain rfl := HCK.out
            have hd := HK4.out
            have hn := HK.out
            subst hd
            subst hn
            exact h
          have HFN := hidP hfin
          clear hfin
          obtain ⟨g0, g1⟩ := HC6.out
          have f0 := HUF.out.far g0 HG.out
          obtain ⟨f2, f1, f3, _, _, _⟩ := HP6.out.upd HUF.out
          obtain ⟨r0, r1, r2, r3, r4⟩ := HR6.out v3 fin HUF.out
          have HEnd : Hid (OwnI ((v3.setCell ⟨w.heap.size, 0, none⟩ (.int .i64 q)).setCell ⟨w.heap.size, 1, none⟩ (.slice (some ⟨g, 0, none⟩) (q * q) (q * q))) w.heap.size (some ⟨g, 0, none⟩) (q * q) (q * q) (pMat k) ∧ Ext w ((v3.setCell ⟨w.heap.size, 0, none⟩ (.int .i64 q)).setCell ⟨w.heap.size, 1, none⟩ (.slice (some ⟨g, 0, none⟩) (q * q) (q * q)))) := by
            refine ⟨?_, ?_⟩
            · have h := HUF.out.own H6.out
              rw [HFN.out] at h
              exact (h.setFar _ 0 _ (HGW.out)).setFar _ 1 _ (HGW.out)
            · have h : Ext w v3 := HUF.out.below HX6.out HX6.out.size fun b o e _ => by cases e; exact HGB.out
              exact (h.setNew _ _ (Nat.le_refl _) _).setNew _ _ (Nat.le_refl _) _
          clear g0 g1
          go_wp2
          refine bodyPost_ret (v := .tuple #[carV q (some ⟨g, 0, none⟩) (q * q) (q * q), .bool true]) (by simp [results, Tryz.results111, go_sem, r0, r1]) rfl ⟨some ⟨g, 0, none⟩, rfl, ?_, ?_⟩
          · exact HEnd.out.1
          · exact HEnd.out.2
        · have h0 : s[0].toNat = 70 := HL0.out 70 (by unfold letterN; rw [if_neg (by omega), if_neg (by omega), if_neg (by omega), if_neg (by omega), if_pos hkc])
          have hq2 : 4 ≤ q := by
            have key : ∀ k, k < 12 → (k = 10) → 4 ≤ pRank k := by decide
            rw [← HK.out]
            exact key k hk hkc
          have HCK := hidP hkc
          clear hkc
          obtain ⟨f0, f1, f2, _, _, _⟩ := HP6.out.upd HU.out
          have HPU := hidP (put_upd (3) (2) (-2) q b5 b4 g (q * q) (q * q) _ w6 wr (HP6.out.upd HU.out).h1 (HP6.out.upd HU.out).h2 (by omega) (by omega) (by omega) (by omega) (by omega) HMM.out HU.out HF6.out)
          go_wp2_with fail
          refine HPU.out.mono ?_
          rintro e v1 ⟨rfl, hu⟩
          have HU11 := hidP hu
          clear hu f0 f1 f2 HPU
          obtain ⟨fin, hfin⟩ : ∃ l, l = pMat k := ⟨_, rfl⟩
          have HUF : Hid (UpdI w6 v1 (some ⟨g, 0, none⟩) (q * q) fin) := by
            have h := HU11.out
            show UpdI _ _ _ _ _
            rw [hfin]
            obtain rfl := HCK.out
            have hd := HK4.out
            have hn := HK.out
            subst hd
            subst hn
            exact h
          have HFN := hidP hfin
          clear hfin
          obtain ⟨g0, g1⟩ := HC6.out
          have f0 := HUF.out.far g0 HG.out
          obtain ⟨f2, f1, f3, _, _, _⟩ := HP6.out.upd HUF.out
          obtain ⟨r0, r1, r2, r3, r4⟩ := HR6.out v1 fin HUF.out
          have HEnd : Hid (OwnI ((v1.setCell ⟨w.heap.size, 0, none⟩ (.int .i64 q)).setCell ⟨w.heap.size, 1, none⟩ (.slice (some ⟨g, 0, none⟩) (q * q) (q * q))) w.heap.size (some ⟨g, 0, none⟩) (q * q) (q * q) (pMat k) ∧ Ext w ((v1.setCell ⟨w.heap.size, 0, none⟩ (.int .i64 q)).setCell ⟨w.heap.size, 1, none⟩ (.slice (some ⟨g, 0, none⟩) (q * q) (q * q)))) := by
            refine ⟨?_, ?_⟩
            · have h := HUF.out.own H6.out
              rw [HFN.out] at h
              exact (h.setFar _ 0 _ (HGW.out)).setFar _ 1 _ (HGW.out)
            · have h : Ext w v1 := HUF.out.below HX6.out HX6.out.size fun b o e _ => by cases e; exact HGB.out
              exact (h.setNew _ _ (Nat.le_refl _) _).setNew _ _ (Nat.le_refl _) _
          clear g0 g1
          go_wp2
          refine bodyPost_ret (v := .tuple #[carV q (some ⟨g, 0, none⟩) (q * q) (q * q), .bool true]) (by simp [results, Tryz.results111, go_sem, r0, r1]) rfl ⟨some ⟨g, 0, none⟩, rfl, ?_, ?_⟩
          · exact HEnd.out.1
          · exact HEnd.out.2
        · have h0 : s[0].toNat = 71 := HL0.out 71 (by unfold letterN; rw [if_neg (by omega), if_neg (by omega), if_neg (by omega), if_neg (by omega), if_neg (by omega)])
          have hq2 : 2 ≤ q := by
            have key : ∀ k, k < 12 → (k = 11) → 2 ≤ pRank k := by decide
            rw [← HK.out]
            exact key k hk hkc
          have HCK := hidP hkc
          clear hkc
          obtain ⟨f0, f1, f2, _, _, _⟩ := HP6.out.upd HU.out
          have HPU := hidP (put_upd (1) (2) (-3) q b5 b4 g (q * q) (q * q) _ w6 wr (HP6.out.upd HU.out).h1 (HP6.out.upd HU.out).h2 (by omega) (by omega) (by omega) (by omega) (by omega) HMM.out HU.out HF6.out)
          go_wp2_with fail
          refine HPU.out.mono ?_
          rintro e v1 ⟨rfl, hu⟩
          have HU11 := hidP hu
          clear hu f0 f1 f2 HPU
          obtain ⟨fin, hfin⟩ : ∃ l, l = pMat k := ⟨_, rfl⟩
          have HUF : Hid (UpdI w6 v1 (some ⟨g, 0, none⟩) (q * q) fin) := by
            have h := HU11.out
            show UpdI _ _ _ _ _
            rw [hfin]
            obtain rfl := HCK.out
            have hd := HK4.out
            have hn := HK.out
            subst hd
            subst hn
            exact h
          have HFN := hidP hfin
          clear hfin
          obtain ⟨g0, g1⟩ := HC6.out
          have f0 := HUF.out.far g0 HG.out
          obtain ⟨f2, f1, f3, _, _, _⟩ := HP6.out.upd HUF.out
          obtain ⟨r0, r1, r2, r3, r4⟩ := HR6.out v1 fin HUF.out
          have HEnd : Hid (OwnI ((v1.setCell ⟨w.heap.size, 0, none⟩ (.int .i64 q)).setCell ⟨w.heap.size, 1, none⟩ (.slice (some ⟨g, 0, none⟩) (q * q) (q * q))) w.heap.size (some ⟨g, 0, none⟩) (q * q) (q * q) (pMat k) ∧ Ext w ((v1.setCell ⟨w.heap.size, 0, none⟩ (.int .i64 q)).setCell ⟨w.heap.size, 1, none⟩ (.slice (some ⟨g, 0, none⟩) (q * q) (q * q)))) := by
            refine ⟨?_, ?_⟩
            · have h := HUF.out.own H6.out
              rw [HFN.out] at h
              exact (h.setFar _ 0 _ (HGW.out)).setFar _ 1 _ (HGW.out)
            · have h : Ext w v1 := HUF.out.below HX6.out HX6.out.size fun b o e _ => by cases e; exact HGB.out
              exact (h.setNew _ _ (Nat.le_refl _) _).setNew _ _ (Nat.le_refl _) _
          clear g0 g1
          go_wp2
          refine bodyPost_ret (v := .tuple #[carV q (some ⟨g, 0, none⟩) (q * q) (q * q), .bool true]) (by simp [results, Tryz.results111, go_sem, r0, r1]) rfl ⟨some ⟨g, 0, none⟩, rfl, ?_, ?_⟩
          · exact HEnd.out.1
          · exact HEnd.out.2
end Go.Proofs.YtdhlapppahkjeaaGreatDoor

namespace Go.Proofs.YtdhlapppahkjeaaGreatDoor
open Go.RowKit

def natI (l : List Nat) : List Int := l.map fun x : Nat => (x : Int)
theorem natI_length (l : List Nat) : (natI l).length = l.length := by simp [natI]
theorem natI_getD (l : List Nat) (j : Nat) : (natI l).getD j 0 = (l.getD j 0 : Nat) := by
  simp only [natI, List.getD_eq_getElem?_getD, List.getElem?_map]
  cases l[j]? <;> simp
theorem natI_contains (l : List Nat) (i : Nat) : (natI l).contains (i : Int) = l.contains i := by
  rw [Bool.eq_iff_iff]
  simp only [natI, List.contains_eq_mem, decide_eq_true_eq, List.mem_map]
  exact ⟨fun ⟨a, h, e⟩ => by obtain rfl : a = i := by omega
                             exact h, fun h => ⟨i, h, rfl⟩⟩
theorem natI_append (l m : List Nat) : natI (l ++ m) = natI l ++ natI m := by simp [natI]
/-- an entry's cell -/
theorem IntsAt.entry {w : World} {a : Option Addr} {r : Nat} {xs : List Int} (h : IntsAt w a (r * r) xs) {i j : Nat} (hi : i < r) (hj : j < r) :
    ∃ b o, a = some ⟨b, o, none⟩ ∧ w.cell? ⟨b, o + (i * r + j), none⟩ = some (.int .i64 (atM xs r i j)) ∧ i * r + j < r * r := by
  have h1 : i * r + j < r * r := by
    have : (i + 1) * r ≤ r * r := Nat.mul_le_mul_right _ hi
    rw [Nat.add_mul, Nat.one_mul] at this
    omega
  obtain ⟨b, o, rfl, hc⟩ := h.get _ h1
  exact ⟨b, o, rfl, hc, h1⟩
theorem IntsAt.entryC {w : World} {b o r : Nat} {xs : List Int} (h : IntsAt w (some ⟨b, o, none⟩) (r * r) xs) {i j : Nat} (hi : i < r) (hj : j < r) : w.cell? ⟨b, o + (i * r + j), none⟩ = some (.int .i64 (atM xs r i j)) := by
  obtain ⟨b', o', e, hc, _⟩ := h.entry hi hj
  simp only [Option.some.injEq, Addr.mk.injEq, and_true] at e
  obtain ⟨rfl, rfl⟩ := e
  exact hc
/-- sums for a place in a matrix -/
structure PlaceF (i j r : Nat) : Prop where
  w1 : IntKind.i64.wrap ((i : Int) * r) = (i : Int) * r
  w2 : IntKind.i64.wrap ((i : Int) * r + j) = (i : Int) * r + j
  p0 : 0 ≤ (i : Int) * r + j
  p1 : (i : Int) * r + j < (r : Int) * r
  pn : ((i : Int) * r + j).toNat = i * r + j
theorem placeF {i j r : Nat} (hr : r ≤ 4) (hi : i < r) (hj : j < r) : PlaceF i j r := by
  obtain ⟨h0, h1, h2, h3⟩ := idx4 (r := (r : Int)) (i := i) (j := j) (by omega) (by omega) (by omega) (by omega) (by omega)
  refine ⟨wrap_in (by omega) (by omega), wrap_in (by omega) (by omega), by omega, h2, ?_⟩
  rw [← Int.natCast_mul, ← Int.natCast_add]
  rfl

set_option maxRecDepth 100000 in
set_option maxHeartbeats 4000000 in
theorem reordered_any (r : Nat) (hr : r ≤ 4) (xs due : List Int) : ∀ (f : Nat) (rows : List Nat) (ac ad a : Option Addr) (cc cd n c : Nat) (w : World), IntsAt w ac (r * r) xs → IntsAt w ad (r * r) due → IntsAt w a n (natI rows) → (a = none → c = 0) → n + f = r → (∀ x ∈ rows, x < r) →
    Calls Tryz.prog 88 #[carV r ac (r * r) cc, carV r ad (r * r) cd, .slice a n c] w fun e w' => e = .returned (.bool (searchB (List.range r) r (rowChk xs r due r) f rows)) ∧ Ext w w' := by
  intro f
  induction f with
  | zero =>
    intro rows ac ad a cc cd n c w h1 h2 h3 h4 h5 h6
    have hl := h3.len
    rw [natI_length] at hl
    have HS : Hid (searchB (List.range r) r (rowChk xs r due r) 0 rows = true) := by
      show _ = _
      simp [searchB]
      omega
    obtain rfl : n = r := by omega
    have hx := hidP ((Ext.alloc w (.cells #[.int .i64 n, .slice ac (n * n) cc] 29)).trans (Ext.alloc _ (.cells #[.int .i64 n, .slice ad (n * n) cd] 29)))
    clear h1 h2 h3 h4 hl h6
    go_enter Tryz.func88, Tryz.ntmps88
    go_wp2
    go_ret
    exact ⟨ret_bool HS.out.symm, hx.out⟩
  | succ f ih =>
    intro rows ac ad a cc cd n c w h1 h2 h3 h4 h5 h6
    have hl := h3.len
    rw [natI_length] at hl
    have hnr : ((n : Int) == r) = false := by simp; omega
    have hnr2 : n < r := by omega
    have hx := hidP ((Ext.alloc w (.cells #[.int .i64 r, .slice ac (r * r) cc] 29)).trans (Ext.alloc _ (.cells #[.int .i64 r, .slice ad (r * r) cd] 29)))
    have HC := hidP ((CarAt.new w _ rfl r ac (r * r) cc 29).below (Ext.alloc _ (.cells #[.int .i64 r, .slice ad (r * r) cd] 29)))
    have HD := hidP (CarAt.new (w.alloc (.cells #[.int .i64 r, .slice ac (r * r) cc] 29)) (w.heap.size + 1) (by simp) r ad (r * r) cd 29)
    have H1 := hidP (h1.below hx.out)
    have H2 := hidP (h2.below hx.out)
    have H3 := hidP (h3.below hx.out)
    have H6 := hidP h6
    have HNil := hidP h4
    have HL := hidP hl
    have HN5 := hidP h5
    obtain ⟨B, hB⟩ : ∃ B : Nat → Bool, B = fun i => !rows.contains i && rowChk xs r due r rows i && searchB (List.range r) r (rowChk xs r due r) f (rows ++ [i]) := ⟨_, rfl⟩
    have HB := hidP (fun i => congrFun hB i)
    have HS : Hid (searchB (List.range r) r (rowChk xs r due r) (f + 1) rows = (List.range r).any B) := by
      show _ = _
      rw [hB, searchB, decide_eq_false (by omega), Bool.false_or]
    rw [HS.out]
    clear h1 h2 h3 h4 hl h6 h5 hB HS
    go_enter Tryz.func88, Tryz.ntmps88
    go_wp2
    obtain ⟨w0, hw0⟩ : ∃ w0, w0 = (w.alloc (.cells #[.int .i64 r, .slice ac (r * r) cc] 29)).alloc (.cells #[.int .i64 r, .slice ad (r * r) cd] 29) := ⟨_, rfl⟩
    obtain ⟨b3, hb3⟩ : ∃ b, b = w.heap.size := ⟨_, rfl⟩
    rw [← hb3] at HC HD ⊢
    rw [← hw0] at hx HC HD H1 H2 H3 ⊢
    obtain ⟨b4, hb4⟩ : ∃ b, b = b3 + 1 := ⟨_, rfl⟩
    rw [← hb4] at HD ⊢
    clear hw0 hb3 hb4
    go_loopw [20] (fun t wr => ∃ i : Nat, i ≤ r ∧ t = .int .i64 i ∧ Hid (∀ q, q < i → B q = false) ∧ Hid (Ext w0 wr)) (fun t _ => r - (intOf t).toNat)
    case atStart => exact ⟨0, Nat.zero_le _, rfl, fun q hq => by omega, Ext.refl _⟩
    case round =>
      obtain ⟨i, hi, rfl, HJ, HX⟩ := hrel
      obtain ⟨f0, f1⟩ := HC.out.below HX.out
      obtain ⟨g0, g1⟩ := HD.out.below HX.out
      by_cases hlt : i < r
      · have HCT := hidP (fun q => containsI_any a n c (natI rows) (i : Int) (wr.drewN q) ((H3.out.below HX.out).drewN q) (by omega))
        rw [natI_contains] at HCT
        obtain ⟨bx, ox, rfl, qx, lx⟩ := (H1.out.below HX.out).entry hlt hlt
        obtain ⟨bd, od, rfl, qd, ld⟩ := (H2.out.below HX.out).entry hnr2 hnr2
        cases hcon : rows.contains i
        · rw [hcon] at HCT
          by_cases hdi : atM xs r i i = atM due r n n
          · have hdi' : (atM xs r i i != atM due r n n) = false := by simpa using hdi
            obtain ⟨F, hF⟩ : ∃ F : Nat → Bool, F = fun j => atM xs r i (rows.getD j 0) == atM due r n j && atM xs r (rows.getD j 0) i == atM due r j n := ⟨_, rfl⟩
            have HF := hidP (fun j => congrFun hF j)
            have HBI : Hid (B i = ((List.range n).all F && searchB (List.range r) r (rowChk xs r due r) f (rows ++ [i]))) := by
              show _ = _
              rw [HB.out i]
              unfold rowChk
              rw [HL.out, hcon, hdi, hF]
              simp
            have HPF := hidP (placeF hr hlt hlt)
            have HPG := hidP (placeF hr hnr2 hnr2)
            clear hdi hcon hF
            go_wp2
            obtain ⟨k1, k2, k3, k4, k5⟩ := HPF.out
            obtain ⟨l1, l2, l3, l4, l5⟩ := HPG.out
            go_quiet ((go_at_call 113; exact Calls.quiet_of_same (HCT.out _)))
            clear k1 k2 k3 k4 k5 l1 l2 l3 l4 l5 HPF HPG hdi'
            go_wp2
            obtain ⟨w1, hw1⟩ : ∃ w1, w1 = wr.drewN nq := ⟨_, rfl⟩
            have HX1 : Hid (Ext wr w1) := by rw [hw1]; exact Ext.drewN _ _
            rw [← hw1]
            clear hw1 qx qd lx ld f0 f1 g0 g1
            go_loopw [9, 51] (fun u t wx => ∃ j : Nat, j ≤ n ∧ t = .int .i64 j ∧ u = .bool ((List.range j).all F) ∧ Hid (Ext w1 wx)) (fun _ t _ => n - (intOf t).toNat)
            case atStart => exact ⟨0, Nat.zero_le _, rfl, rfl, Ext.refl _⟩
            case round =>
              obtain ⟨j, hj, rfl, rfl, HXj⟩ := hrel
              have HXa := hidP (HX.out.trans (HX1.out.trans HXj.out))
              have HAS : Hid ((List.range (j + 1)).all F = ((List.range j).all F && F j)) := by
                show _ = _
                rw [List.range_succ, List.all_append]
                simp
              by_cases hjn : j < n
              · obtain ⟨f0, f1⟩ := HC.out.below HXa.out
                obtain ⟨g0, g1⟩ := HD.out.below HXa.out
                have hrj : rows.getD j 0 < r := H6.out _ (by rw [List.getD_eq_getElem?_getD, List.getElem?_eq_getElem (by rw [HL.out]; exact hjn)]; exact List.getElem_mem _)
                have hjr : j < r := by omega
                obtain ⟨b, o, rfl, qj⟩ := (H3.out.below HXa.out).get j hjn
                rw [natI_getD] at qj
                have HFJ := hidP (HF.out j)
                generalize rows.getD j 0 = rj at *
                cases hfj : (List.range j).all F
                · rw [hfj] at HAS
                  go_wp2
                  go_quiet (fail)
                  go_wp2
                  go_roundw
                  case rel => exact ⟨j + 1, by omega, by go_num, by rw [HAS.out]; rfl, HXj.out.trans (Ext.drewN _ _)⟩
                  case measure => simp [intOf]; omega
                · rw [hfj, Bool.true_and] at HAS
                  have e1 := (H1.out.below HXa.out).entryC hlt hrj
                  have e2 := (H2.out.below HXa.out).entryC hnr2 hjr
                  have e3 := (H1.out.below HXa.out).entryC hrj hlt
                  have e4 := (H2.out.below HXa.out).entryC hjr hnr2
                  generalize atM xs r i rj = x1 at *
                  generalize atM due r n j = y1 at *
                  generalize atM xs r rj i = x2 at *
                  generalize atM due r j n = y2 at *
                  have P1 := hidP (placeF hr hlt hrj)
                  have P2 := hidP (placeF hr hnr2 hjr)
                  have P3 := hidP (placeF hr hrj hlt)
                  have P4 := hidP (placeF hr hjr hnr2)
                  cases hp : (x1 == y1)
                  · rw [hp, Bool.false_and] at HFJ
                    go_wp2
                    obtain ⟨k1, k2, k3, k4, k5⟩ := P1.out
                    obtain ⟨l1, l2, l3, l4, l5⟩ := P2.out
                    go_quiet (fail)
                    clear k1 k2 k3 k4 k5 l1 l2 l3 l4 l5
                    go_wp2
                    go_roundw
                    case rel => exact ⟨j + 1, by omega, by go_num, by rw [HAS.out, HFJ.out], HXj.out.trans (Ext.drewN _ _)⟩
                    case measure => simp [intOf]; omega
                  · rw [hp, Bool.true_and] at HFJ
                    go_wp2
                    obtain ⟨k1, k2, k3, k4, k5⟩ := P1.out
                    obtain ⟨l1, l2, l3, l4, l5⟩ := P2.out
                    obtain ⟨m1, m2, m3, m4, m5⟩ := P3.out
                    obtain ⟨n1, n2, n3, n4, n5⟩ := P4.out
                    go_quiet (fail)
                    clear k1 k2 k3 k4 k5 l1 l2 l3 l4 l5 m1 m2 m3 m4 m5 n1 n2 n3 n4 n5
                    go_wp2
                    go_roundw
                    case rel => exact ⟨j + 1, by omega, by go_num, by rw [HAS.out, HFJ.out], HXj.out.trans (Ext.drewN _ _)⟩
                    case measure => simp [intOf]; omega
              · obtain rfl : j = n := by omega
                obtain ⟨f0, f1⟩ := HC.out.below HXa.out
                obtain ⟨g0, g1⟩ := HD.out.below HXa.out
                have hE : Ext wr wr.drew := Ext.drew wr
                cases hfa : (List.range j).all F
                · rw [hfa, Bool.false_and] at HBI
                  go_wp2
                  (refine walkR_start (fun w' => Ext wr w') 10 (by kernel_rfl) ?_; simp only [numbered, List.take_succ_cons, List.take_zero, Nat.zero_add, Nat.reduceAdd, List.length_cons, List.length_nil])
                  (repeat (first | (refine walkR_still (v := ?_) rfl (by decide +kernel) rfl (fun _ _ _ h => h) hE ?_ ?_; rotate_left; (focus (intro w' hw'; skip; go_simp; all_goals (with_reducible rfl))); simp only [Act.put, List.setIfInBounds_toArray, List.set_cons_zero, List.set_cons_succ]) | (refine walkR_skip rfl (by decide +kernel) rfl (fun _ _ _ h => h) hE ?_; simp only [Act.put, List.setIfInBounds_toArray, List.set_cons_zero, List.set_cons_succ])))
                  (refine walkR_tail (by rfl) (by kernel_rfl) ?_; simp only [List.drop_succ_cons, List.drop_zero])
                  go_wp2
                  go_roundw
                  case rel =>
                    refine ⟨i + 1, by omega, by go_num, fun q hq => ?_, HXa.out.trans hE⟩
                    rcases Nat.lt_succ_iff_lt_or_eq.1 hq with h3 | rfl
                    · exact HJ.out q h3
                    · exact HBI.out
                  case measure => simp [intOf]; omega
                · rw [hfa, Bool.true_and] at HBI
                  have HCl := hidP (fun w' (hx : Ext wr w') => clone_any a j c (natI rows) w' ((H3.out.below HXa.out).below hx) HNil.out (by omega))
                  have HI := hidP ih
                  have HWB := hidP (fun w' (hx : Ext wr w') => (⟨HC.out.below (HXa.out.trans hx), HD.out.below (HXa.out.trans hx)⟩ : _ ∧ _))
                  clear f0 f1 g0 g1 ih
                  go_wp2
                  (refine walkR_start (fun w' => Ext wr w') 9 (by kernel_rfl) ?_; simp only [numbered, List.take_succ_cons, List.take_zero, Nat.zero_add, Nat.reduceAdd, List.length_cons, List.length_nil])
                  (repeat (first | (refine walkR_still (v := ?_) rfl (by decide +kernel) rfl (fun _ _ _ h => h) hE ?_ ?_; rotate_left; (focus (intro w' hw'; obtain ⟨⟨f0, f1⟩, g0, g1⟩ := HWB.out w' hw'; go_simp; all_goals (with_reducible rfl))); simp only [Act.put, List.setIfInBounds_toArray, List.set_cons_zero, List.set_cons_succ]) | (refine walkR_skip rfl (by decide +kernel) rfl (fun _ _ _ h => h) hE ?_; simp only [Act.put, List.setIfInBounds_toArray, List.set_cons_zero, List.set_cons_succ])))
                  (refine walkR_later ?_; simp only [List.cons_append, List.nil_append])
                  (repeat (first | (refine walkR_still (v := ?_) rfl (by decide +kernel) rfl (fun _ _ _ h => h) hE ?_ ?_; rotate_left; (focus (intro w' hw'; skip; go_simp; all_goals (with_reducible rfl))); simp only [Act.put, List.setIfInBounds_toArray, List.set_cons_zero, List.set_cons_succ]) | (refine walkR_skip rfl (by decide +kernel) rfl (fun _ _ _ h => h) hE ?_; simp only [Act.put, List.setIfInBounds_toArray, List.set_cons_zero, List.set_cons_succ])))
                  (refine walkR_later ?_; simp only [List.cons_append, List.nil_append]); (refine walkR_later ?_; simp only [List.cons_append, List.nil_append])
                  refine walkR_two (fun v u w' => ∃ a1 c1 b1, v = .slice a1 j c1 ∧ u = .slice (some ⟨b1, 0, none⟩) 1 1 ∧ OwnI w' wr.heap.size a1 j c1 (natI rows) ∧ w'.cell? ⟨b1, 0, none⟩ = some (.int .i64 i)) (fun v w' => ∃ a1 c1, v = .slice a1 j c1 ∧ OwnI w' wr.heap.size a1 j c1 (natI rows)) (fun u w' => ∃ b1, u = .slice (some ⟨b1, 0, none⟩) 1 1 ∧ w'.cell? ⟨b1, 0, none⟩ = some (.int .i64 i)) rfl rfl (by decide +kernel) rfl rfl (by decide) rfl rfl (fun _ => rfl) (fun _ => rfl) ?_ ?_ ?_ ?_ ?_
                  · intro K hK
                    go_simp
                    refine (HCl.out _ hE).mono ?_
                    rintro e w2 ⟨a1, c1, rfl, ho, hx⟩
                    exact hK _ _ (hE.trans hx) ⟨a1, c1, rfl, ho⟩
                  · rintro v w2 hx ⟨a1, c1, rfl, ho⟩ K hK
                    go_simp
                    exact hK _ _ (hx.trans (Ext.alloc _ _)) ⟨a1, c1, _, rfl, rfl, ho.below (Ext.alloc _ _), (cell_top _ _ _ _ _ rfl).trans rfl⟩
                  · intro K hK
                    go_simp
                    exact hK _ _ (hE.trans (Ext.alloc _ _)) ⟨_, rfl, (cell_top _ _ _ _ _ rfl).trans rfl⟩
                  · rintro u w2 hx ⟨b1, rfl, hb⟩ K hK
                    go_simp
                    refine (HCl.out _ hx).mono ?_
                    rintro e w3 ⟨a1, c1, rfl, ho, hx3⟩
                    exact hK _ _ (hx.trans hx3) ⟨a1, c1, b1, rfl, rfl, ho.base hx.size, (hx3.cell (p := ⟨b1, 0, none⟩) (World.block_lt_of_cell? _ _ hb)).trans hb⟩
                  · rintro v u w2 hx2 ⟨a1, c1, b1, rfl, rfl, ho2, hb2⟩
                    (try simp only [Act.put, List.setIfInBounds_toArray, List.set_cons_zero, List.set_cons_succ])
                    have hi1 : IntsAt w2 (some ⟨b1, 0, none⟩) 1 [(i : Int)] := ⟨rfl, fun q hq => ⟨b1, 0, rfl, by
                      obtain rfl : q = 0 := by omega
                      simpa using hb2⟩⟩
                    (refine walkR_only (fun w' => Ext wr w') rfl (by decide +kernel) rfl ?_ ?_)
                    · exact fun _ h => h
                    intro K hK
                    refine wp_append_ints (.tmp 109) (.tmp 111) rfl wr.heap.size a1 j c1 (natI rows) rfl ho2 ⟨b1, 0, none⟩ 1 1 [(i : Int)] rfl hi1 (by omega) hx2.size ?_
                    intro a3 c3 w3 ho3 hg3
                    have hx3 := grown_ext hg3 hx2 hx2.size ho2.addr_base
                    refine hK _ _ hx3 ?_
                    clear hK K
                    (try simp only [Act.put, List.setIfInBounds_toArray, List.set_cons_zero, List.set_cons_succ])
                    (refine walkR_tail (by rfl) (by kernel_rfl) ?_; simp only [List.drop_succ_cons, List.drop_zero])
                    rw [show natI rows ++ [(i : Int)] = natI (rows ++ [i]) by rw [natI_append]; rfl] at ho3
                    have HR := hidP (HI.out (rows ++ [i]) _ _ _ cc cd _ _ w3 ((H1.out.below HXa.out).below hx3) ((H2.out.below HXa.out).below hx3) ho3.ints ho3.nil_cap (by have := HN5.out; omega) (fun x hx => by
                      simp only [List.mem_append, List.mem_singleton] at hx
                      rcases hx with hx | rfl
                      · exact H6.out x hx
                      · exact hlt))
                    have HX3 := hidP hx3
                    clear ho3 hg3 ho2 hb2 hi1 hx2 hx3
                    generalize hsb : searchB (List.range r) r (rowChk xs r due r) f (rows ++ [i]) = sb at *
                    cases sb
                    · go_wp2_with fail
                      refine HR.out.mono ?_
                      rintro e w4 ⟨rfl, hx4⟩
                      go_wp2
                      go_roundw
                      case rel =>
                        refine ⟨i + 1, by omega, by go_num, fun q hq => ?_, (HXa.out.trans HX3.out).trans hx4⟩
                        rcases Nat.lt_succ_iff_lt_or_eq.1 hq with h3 | rfl
                        · exact HJ.out q h3
                        · exact HBI.out
                      case measure => simp [intOf]; omega
                    · have HE : Hid ((List.range r).any B = true) := by
                        show _ = _
                        rw [List.any_eq_true]
                        exact ⟨i, List.mem_range.2 hlt, HBI.out⟩
                      go_wp2_with fail
                      refine HR.out.mono ?_
                      rintro e w4 ⟨rfl, hx4⟩
                      go_wp2
                      go_ret
                      exact ⟨ret_bool HE.out.symm, ((hx.out.trans HXa.out).trans HX3.out).trans hx4⟩
          · have hdi' : (atM xs r i i != atM due r n n) = true := by simpa using hdi
            have HBI : Hid (B i = false) := by
              show _ = _
              rw [HB.out i]
              unfold rowChk
              rw [HL.out]
              simp [hdi]
            have HPF := hidP (placeF hr hlt hlt)
            have HPG := hidP (placeF hr hnr2 hnr2)
            clear hdi hcon
            go_wp2
            obtain ⟨k1, k2, k3, k4, k5⟩ := HPF.out
            obtain ⟨l1, l2, l3, l4, l5⟩ := HPG.out
            go_quiet ((go_at_call 113; exact Calls.quiet_of_same (HCT.out _)))
            clear k1 k2 k3 k4 k5 l1 l2 l3 l4 l5
            go_wp2
            go_roundw
            case rel =>
              refine ⟨i + 1, by omega, by go_num, fun q hq => ?_, HX.out.trans (Ext.drewN _ _)⟩
              rcases Nat.lt_succ_iff_lt_or_eq.1 hq with h3 | rfl
              · exact HJ.out q h3
              · exact HBI.out
            case measure => simp [intOf]; omega
        · rw [hcon] at HCT
          have HBI : Hid (B i = false) := by
            show _ = _
            rw [HB.out i, hcon]
            rfl
          clear hcon
          go_wp2
          go_quiet ((go_at_call 113; exact Calls.quiet_of_same (HCT.out _)))
          go_wp2
          go_roundw
          case rel =>
            refine ⟨i + 1, by omega, by go_num, fun q hq => ?_, HX.out.trans (Ext.drewN _ _)⟩
            rcases Nat.lt_succ_iff_lt_or_eq.1 hq with h3 | rfl
            · exact HJ.out q h3
            · exact HBI.out
          case measure => simp [intOf]; omega
      · obtain rfl : i = r := by omega
        have HE : Hid ((List.range i).any B = false) := by
          show _ = _
          rw [List.any_eq_false]
          intro q hq
          rw [HJ.out q (List.mem_range.1 hq)]
          simp
        go_wp2
        go_ret
        exact ⟨ret_bool HE.out.symm, hx.out.trans HX.out⟩
end Go.Proofs.YtdhlapppahkjeaaGreatDoor

namespace Go.Proofs.YtdhlapppahkjeaaGreatDoor
open Go.RowKit

/-- matrices of types of one part, as elements of a slice -/
def carK : Knd (Int × List Int) where
  E := 29
  size := 2
  dft := (0, [])
  ints := fun x => x.2
  put := fun x ys => (x.1, ys)
  cells := fun a c x => [.int .i64 x.1, .slice a x.2.length c]
  len := fun _ _ _ => rfl
  pos := by decide
  ne := by decide
  put_ints := fun _ _ => rfl
  put_cells := fun a c x ys h => by simp only [h]
  one := fun a c x u hu => by simp only [List.mem_cons, List.not_mem_nil, or_false] at hu; rcases hu with rfl | rfl <;> rfl
def partP (k : Nat) : Int × List Int := (pRank k, pMat k)
theorem pMat_length : ∀ k, k < 12 → (pMat k).length = pRank k * pRank k := by decide
/-- a slice of matrices of types, read -/
structure CarsAt (w : World) (a : Option Addr) (n : Nat) (ks : List Nat) : Prop where
  len : ks.length = n
  get : ∀ i, i < n → ∃ b o a' c', a = some ⟨b, o, none⟩ ∧ w.cell? ⟨b, o + i * 2, none⟩ = some (.int .i64 (pRank (ks.getD i 0))) ∧ w.cell? ⟨b, o + i * 2 + 1, none⟩ = some (.slice a' (pRank (ks.getD i 0) * pRank (ks.getD i 0)) c') ∧
    IntsAt w a' (pRank (ks.getD i 0) * pRank (ks.getD i 0)) (pMat (ks.getD i 0))
theorem CarsAt.below {w w' : World} {a : Option Addr} {n : Nat} {ks : List Nat} (h : CarsAt w a n ks) (hb : Ext w w') : CarsAt w' a n ks := by
  refine ⟨h.len, fun i hi => ?_⟩
  obtain ⟨b, o, a', c', rfl, h0, h1, h2⟩ := h.get i hi
  exact ⟨b, o, a', c', rfl, (hb.cell (p := ⟨b, o + i * 2, none⟩) (World.block_lt_of_cell? w _ h0)).trans h0, (hb.cell (p := ⟨b, o + i * 2 + 1, none⟩) (World.block_lt_of_cell? w _ h1)).trans h1, h2.below hb⟩
theorem OwnK.cars {w : World} {B U : Nat} {a : Option Addr} {n c : Nat} {hs : List Hdr} {ks : List Nat} (h : OwnK carK w B U a n c hs (ks.map partP)) (hk : ∀ k ∈ ks, k < 12) : CarsAt w a n ks := by
  have hl : ks.length = n := by simpa using h.xl
  refine ⟨hl, fun i hi => ?_⟩
  have e : (ks.map partP).getD i carK.dft = partP (ks.getD i 0) := by simp [List.getD_eq_getElem?_getD, show i < ks.length by omega]
  have hki : ks.getD i 0 < 12 := hk _ (getD_mem (by omega))
  have hlen := pMat_length _ hki
  obtain ⟨g, rfl, hc0, _⟩ := h.cell i 0 hi (by decide)
  obtain ⟨g', e', hc1, _⟩ := h.cell i 1 hi (by decide)
  simp only [Option.some.injEq, Addr.mk.injEq, and_true] at e'
  subst e'
  have he := h.each i hi
  rw [e] at hc0 hc1 he
  refine ⟨g, 0, (hs.getD i (none, 0)).1, (hs.getD i (none, 0)).2, rfl, ?_, ?_, ?_⟩
  · rw [Nat.zero_add]
    exact hc0
  · rw [Nat.zero_add, ← hlen]
    exact hc1
  · rw [← hlen]
    exact he.ints

/-! ### the writes -/
def applyW (ws : List (Nat × Int)) (l : List Int) : List Int := ws.foldl (fun l p => l.set p.1 p.2) l
theorem applyW_snoc (ws : List (Nat × Int)) (p : Nat × Int) (l : List Int) : applyW (ws ++ [p]) l = (applyW ws l).set p.1 p.2 := by simp [applyW]
theorem applyW_append (a b : List (Nat × Int)) (l : List Int) : applyW (a ++ b) l = applyW b (applyW a l) := by simp [applyW]
def wRow (R o k i j : Nat) : List (Nat × Int) := (List.range j).map fun q => ((o + i) * R + o + q, atM (pMat k) (pRank k) i q)
def wBlk (R o k i : Nat) : List (Nat × Int) := (List.range i).flatMap fun p => wRow R o k p (pRank k)
def offK (ks : List Nat) (k : Nat) : Nat := rankL (ks.take k)
def wTo (R : Nat) (ks : List Nat) (k : Nat) : List (Nat × Int) := (List.range k).flatMap fun q => wBlk R (offK ks q) (ks.getD q 0) (pRank (ks.getD q 0))
theorem wRow_succ (R o k i j : Nat) : wRow R o k i (j + 1) = wRow R o k i j ++ [((o + i) * R + o + j, atM (pMat k) (pRank k) i j)] := by simp [wRow, List.range_succ]
theorem wBlk_succ (R o k i : Nat) : wBlk R o k (i + 1) = wBlk R o k i ++ wRow R o k i (pRank k) := by simp [wBlk, List.range_succ]
theorem wTo_succ (R : Nat) (ks : List Nat) (k : Nat) : wTo R ks (k + 1) = wTo R ks k ++ wBlk R (offK ks k) (ks.getD k 0) (pRank (ks.getD k 0)) := by simp [wTo, List.range_succ]
theorem offK_succ (ks : List Nat) : ∀ (k : Nat), k < ks.length → offK ks (k + 1) = offK ks k + pRank (ks.getD k 0) := by
  induction ks with
  | nil => intro k h; simp at h
  | cons x xs ih =>
    intro k h
    cases k with
    | zero => simp [offK, rankL_cons]; simp [rankL]
    | succ k =>
      have := ih k (by simpa using h)
      unfold offK at this ⊢
      rw [List.take_succ_cons, List.take_succ_cons, rankL_cons, rankL_cons, this]
      simp
      omega
theorem offK_all (ks : List Nat) : offK ks ks.length = rankL ks := by unfold offK; rw [List.take_length]
theorem offK_le (ks : List Nat) : ∀ (d k : Nat), k + d ≤ ks.length → offK ks k ≤ offK ks (k + d)
  | 0, k, _ => Nat.le_refl _
  | d + 1, k, h => by
    have := offK_le ks d k (by omega)
    have h2 := offK_succ ks (k + d) (by omega)
    rw [Nat.add_assoc] at h2
    omega
def allTypes : List (List Nat) := typesL 5 1 0 ++ typesL 5 2 0 ++ typesL 5 3 0 ++ typesL 5 4 0
theorem joined_eq : ∀ ks ∈ allTypes, applyW (wTo (rankL ks) ks ks.length) (List.replicate (rankL ks * rankL ks) 0) = blockL ks := by decide +kernel
theorem types_all : ∀ ks ∈ allTypes, (∀ k ∈ ks, k < 12) ∧ 1 ≤ rankL ks ∧ rankL ks ≤ 4 ∧ ks.length ≤ 4 := by decide +kernel

/-- sums for the place of a block's entry -/
structure PlaceG (o i j R : Nat) : Prop where
  w0 : IntKind.i64.wrap ((o : Int) + i) = (o : Int) + i
  w1 : IntKind.i64.wrap (((o : Int) + i) * R) = ((o : Int) + i) * R
  w2 : IntKind.i64.wrap (((o : Int) + i) * R + o) = ((o : Int) + i) * R + o
  w3 : IntKind.i64.wrap (((o : Int) + i) * R + o + j) = ((o : Int) + i) * R + o + j
  p0 : 0 ≤ ((o : Int) + i) * R + o + j
  p1 : ((o : Int) + i) * R + o + j < (R : Int) * R
  pn : (((o : Int) + i) * R + o + j).toNat = (o + i) * R + o + j
theorem placeG {o i j R : Nat} (hr : R ≤ 4) (hi : o + i < R) (hj : o + j < R) : PlaceG o i j R := by
  obtain ⟨h0, h1, h2, h3⟩ := idx4 (r := (R : Int)) (i := (o : Int) + i) (j := (o : Int) + j) (by omega) (by omega) (by omega) (by omega) (by omega)
  refine ⟨wrap_in (by omega) (by omega), wrap_in (by omega) (by omega), wrap_in (by omega) (by omega), wrap_in (by omega) (by omega), by omega, by omega, ?_⟩
  have : ((o : Int) + i) * R + o + j = (((o + i) * R + o + j : Nat) : Int) := by
    rw [Int.natCast_add, Int.natCast_add, Int.natCast_mul, Int.natCast_add]
  rw [this]
  rfl
/-- the two variables that hold the result -/
structure JAt (w : World) (b2 b3 : Nat) (r : Int) (a : Option Addr) (n c : Nat) : Prop where
  o0 : w.cell? ⟨b2, 0, none⟩ = some (.int .i64 0)
  o1 : w.cell? ⟨b2, 1, none⟩ = some (.slice none 0 0)
  of0 : w.frozen? ⟨b2, 0, none⟩ = false
  of1 : w.frozen? ⟨b2, 1, none⟩ = false
  r0 : w.cell? ⟨b3, 0, none⟩ = some (.int .i64 r)
  r1 : w.cell? ⟨b3, 1, none⟩ = some (.slice a n c)
  rf0 : w.frozen? ⟨b3, 0, none⟩ = false
  rf1 : w.frozen? ⟨b3, 1, none⟩ = false
  ne : b2 ≠ b3
theorem JAt.below {w w' : World} {b2 b3 : Nat} {r : Int} {a : Option Addr} {n c : Nat} (h : JAt w b2 b3 r a n c) (hb : Ext w w') : JAt w' b2 b3 r a n c := by
  have l2 : b2 < w.heap.size := World.block_lt_of_cell? w _ h.o0
  have l3 : b3 < w.heap.size := World.block_lt_of_cell? w _ h.r0
  exact ⟨(hb.cell (p := ⟨b2, 0, none⟩) l2).trans h.o0, (hb.cell (p := ⟨b2, 1, none⟩) l2).trans h.o1, (hb.frozen (p := ⟨b2, 0, none⟩) l2).trans h.of0, (hb.frozen (p := ⟨b2, 1, none⟩) l2).trans h.of1,
    (hb.cell (p := ⟨b3, 0, none⟩) l3).trans h.r0, (hb.cell (p := ⟨b3, 1, none⟩) l3).trans h.r1, (hb.frozen (p := ⟨b3, 0, none⟩) l3).trans h.rf0, (hb.frozen (p := ⟨b3, 1, none⟩) l3).trans h.rf1, h.ne⟩
theorem frozen_setCell (w : World) (b i : Nat) (v : Value) (c j : Nat) : (w.setCell ⟨b, i, none⟩ v).frozen? ⟨c, j, none⟩ = w.frozen? ⟨c, j, none⟩ := by
  by_cases h : c = b
  · subst h
    simp only [World.frozen?, World.setCell, Array.getElem?_modify, if_true]
    cases w.heap[c]? with
    | none => rfl
    | some o => cases o <;> rfl
  · have := Below.heap_setCell w ⟨b, i, none⟩ v c h
    simp only [World.frozen?, this]
theorem JAt.setR {w : World} {b2 b3 : Nat} {r : Int} {a : Option Addr} {n c : Nat} (h : JAt w b2 b3 r a n c) (r' : Int) : JAt (w.setCell ⟨b3, 0, none⟩ (.int .i64 r')) b2 b3 r' a n c := by
  have hn : ∀ i, (⟨b3, 0, none⟩ : Addr) ≠ ⟨b2, i, none⟩ := fun i e => h.ne (by cases e; rfl)
  refine ⟨(World.cell?_setCell_other _ _ _ _ (hn 0)).trans h.o0, (World.cell?_setCell_other _ _ _ _ (hn 1)).trans h.o1, (frozen_setCell ..).trans h.of0, (frozen_setCell ..).trans h.of1,
    World.cell?_setCell_same _ _ _ h.r0, (World.cell?_setCell_other _ _ _ _ (by simp)).trans h.r1, (frozen_setCell ..).trans h.rf0, (frozen_setCell ..).trans h.rf1, h.ne⟩
theorem JAt.setD {w : World} {b2 b3 : Nat} {r : Int} {a : Option Addr} {n c : Nat} (h : JAt w b2 b3 r a n c) (a' : Option Addr) (n' c' : Nat) : JAt (w.setCell ⟨b3, 1, none⟩ (.slice a' n' c')) b2 b3 r a' n' c' := by
  have hn : ∀ i, (⟨b3, 1, none⟩ : Addr) ≠ ⟨b2, i, none⟩ := fun i e => h.ne (by cases e; rfl)
  refine ⟨(World.cell?_setCell_other _ _ _ _ (hn 0)).trans h.o0, (World.cell?_setCell_other _ _ _ _ (hn 1)).trans h.o1, (frozen_setCell ..).trans h.of0, (frozen_setCell ..).trans h.of1,
    (World.cell?_setCell_other _ _ _ _ (by simp)).trans h.r0, World.cell?_setCell_same _ _ _ h.r1, (frozen_setCell ..).trans h.rf0, (frozen_setCell ..).trans h.rf1, h.ne⟩
theorem JAt.upd {w w' : World} {b2 b3 : Nat} {r : Int} {a : Option Addr} {n c : Nat} (h : JAt w b2 b3 r a n c) {g o m : Nat} {ys : List Int} (hu : UpdI w w' (some ⟨g, o, none⟩) m ys) (h2 : b2 ≠ g) (h3 : b3 ≠ g) : JAt w' b2 b3 r a n c := by
  have l2 : b2 < w.heap.size := World.block_lt_of_cell? w _ h.o0
  have l3 : b3 < w.heap.size := World.block_lt_of_cell? w _ h.r0
  have e2 := hu.other b2 l2 fun b' o' e _ => by cases e; exact h2
  have e3 := hu.other b3 l3 fun b' o' e _ => by cases e; exact h3
  exact ⟨(World.cell?_of_block (a := ⟨b2, 0, none⟩) e2).trans h.o0, (World.cell?_of_block (a := ⟨b2, 1, none⟩) e2).trans h.o1, by simp only [World.frozen?, e2]; exact h.of0, by simp only [World.frozen?, e2]; exact h.of1,
    (World.cell?_of_block (a := ⟨b3, 0, none⟩) e3).trans h.r0, (World.cell?_of_block (a := ⟨b3, 1, none⟩) e3).trans h.r1, by simp only [World.frozen?, e3]; exact h.rf0, by simp only [World.frozen?, e3]; exact h.rf1, h.ne⟩
set_option maxRecDepth 100000 in
set_option maxHeartbeats 4000000 in
theorem joined_any (ks : List Nat) (hks : ks ∈ allTypes) (a : Option Addr) (n c : Nat) (w : World) (h : CarsAt w a n ks) :
    Calls Tryz.prog 112 #[.slice a n c] w fun e w' => ∃ a', e = .returned (carV (rankL ks) a' (rankL ks * rankL ks) (rankL ks * rankL ks)) ∧ OwnI w' w.heap.size a' (rankL ks * rankL ks) (rankL ks * rankL ks) (blockL ks) ∧ Ext w w' := by
  obtain ⟨t1, t2, t3, t4⟩ := types_all ks hks
  have HJE := hidP (joined_eq ks hks)
  have H := hidP h
  have L := hidP h.len
  have HK := hidP t1
  have hn4 : n ≤ 4 := by rw [← h.len]; exact t4
  have hx0 := hidP ((Ext.alloc w (.cells #[.int .i64 0, .slice none 0 0] 29)).trans (Ext.alloc _ (.cells #[.int .i64 0, .slice none 0 0] 29)))
  clear h t1 t4
  obtain ⟨R, hR⟩ : ∃ R, R = rankL ks := ⟨_, rfl⟩
  rw [← hR] at t2 t3 HJE ⊢
  have HRR := hidP hR
  clear hR
  go_enter Tryz.func112, Tryz.ntmps112
  go_wp2
  obtain ⟨w0, hw0⟩ : ∃ w0, w0 = (w.alloc (.cells #[.int .i64 0, .slice none 0 0] 29)).alloc (.cells #[.int .i64 0, .slice none 0 0] 29) := ⟨_, rfl⟩
  have HJ0 : Hid (JAt w0 w.heap.size (w.heap.size + 1) 0 none 0 0) := by
    have n0 := new_cell (w := w) (cs := #[.int .i64 0, .slice none 0 0]) (E := 29) (b := w.heap.size) rfl (Ext.alloc _ (.cells #[.int .i64 0, .slice none 0 0] 29))
    have n1 := new_cell (w := w.alloc (.cells #[.int .i64 0, .slice none 0 0] 29)) (cs := #[.int .i64 0, .slice none 0 0]) (E := 29) (b := w.heap.size + 1) (by simp) (Ext.refl _)
    rw [hw0]
    exact ⟨(n0 0).1.trans rfl, (n0 1).1.trans rfl, (n0 0).2, (n0 1).2, (n1 0).1.trans rfl, (n1 1).1.trans rfl, (n1 0).2, (n1 1).2, by omega⟩
  rw [← hw0] at hx0 ⊢
  have hb2 : w.heap.size + 1 < w0.heap.size := World.block_lt_of_cell? w0 _ HJ0.out.r0
  obtain ⟨b2, hb2e⟩ : ∃ b, b = w.heap.size := ⟨_, rfl⟩
  obtain ⟨b3, hb3e⟩ : ∃ b, b = b2 + 1 := ⟨_, rfl⟩
  rw [← hb2e] at HJ0 hb2 ⊢
  rw [← hb3e] at HJ0 hb2 ⊢
  have HB2 := hidP hb2e
  have hb23 : b2 ≤ b3 := by omega
  clear hw0 hb2e hb3e
  go_loopw [14] (fun t wr => ∃ k : Nat, k ≤ n ∧ t = .int .i64 k ∧ Hid (Ext w wr) ∧ Hid (JAt wr b2 b3 (offK ks k) none 0 0)) (fun t _ => n - (intOf t).toNat)
  case atStart => exact ⟨0, Nat.zero_le _, rfl, hx0, HJ0⟩
  case round =>
    clear HJ0 hx0
    obtain ⟨k, hk, rfl, HX, HJ⟩ := hrel
    by_cases hlt : k < n
    · obtain ⟨b, o, a', c', rfl, q0, q1, _⟩ := (H.out.below HX.out).get k hlt
      have HO := hidP (offK_succ ks k (by rw [L.out]; exact hlt))
      have ho := offK_le ks (ks.length - (k + 1)) (k + 1) (by have := L.out; omega)
      rw [show k + 1 + (ks.length - (k + 1)) = ks.length by have := L.out; omega, offK_all, HO.out, ← HRR.out] at ho
      generalize ks.getD k 0 = kk at *
      generalize offK ks k = ok at *
      have hxa := Ext.alloc (wr.setCell ⟨b3, 0, none⟩ (.int .i64 ((ok : Int) + (pRank kk : Nat)))) (.cells #[.int .i64 (pRank kk), .slice a' (pRank kk * pRank kk) c'] 29)
      have HXb : Hid (Ext w (wr.setCell ⟨b3, 0, none⟩ (.int .i64 ((ok : Int) + (pRank kk : Nat))))) := HX.out.setNew _ _ (by have := HB2.out; omega) _
      have HXa := hidP (HXb.out.trans hxa)
      have HJb := hidP ((HJ.out.setR ((ok : Int) + (pRank kk : Nat))).below hxa)
      obtain ⟨o0, o1, of0, of1, r0, r1, rf0, rf1, hne⟩ := HJ.out
      have l3 : b3 < wr.heap.size := World.block_lt_of_cell? wr _ r0
      clear hxa o0 o1 of0 of1 r1 rf1
      generalize pRank kk = rk at *
      go_wp2
      go_roundw
      case rel => exact ⟨k + 1, by omega, by go_num, HXa, by rw [HO.out]; have := HJb.out; show JAt _ _ _ _ _ _ _; simpa using this⟩
      case measure => simp [intOf]; omega
    · obtain rfl : k = n := by omega
      have hof : offK ks k = R := by rw [HRR.out, ← L.out, offK_all]
      rw [hof] at HJ
      have hrr : (R : Int) * R ≤ 16 := by
        have := Nat.mul_le_mul t3 t3
        have h : ((R * R : Nat) : Int) ≤ ((4 * 4 : Nat) : Int) := by exact_mod_cast this
        rw [Int.natCast_mul] at h
        exact h
      have hrr0 : 0 ≤ (R : Int) * R := Int.mul_nonneg (by omega) (by omega)
      have hmk := make_ints ((R : Int) * R) hrr0 (by omega)
      have hmn : ((R : Int) * R).toNat = R * R := by rw [← Int.natCast_mul]; rfl
      rw [hmn] at hmk
      obtain ⟨o0, o1, of0, of1, r0, r1, rf0, rf1, hne⟩ := HJ.out
      have l3 : b3 < wr.heap.size := World.block_lt_of_cell? wr _ r0
      clear o0 o1 of0 of1 hof hmn
      go_wp2
      have hza := Ext.alloc (wr.setCell ⟨b3, 1, none⟩ (.slice (some ⟨wr.heap.size, 0, none⟩) (R * R) (R * R))) (.cells (Array.replicate (R * R) (.int .i64 0)) 3)
      have hzs : (wr.setCell ⟨b3, 1, none⟩ (.slice (some ⟨wr.heap.size, 0, none⟩) (R * R) (R * R))).heap.size = wr.heap.size := by simp [World.setCell]
      have hzm := OwnI.made (wr.setCell ⟨b3, 1, none⟩ (.slice (some ⟨wr.heap.size, 0, none⟩) (R * R) (R * R))) w.heap.size (R * R) (by rw [hzs]; exact HX.out.size) (by unfold maxLen; omega)
      rw [hzs] at hzm
      have hx1 : Ext w ((wr.setCell ⟨b3, 1, none⟩ (.slice (some ⟨wr.heap.size, 0, none⟩) (R * R) (R * R))).alloc (.cells (Array.replicate (R * R) (.int .i64 0)) 3)) := (HX.out.setNew _ _ (by have := HB2.out; omega) _).trans hza
      have hj1 := (HJ.out.setD (some ⟨wr.heap.size, 0, none⟩) (R * R) (R * R)).below hza
      obtain ⟨g, hg⟩ : ∃ g, g = wr.heap.size := ⟨_, rfl⟩
      rw [← hg] at hx1 hj1 hzm l3 ⊢
      obtain ⟨w1, hw1⟩ : ∃ w1, w1 = (wr.setCell ⟨b3, 1, none⟩ (.slice (some ⟨g, 0, none⟩) (R * R) (R * R))).alloc (.cells (Array.replicate (R * R) (.int .i64 0)) 3) := ⟨_, rfl⟩
      rw [← hw1] at hx1 hj1 hzm ⊢
      have n2 : b2 ≠ g := by omega
      have n3 : b3 ≠ g := by omega
      have HX1 := hidP hx1
      have HJ1 := hidP hj1
      have HZ1 := hidP hzm
      have HU0 := hidP (UpdI.start HZ1.out.ints)
      have HG1 : Hid (w.heap.size ≤ g) := by show _ ≤ _; have := HX.out.size; omega
      clear hw1 hx1 hj1 hzm hza hzs hg hmk r0 r1 rf0 rf1 HX HJ
      go_loopw [34, 6] (fun t u wr => ∃ q : Nat, q ≤ k ∧ t = .int .i64 q ∧ u = .int .i64 (offK ks q) ∧ Hid (UpdI w1 wr (some ⟨g, 0, none⟩) (R * R) (applyW (wTo R ks q) (List.replicate (R * R) 0)))) (fun t _ _ => k - (intOf t).toNat)
      case atStart => exact ⟨0, Nat.zero_le _, rfl, rfl, HU0⟩
      case round =>
        clear HU0
        obtain ⟨q, hq, rfl, rfl, HU⟩ := hrel
        by_cases hltq : q < k
        · obtain ⟨ba, oa, a', c', rfl, q0, q1, hI⟩ := H.out.get q hltq
          have hxr : Ext w wr := HU.out.below HX1.out HX1.out.size fun b o e _ => by cases e; exact HG1.out
          have hki : ks.getD q 0 < 12 := HK.out _ (getD_mem (by rw [L.out]; exact hltq))
          have hrk := pRank_pos _ hki
          have HO := hidP (offK_succ ks q (by rw [L.out]; exact hltq))
          have HWS := hidP (wTo_succ R ks q)
          have ho := offK_le ks (ks.length - (q + 1)) (q + 1) (by have := L.out; omega)
          rw [show q + 1 + (ks.length - (q + 1)) = ks.length by have := L.out; omega, offK_all, HO.out, ← HRR.out] at ho
          generalize ks.getD q 0 = kk at *
          generalize offK ks q = ok at *
          have hab : ∀ b o, a' = some ⟨b, o, none⟩ → b < w.heap.size := fun b o e => by
            subst e
            exact hI.block_lt (Nat.mul_pos (by omega) (by omega))
          have HI := hidP (hI.below hxr)
          have hq0 := (hxr.cell (p := ⟨ba, oa + q * 2, none⟩) (World.block_lt_of_cell? w _ q0)).trans q0
          have hq1 := (hxr.cell (p := ⟨ba, oa + q * 2 + 1, none⟩) (World.block_lt_of_cell? w _ q1)).trans q1
          obtain ⟨rk, hrkk⟩ : ∃ r, r = pRank kk := ⟨_, rfl⟩
          rw [← hrkk] at hq0 hq1 HI hrk HO HWS ho
          have HRK := hidP hrkk
          clear q0 q1 hI hrkk
          go_wp2
          have hca := CarAt.new wr _ rfl rk a' (rk * rk) c' 29
          have hxa := Ext.alloc wr (.cells #[.int .i64 rk, .slice a' (rk * rk) c'] 29)
          have hgr : g < wr.heap.size := Nat.lt_of_lt_of_le (HZ1.out.at_base g 0 rfl).2 HU.out.size
          obtain ⟨b8, hb8⟩ : ∃ b, b = wr.heap.size := ⟨_, rfl⟩
          obtain ⟨w2, hw2⟩ : ∃ w, w = wr.alloc (.cells #[.int .i64 rk, .slice a' (rk * rk) c'] 29) := ⟨_, rfl⟩
          rw [← hb8] at hca ⊢
          rw [← hw2] at hca hxa ⊢
          have n8 : b8 ≠ g := by omega
          have HC2 := hidP hca
          have HU2 := hidP (HU.out.ext hxa)
          have HI2 := hidP (HI.out.below hxa)
          have HS2 := hidP (UpdI.start (HU2.out.ints HZ1.out.ints))
          have HUs := hidP hxa.size
          obtain ⟨D, hD⟩ : ∃ D, D = applyW (wTo R ks q) (List.replicate (R * R) 0) := ⟨_, rfl⟩
          rw [← hD] at HU2 HS2
          have HD := hidP hD
          clear hw2 hb8 hca hxa hq0 hq1 hxr HI HU hD
          go_loopw [40] (fun t wr => ∃ i : Nat, i ≤ rk ∧ t = .int .i64 i ∧ Hid (UpdI w2 wr (some ⟨g, 0, none⟩) (R * R) (applyW (wBlk R ok kk i) D))) (fun t _ => rk - (intOf t).toNat)
          case atStart => exact ⟨0, Nat.zero_le _, rfl, HS2⟩
          case round =>
            obtain ⟨i, hi, rfl, HUi⟩ := hrel
            by_cases hlti : i < rk
            · have HBS := hidP (wBlk_succ R ok kk i)
              rw [← HRK.out] at HBS
              obtain ⟨c0, c1⟩ := HC2.out
              have d0 := HUi.out.far c0 n8
              clear c0 c1
              go_wp2
              go_loopw [45] (fun t wr => ∃ j : Nat, j ≤ rk ∧ t = .int .i64 j ∧ Hid (UpdI w2 wr (some ⟨g, 0, none⟩) (R * R) (applyW (wBlk R ok kk i ++ wRow R ok kk i j) D))) (fun t _ => rk - (intOf t).toNat)
              case atStart => exact ⟨0, Nat.zero_le _, rfl, by show UpdI _ _ _ _ _; simpa [wRow] using HUi.out⟩
              case round =>
                obtain ⟨j, hj, rfl, HUj⟩ := hrel
                obtain ⟨c0, c1⟩ := HC2.out
                have d0 := HUj.out.far c0 n8
                have d1 := HUj.out.far c1 n8
                clear c0 c1
                by_cases hltj : j < rk
                · obtain ⟨_, _, _, _, r0, r1, _, _, _⟩ := HJ1.out.upd (HU2.out.trans HUj.out) n2 n3
                  have hIj := HUj.out.others HI2.out (fun b o b' o' e e' => by have := hab b' o' e'; cases e; have := HG1.out; omega)
                  obtain ⟨bx, ox, rfl, qx, lx⟩ := hIj.entry hlti hltj
                  have hpl : (ok + i) * R + ok + j < R * R := by
                    have : (ok + i + 1) * R ≤ R * R := Nat.mul_le_mul_right _ (by omega)
                    rw [Nat.add_mul, Nat.one_mul] at this
                    omega
                  obtain ⟨y0, y1⟩ := HUj.out.cellInt _ hpl
                  rw [Nat.zero_add] at y0 y1
                  have hz : wr.frozen? ⟨g, (ok + i) * R + ok + j, none⟩ = false := by
                    have h1 := (HU2.out.cellInt _ hpl).2
                    have h2 := HZ1.out.unfrozen _ g 0 hpl rfl
                    rw [Nat.zero_add] at h1 h2
                    rw [y1, h1, h2]
                  have hst := HUj.out.store _ hpl (atM (pMat kk) rk i j)
                  rw [Nat.zero_add] at hst
                  have hsn := applyW_snoc (wBlk R ok kk i ++ wRow R ok kk i j) ((ok + i) * R + ok + j, atM (pMat kk) rk i j) D
                  simp only [] at hsn
                  rw [← hsn] at hst
                  clear hsn
                  have HST : Hid (UpdI w2 (wr.setCell ⟨g, (ok + i) * R + ok + j, none⟩ (.int .i64 (atM (pMat kk) rk i j))) (some ⟨g, 0, none⟩) (R * R) (applyW (wBlk R ok kk i ++ wRow R ok kk i (j + 1)) D)) := by
                    show UpdI _ _ _ _ _
                    rw [wRow_succ, ← List.append_assoc, ← HRK.out]
                    exact hst
                  have HP := hidP (placeF (r := rk) (by omega) hlti hltj)
                  have HQ := hidP (placeG (R := R) (o := ok) (i := i) (j := j) t3 (by omega) (by omega))
                  clear hst y1 lx hpl
                  generalize atM (pMat kk) rk i j = x at *
                  go_wp2
                  obtain ⟨k1, k2, k3, k4, k5⟩ := HP.out
                  obtain ⟨l0, l1, l2, l3', l4, l5, l6⟩ := HQ.out
                  (refine walkR_start (fun w' => w' = wr.drew) 23 (by kernel_rfl) ?_; simp only [numbered, List.take_succ_cons, List.take_zero, Nat.zero_add, Nat.reduceAdd, List.length_cons, List.length_nil])
                  (repeat (first | (refine walkR_still (v := ?_) rfl (by decide +kernel) rfl (fun _ _ _ h => h) rfl ?_ ?_; rotate_left; (focus (intro w' hw'; subst hw'; go_simp; all_goals (with_reducible rfl))); simp only [Act.put, List.setIfInBounds_toArray, List.set_cons_zero, List.set_cons_succ]) | (refine walkR_skip rfl (by decide +kernel) rfl (fun _ _ _ h => h) rfl ?_; simp only [Act.put, List.setIfInBounds_toArray, List.set_cons_zero, List.set_cons_succ])))
                  (refine walkR_tail (by rfl) (by kernel_rfl) ?_; simp only [List.drop_succ_cons, List.drop_zero])
                  clear k1 k2 k3 k4 k5 l0 l1 l2 l3' l4 l5
                  go_wp2
                  go_roundw
                  case rel => exact ⟨j + 1, by omega, by go_num, HST.drew⟩
                  case measure => simp [intOf]; omega
                · obtain rfl : j = rk := by omega
                  rw [← HBS.out] at HUj
                  go_wp2
                  go_roundw
                  case rel => exact ⟨i + 1, by omega, by go_num, HUj⟩
                  case measure => simp [intOf]; omega
            · obtain rfl : i = rk := by omega
              obtain ⟨c0, c1⟩ := HC2.out
              have d0 := HUi.out.far c0 n8
              clear c0 c1
              go_wp2
              go_roundw
              case rel =>
                refine ⟨q + 1, by omega, by go_num, by rw [HO.out]; simp, ?_⟩
                have := HU2.out.trans HUi.out
                rw [HWS.out]
                show UpdI _ _ _ _ _
                rw [applyW_append, ← HD.out]
                exact this
              case measure => simp [intOf]; omega
        · obtain rfl : q = k := by omega
          have HFin : Hid (applyW (wTo R ks q) (List.replicate (R * R) 0) = blockL ks) := by show _ = _; rw [← L.out]; exact HJE.out
          rw [HFin.out] at HU
          obtain ⟨o0, o1, of0, of1, r0, r1, rf0, rf1, hne⟩ := HJ1.out.upd HU.out n2 n3
          have l2 : b2 < wr.heap.size := World.block_lt_of_cell? wr _ o0
          have HEnd : Hid (OwnI ((wr.setCell ⟨b2, 0, none⟩ (.int .i64 R)).setCell ⟨b2, 1, none⟩ (.slice (some ⟨g, 0, none⟩) (R * R) (R * R))) w.heap.size (some ⟨g, 0, none⟩) (R * R) (R * R) (blockL ks) ∧ Ext w ((wr.setCell ⟨b2, 0, none⟩ (.int .i64 R)).setCell ⟨b2, 1, none⟩ (.slice (some ⟨g, 0, none⟩) (R * R) (R * R)))) := by
            refine ⟨?_, ?_⟩
            · exact ((HU.out.own HZ1.out).setFar _ 0 _ (Ne.symm n2)).setFar _ 1 _ (Ne.symm n2)
            · have h : Ext w wr := HU.out.below HX1.out HX1.out.size fun b o e _ => by cases e; exact HG1.out
              exact (h.setNew _ _ (by have := HB2.out; omega) _).setNew _ _ (by have := HB2.out; omega) _
          go_wp2
          refine bodyPost_ret (v := carV R (some ⟨g, 0, none⟩) (R * R) (R * R)) (by simp [results, Tryz.results112, go_sem, o0, o1]) rfl ⟨some ⟨g, 0, none⟩, rfl, ?_, ?_⟩
          · exact HEnd.out.1
          · exact HEnd.out.2
end Go.Proofs.YtdhlapppahkjeaaGreatDoor
