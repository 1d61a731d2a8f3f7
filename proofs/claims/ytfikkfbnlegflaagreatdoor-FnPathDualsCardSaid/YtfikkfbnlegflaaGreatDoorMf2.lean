/-
  Paths, plain: a reflection between two times; lowering, and raising as lowering gone back. No program in sight.
  slices.Insert of one step ahead of an owned slice of steps.
  slices.Insert of one step ahead of a slice of steps.
  Paths put together by the reference: l9Add, l9Join.
-/
import Derived.Test.YtfikkfbnlegflaaGreatDoorMf1
import Derived.Shelf.Spec.SlicesInsert
import Derived.Lib.AppendZerosOnto
import Derived.Laws.NewBlocks
import Derived.Deep.WholeRow
namespace Go.Proofs.YtfikkfbnlegflaaGreatDoor
open Go.RowKit

/-- steps, read, a way that is nil having no room -/
structure StepsAt (w : World) (a : Option Addr) (n : Nat) (xs : List Stp) : Prop where
  len : xs.length = n
  get : ∀ k, k < n → ∃ b o aw cw, a = some ⟨b, o, none⟩ ∧ w.cell? ⟨b, o + k * 2, none⟩ = some (.slice aw (wayAt xs k).length cw) ∧ w.cell? ⟨b, o + k * 2 + 1, none⟩ = some (.int .i64 (lenAt xs k)) ∧
    IntsAt w aw (wayAt xs k).length (wayAt xs k) ∧ (wayAt xs k).length ≤ 9223372036854775807 ∧ (aw = none → cw = 0)
theorem StepsAt.terms {w : World} {a : Option Addr} {n : Nat} {xs : List Stp} (h : StepsAt w a n xs) : TermsAt w a n xs :=
  ⟨h.len, fun i hi => by
    obtain ⟨b, o, aw, cw, e, h1, h2, h3, h4, _⟩ := h.get i hi
    exact ⟨b, o, aw, cw, e, h1, h2, h3, h4⟩⟩
theorem StepsAt.below {w w' : World} {a : Option Addr} {n : Nat} {xs : List Stp} (h : StepsAt w a n xs) (hb : Ext w w') : StepsAt w' a n xs := by
  refine ⟨h.len, fun i hi => ?_⟩
  obtain ⟨b, o, aw, cw, rfl, h1, h2, h3, h4, h5⟩ := h.get i hi
  have hl := World.block_lt_of_cell? w _ h1
  exact ⟨b, o, aw, cw, rfl, (hb.cell (p := ⟨b, o + i * 2, none⟩) hl).trans h1, (hb.cell (p := ⟨b, o + i * 2 + 1, none⟩) hl).trans h2, h3.below hb, h4, h5⟩
theorem StepsAt.way {w : World} {a : Option Addr} {n : Nat} {xs : List Stp} (h : StepsAt w a n xs) (k : Nat) (hk : k < n) :
    ∃ b o aw cw, ∃ W : List Int, ∃ L : Int, a = some ⟨b, o, none⟩ ∧ Hid (wayAt xs k = W) ∧ Hid (lenAt xs k = L) ∧ W.length ≤ 9223372036854775807 ∧ Hid (aw = none → cw = 0) ∧
      ∀ w', Ext w w' → w'.cell? ⟨b, o + k * 2, none⟩ = some (.slice aw W.length cw) ∧ w'.cell? ⟨b, o + k * 2 + 1, none⟩ = some (.int .i64 L) ∧ IntsAt w' aw W.length W := by
  obtain ⟨b, o, aw, cw, e, h1, h2, h3, h4, h5⟩ := h.get k hk
  refine ⟨b, o, aw, cw, wayAt xs k, lenAt xs k, e, rfl, rfl, h4, h5, fun w' hx => ?_⟩
  have hl := World.block_lt_of_cell? w _ h1
  exact ⟨(hx.cell (p := ⟨b, o + k * 2, none⟩) hl).trans h1, (hx.cell (p := ⟨b, o + k * 2 + 1, none⟩) hl).trans h2, h3.below hx⟩
theorem OwnK.stepCell {w : World} {B U : Nat} {a : Option Addr} {n c : Nat} {hs : List Hdr} {xs : List Stp} (h : OwnK stepK w B U a n c hs xs) (k : Nat) (hk : k < n) :
    ∃ g aw cw, a = some ⟨g, 0, none⟩ ∧ hs.getD k (none, 0) = (aw, cw) ∧ w.cell? ⟨g, k * 2, none⟩ = some (.slice aw (wayAt xs k).length cw) ∧ w.cell? ⟨g, k * 2 + 1, none⟩ = some (.int .i64 (lenAt xs k)) ∧
    w.frozen? ⟨g, k * 2, none⟩ = false ∧ w.frozen? ⟨g, k * 2 + 1, none⟩ = false ∧ OwnI w B aw (wayAt xs k).length cw (wayAt xs k) := by
  obtain ⟨g, rfl, hc, hf⟩ := h.cell k 0 hk (by decide)
  obtain ⟨g', e, hc', hf'⟩ := h.cell k 1 hk (by decide)
  simp only [Option.some.injEq, Addr.mk.injEq, and_true] at e
  subst e
  rw [show k * stepK.size + 0 = k * 2 from rfl] at hc hf
  rw [show k * stepK.size + 1 = k * 2 + 1 from rfl] at hc' hf'
  exact ⟨g, (hs.getD k (none, 0)).1, (hs.getD k (none, 0)).2, rfl, rfl, hc, hc', hf, hf', h.each k hk⟩
theorem OwnK.stepsAt {w : World} {B U : Nat} {a : Option Addr} {n c : Nat} {hs : List Hdr} {xs : List Stp} (h : OwnK stepK w B U a n c hs xs) : StepsAt w a n xs := by
  refine ⟨h.xl, fun k hk => ?_⟩
  obtain ⟨g, aw, cw, rfl, _, h1, h2, _, _, h5⟩ := h.stepCell k hk
  exact ⟨g, 0, aw, cw, rfl, by rw [Nat.zero_add]; exact h1, by rw [Nat.zero_add]; exact h2, h5.ints, h5.small, h5.nil_cap⟩
theorem addS_at {xs : List Stp} {m : Nat} (h : xs.length = m + 1) (s : Stp) (hs : s.2 ≠ 0) : addS xs s = if wayAt xs m = s.1 then xs.set m (wayAt xs m, lenAt xs m + s.2) else xs ++ [s] := by
  rcases snoc_cases xs with rfl | ⟨o, l, rfl⟩
  · simp at h
  · obtain rfl : o.length = m := by simpa using h
    rw [addS_snoc _ _ _ hs, wayAt_snoc, lenAt_snoc]
    split
    · simp
    · rfl
theorem addS_first {xs : List Stp} (h : xs.length = 0) (s : Stp) (hs : s.2 ≠ 0) : addS xs s = xs ++ [s] := by
  obtain rfl := List.eq_nil_of_length_eq_zero h
  rw [addS_nil _ hs, List.nil_append]
theorem Tryz.info69 : (Tryz.prog.info? 69).map (fun i => (i.zero, i.size, i.bytes)) = some (some (.agg #[.slice none 0 0, .int .i64 0]), 2, 32) := by kernel_rfl
/-- what is new is apart from all that was -/
theorem OwnK.new_apart {w w' : World} {B U B' : Nat} {a a' : Option Addr} {n c n' c' : Nat} {hs : List Hdr} {xs : List Stp} {ys : List Int} (h : OwnK stepK w B U a n c hs xs) (hi : OwnI w' B' a' n' c' ys) (hB : w.heap.size ≤ B') :
    (∀ i, i < n → Apart (hs.getD i (none, 0)).1 a') ∧ Apart a a' :=
  ⟨fun i hi' b o b' o' e e' => by have := ((h.each i hi').at_base b o e).2; have := (hi.at_base b' o' e').1; omega,
   fun b o b' o' e e' => by have := (h.base_lt b o e).2; have := (hi.at_base b' o' e').1; omega⟩

set_option maxRecDepth 100000 in
set_option maxHeartbeats 4000000 in
theorem l9Add_any (B : Nat) (ao : Option Addr) (m co : Nat) (hs : List Hdr) (xs : List Stp) (aw : Option Addr) (cw : Nat) (W : List Int) (L : Int) (w : World) (ho : OwnK stepK w B w.heap.size ao m co hs xs)
    (hway : IntsAt w aw W.length W) (hnil : aw = none → cw = 0) (hk : W.length ≤ 1000000) (hm : m ≤ 1000000) (hB : B ≤ w.heap.size) (hL0 : 0 ≤ L) (hL1 : L ≤ 1000000000000) (hls : ∀ i, i < m → 0 ≤ lenAt xs i ∧ lenAt xs i ≤ 1000000000000) :
    Calls Tryz.prog 102 #[.slice ao m co, .slice aw W.length cw, .int .i64 L] w fun e w' => ∃ a' n' c' hs', e = .returned (.slice a' n' c') ∧ OwnK stepK w' B w'.heap.size a' n' c' hs' (addS xs (W, L)) ∧ Below B w w' := by
  have HO := hidP ho
  have HWy := hidP hway
  have HN := hidP hnil
  have hxl := ho.xl
  have HB := hidP hB
  clear ho hway hnil hB
  by_cases hL : L = 0
  · subst hL
    have HS := hidP (addS_zero xs (W, 0) rfl)
    clear hxl
    go_enter Tryz.func102, Tryz.ntmps102
    go_wp2
    go_ret
    exact ⟨_, _, _, hs, rfl, by rw [HS.out]; exact HO.out, Below.refl _ _⟩
  · have hL' : (L == 0) = false := by simpa using hL
    have HI := hidP (fun w' (hx : Ext w w') => l1Ints_any aw W.length cw W w' (HWy.out.below hx) HN.out (by omega))
    -- the way behind: the step is new
    have hnew : ∀ (w0 : World), Ext w w0 → addS xs (W, L) = xs ++ [(W, L)] → True := fun _ _ _ => trivial
    clear hnew
    have hLne : (W, L).2 ≠ 0 := hL
    cases m with
    | zero =>
      have HS := hidP (addS_first hxl (W, L) hLne)
      clear hxl hL hLne hls
      go_enter Tryz.func102, Tryz.ntmps102
      go_wp2_with fail
      refine (HI.out _ (Ext.refl _)).mono ?_
      rintro e w1 ⟨a1, c1, rfl, ho1, hx1⟩
      have HX2 := hidP (hx1.trans (Ext.alloc w1 (.cells #[.slice a1 W.length c1, .int .i64 L] 69)))
      have HO2 := hidP (HO.out.below HX2.out)
      have HI2 := hidP ((ho1.below (Ext.alloc w1 (.cells #[.slice a1 W.length c1, .int .i64 L] 69))))
      have HAp := hidP (HO.out.new_apart ho1 (Nat.le_refl _))
      have HCe : Hid (∀ j, j < stepK.size → (w1.alloc (.cells #[.slice a1 W.length c1, .int .i64 L] 69)).cell? ⟨w1.heap.size, j, none⟩ = (stepK.cells a1 c1 (W, L))[j]?) := fun j _ => (cell_top _ _ _ _ _ rfl).trans (by simp [stepK])
      clear ho1 hx1 HI
      go_wp2_with (at_builtin; refine wpList_append_elem2 stepK 28 (.agg #[.slice none 0 0, .int .i64 0]) 32 rfl (.tmp 39) (.tmp 44) rfl Tryz.underlying28 Tryz.info69 rfl (by omega) B _ ao 0 co hs xs rfl HO2.out w1.heap.size 1 (a1, c1) (W, L) rfl HCe.out (HI2.out.base HB.out) HAp.out.1 HAp.out.2 (by omega) (Nat.le_trans HB.out HX2.out.size) ?_; intro a3 c3 w3 ho3 hg3 hn3; have HX3 := hidP (HO2.out.below_grown hg3 (show Below B w _ from Below.mono HX2.out HB.out) (Nat.le_trans HB.out HX2.out.size)); have HO3 := hidP ho3; clear ho3 hg3 hn3)
      go_ret
      exact ⟨_, _, _, _, rfl, by rw [HS.out]; exact HO3.out, HX3.out⟩
    | succ m =>
      have HS := hidP (addS_at hxl (W, L) hLne)
      obtain ⟨g, al, cl, rfl, hh, q1, q2, r1, r2, hol⟩ := HO.out.stepCell m (by omega)
      have hl2 := hls m (by omega)
      have hw64 : (wayAt xs m).length ≤ 9223372036854775807 := hol.small
      have HSame := hidP (l1Same_any al aw _ W.length cl cw _ W w hol.ints HWy.out hw64 (by omega))
      have HSt := hidP (fun w' (h : OwnK stepK w' B w.heap.size (some ⟨g, 0, none⟩) (m + 1) co hs xs) => h.stored m 1 (by omega) (by decide) (.int .i64 (lenAt xs m + L)) (wayAt xs m, lenAt xs m + L) rfl rfl rfl)
      obtain ⟨V, hV⟩ : ∃ V, V = wayAt xs m := ⟨_, rfl⟩
      obtain ⟨M, hM⟩ : ∃ M, M = lenAt xs m := ⟨_, rfl⟩
      rw [← hV, ← hM] at HS HSt
      rw [← hV] at HSame q1 hol hw64
      rw [← hM] at q2 hl2
      have hmi : 0 ≤ (m : Int) := by omega
      have hgB := hidP (HO.out.base_lt g 0 rfl)
      clear hxl hL hLne hls hh hV hM hol
      cases hb : (V == W)
      · rw [hb] at HSame
        have HS2 : Hid (addS xs (W, L) = xs ++ [(W, L)]) := by
          show _ = _
          rw [HS.out, if_neg (by simpa using hb)]
        clear hb HS HSt
        go_enter Tryz.func102, Tryz.ntmps102
        go_wp2_with fail
        refine HSame.out.mono ?_
        rintro e w0 ⟨rfl, q, rfl⟩
        go_wp2_with fail
        refine (HI.out _ (Ext.drewN w q)).mono ?_
        rintro e w1 ⟨a1, c1, rfl, ho1, hx1⟩
        have HX2 := hidP (((Ext.drewN w q).trans hx1).trans (Ext.alloc w1 (.cells #[.slice a1 W.length c1, .int .i64 L] 69)))
        have HO2 := hidP (HO.out.below HX2.out)
        have HI2 := hidP ((ho1.below (Ext.alloc w1 (.cells #[.slice a1 W.length c1, .int .i64 L] 69))))
        have HAp := hidP (HO.out.new_apart ho1 (Nat.le_refl _))
        have HCe : Hid (∀ j, j < stepK.size → (w1.alloc (.cells #[.slice a1 W.length c1, .int .i64 L] 69)).cell? ⟨w1.heap.size, j, none⟩ = (stepK.cells a1 c1 (W, L))[j]?) := fun j _ => (cell_top _ _ _ _ _ rfl).trans (by simp [stepK])
        clear ho1 hx1 HI q1 q2 r1 r2
        go_wp2_with (at_builtin; refine wpList_append_elem2 stepK 28 (.agg #[.slice none 0 0, .int .i64 0]) 32 rfl (.tmp 39) (.tmp 44) rfl Tryz.underlying28 Tryz.info69 rfl (by omega) B _ (some ⟨g, 0, none⟩) (m + 1) co hs xs rfl HO2.out w1.heap.size 1 (a1, c1) (W, L) rfl HCe.out (HI2.out.base HB.out) HAp.out.1 HAp.out.2 (by omega) (Nat.le_trans HB.out HX2.out.size) ?_; intro a3 c3 w3 ho3 hg3 hn3; have HX3 := hidP (HO2.out.below_grown hg3 (show Below B w _ from Below.mono HX2.out HB.out) (Nat.le_trans HB.out HX2.out.size)); have HO3 := hidP ho3; clear ho3 hg3 hn3)
        go_ret
        exact ⟨_, _, _, _, rfl, by rw [HS2.out]; exact HO3.out, HX3.out⟩
      · rw [hb] at HSame
        have HS2 : Hid (addS xs (W, L) = xs.set m (V, M + L)) := by
          show _ = _
          rw [HS.out, if_pos (by simpa using hb)]
        have hwr : IntKind.i64.wrap (M + L) = M + L := wrap_in (by omega) (by omega)
        clear hb HS HI
        go_enter Tryz.func102, Tryz.ntmps102
        go_wp2_with fail
        refine HSame.out.mono ?_
        rintro e w0 ⟨rfl, q, rfl⟩
        go_wp2
        go_ret
        refine ⟨_, _, _, hs, rfl, ?_, ?_⟩
        · rw [HS2.out]
          have := HSt.out _ (HO.out.below (Ext.drewN w q))
          refine OwnK.weaken this (Nat.le_refl _) ?_
          simp [World.setCell]
        · exact Below.setCell (p := ⟨g, m * 2 + 1, none⟩) (Below.mono (Ext.drewN w q) HB.out) hgB.out.1 _
/-! ### l9Join -/
def joinTo (o p : List Stp) (k : Nat) : List Stp := (p.take k).foldl addS o
theorem joinTo_succ (o p : List Stp) {k : Nat} (h : k < p.length) : joinTo o p (k + 1) = addS (joinTo o p k) (wayAt p k, lenAt p k) := by
  unfold joinTo
  rw [List.take_succ_eq_append_getElem h, List.foldl_append]
  simp [wayAt, lenAt, List.getD_eq_getElem?_getD, h]
theorem joinS_to (p : List Stp) : joinS p = joinTo [] p p.length := by
  unfold joinS joinTo
  rw [List.take_length]
theorem addS_length (o : List Stp) (s : Stp) : (addS o s).length ≤ o.length + 1 := by
  by_cases h : s.2 = 0
  · rw [addS_zero _ _ h]; omega
  · rcases snoc_cases o with rfl | ⟨o, l, rfl⟩
    · rw [addS_nil _ h]; simp
    · rw [addS_snoc _ _ _ h]
      split <;> simp
theorem joinTo_length (o p : List Stp) : ∀ k, (joinTo o p k).length ≤ o.length + k
  | 0 => by simp [joinTo]
  | k + 1 => by
    by_cases h : k < p.length
    · rw [joinTo_succ _ _ h]
      have := addS_length (joinTo o p k) (wayAt p k, lenAt p k)
      have := joinTo_length o p k
      omega
    · have : joinTo o p (k + 1) = joinTo o p k := by unfold joinTo; rw [List.take_of_length_le (by omega), List.take_of_length_le (by omega)]
      rw [this]
      have := joinTo_length o p k
      omega
theorem addS_lens {o : List Stp} {s : Stp} {D C : Int} (ho : ∀ i, i < o.length → 0 ≤ lenAt o i ∧ lenAt o i ≤ D) (hs : 0 ≤ s.2 ∧ s.2 ≤ C) (hD : 0 ≤ D) : ∀ i, i < (addS o s).length → 0 ≤ lenAt (addS o s) i ∧ lenAt (addS o s) i ≤ D + C := by
  have hC : 0 ≤ C := by omega
  by_cases h : s.2 = 0
  · rw [addS_zero _ _ h]
    intro i hi
    have := ho i hi
    omega
  · rcases Nat.eq_zero_or_pos o.length with h0 | h0
    · rw [addS_first h0 _ h]
      obtain rfl := List.eq_nil_of_length_eq_zero h0
      intro i hi
      obtain rfl : i = 0 := by simp at hi; omega
      show 0 ≤ s.2 ∧ s.2 ≤ _
      omega
    · obtain ⟨m, hm⟩ : ∃ m, o.length = m + 1 := ⟨o.length - 1, by omega⟩
      rw [addS_at hm _ h]
      intro i hi
      split at hi <;> split
      · rw [List.length_set] at hi
        unfold lenAt
        rw [OwnK.getD_set _ _ _ _ _ (by omega)]
        split
        · have := ho m (by omega)
          show 0 ≤ lenAt o m + s.2 ∧ lenAt o m + s.2 ≤ _
          omega
        · have := ho i hi
          unfold lenAt at this
          omega
      · contradiction
      · contradiction
      · rw [List.length_append, List.length_cons, List.length_nil] at hi
        by_cases hi2 : i < o.length
        · rw [lenAt_app _ _ _ hi2]
          have := ho i hi2
          omega
        · obtain rfl : i = o.length := by omega
          rw [lenAt_snoc]
          omega
theorem joinTo_lens {o p : List Stp} {D C : Int} (ho : ∀ i, i < o.length → 0 ≤ lenAt o i ∧ lenAt o i ≤ D) (hp : ∀ i, i < p.length → 0 ≤ lenAt p i ∧ lenAt p i ≤ C) : ∀ k, k ≤ p.length → 0 ≤ D → 0 ≤ C → ∀ i, i < (joinTo o p k).length → 0 ≤ lenAt (joinTo o p k) i ∧ lenAt (joinTo o p k) i ≤ D + C * k
  | 0, _, _, _ => by simpa [joinTo] using ho
  | k + 1, hk, hD, hC => by
    rw [joinTo_succ _ _ (by omega)]
    have h1 := joinTo_lens ho hp k (by omega) hD hC
    have hCk : 0 ≤ C * k := Int.mul_nonneg hC (by omega)
    intro i hi
    have := addS_lens (s := (wayAt p k, lenAt p k)) (C := C) h1 (hp k (by omega)) (by omega) i hi
    rw [show ((k + 1 : Nat) : Int) = (k : Int) + 1 from rfl, Int.mul_add, Int.mul_one]
    omega

end Go.Proofs.YtfikkfbnlegflaaGreatDoor

set_option linter.unusedVariables false
set_option linter.unusedSimpArgs false
namespace Go.Proofs.YtfikkfbnlegflaaGreatDoor
open Go.RowKit Go.Shelf

/-- copy, elements of k cells -/
theorem run_copy_cellsK {P : Program} (w : World) (dT sT ty elem : TypeId) (b o dLen dCap : Nat) (a : Addr) (sLen sCap : Nat) (cs : List Value) (k : Nat)
    (hu : P.underlying dT = some (.slice elem)) (hs : (P.info? elem).map (·.size) = some k) (hn : cs.length = Nat.min sLen dLen * k)
    (hsrc : ∀ j v, cs[j]? = some v → w.cell? (a.add j) = some v) (hc : ∀ j, j < cs.length → (w.cell? ⟨b, o + j, none⟩).isSome = true) (hf : ∀ j, j < cs.length → w.frozen? ⟨b, o + j, none⟩ = false) (h1 : ∀ v ∈ cs, v.oneCell' = true) :
    (Builtin.copy_ #[dT, sT] ty #[.slice (some ⟨b, o, none⟩) dLen dCap, .slice (some a) sLen sCap]).run P w = .ok (goInt (Nat.min sLen dLen)) (w.setCells b o cs) := by
  have hl := run_loadCells_list (P := P) w a cs hsrc
  have hst := run_storeCells_cells (P := P) b o cs 0 w (by simpa using hc) (by simpa using hf) h1
  cases hq : P.info? elem with
  | none => simp [hq] at hs
  | some i =>
    have hi : i.size = k := by simpa [hq] using hs
    simp [Builtin.copy_, run_underlying hu, Builtin.lenOf, Builtin.firstCells, sizeOf, typeInfo, hq, hi, ← hn, hl, hst]

set_option maxHeartbeats 4000000 in
set_option maxRecDepth 100000 in
theorem insert_room (b n c vb vc : Nat) (cs vs : List Value) (w : World) (hn : 0 < n) (hroom : n + 1 ≤ c) (hc63 : c ≤ 9223372036854775807) (hvb : vb ≠ b)
    (hcl : cs.length = n * 2) (hvl : vs.length = 2)
    (hcs : ∀ j v, cs[j]? = some v → w.cell? ⟨b, j, none⟩ = some v) (hsp : ∀ j, j < (n + 1) * 2 → (w.cell? ⟨b, j, none⟩).isSome = true) (hfz : ∀ j, j < (n + 1) * 2 → w.frozen? ⟨b, j, none⟩ = false)
    (hvs : ∀ j v, vs[j]? = some v → w.cell? ⟨vb, j, none⟩ = some v) (h1c : ∀ v ∈ cs, v.oneCell' = true) (h1v : ∀ v ∈ vs, v.oneCell' = true)
    (tA tB : TypeId) (kA kB : Nat) (hsa : w.shape? vb = some (tA, kA)) (hsb : w.shape? b = some (tB, kB)) (hkB : kB ≠ 0) (hfa : w.frozen? ⟨vb, 0, none⟩ = false) (hfe : w.frozen? ⟨vb, kA, none⟩ = false) :
    Calls Tryz.prog 90 #[.slice (some ⟨b, 0, none⟩) n c, .int .i64 0, .slice (some ⟨vb, 0, none⟩) 1 vc] w fun e w' =>
      e = .returned (.slice (some ⟨b, 0, none⟩) (n + 1) c) ∧ w' = (w.drew.setCells b 2 cs).setCells b 0 vs := by
  obtain ⟨i0, hi0, hz0, hz1, hz2⟩ := info_parts Tryz.info69
  have hsz : (Tryz.prog.info? 69).map (·.size) = some 2 := by rw [hi0]; simp [hz1]
  have hzz : ∀ w, (Go.sizeOf 69).run Tryz.prog w = .ok 2 w := fun w => by simp [Go.sizeOf, typeInfo, hi0, hz1]
  have hov : ∀ lb cb, (callFunc 126 #[.slice (some ⟨vb, 0, none⟩) 1 vc, .slice (some ⟨b, 2, none⟩) lb cb]).run Tryz.prog w = .ok (.value (.bool false)) w := fun lb cb => by
    rw [run_callFunc_extern Tryz.func126 (by kernel_rfl) (by kernel_rfl) (by kernel_rfl) (e := Extern.SlicesOverlaps.overlaps #[28, 28] #[4]) (by kernel_rfl),
      Lib.run_overlaps_apart w 28 4 69 Tryz.underlying28 2 hzz ⟨vb, 0, none⟩ ⟨b, 2, none⟩ 1 vc lb cb hvb tA tB kA kB hsa hsb hkB hfa hfe]
    rfl
  have hn0 : ¬ ((0 : Int) = (n : Int)) := by omega
  have hw1 : IntKind.i64.wrap ((n : Int) + 1) = (n : Int) + 1 := by rw [IntKind.wrap_i64]; omega
  have hw2 : ¬ ((c : Int) < (n : Int) + 1) := by omega
  have hb1 : (0 : Int) ≤ (n : Int) + 1 := by omega
  have hb2 : (n : Int) + 1 ≤ (c : Int) := by omega
  have htn : ((n : Int) + 1).toNat = n + 1 := by omega
  have mixed : Tryz.prog.follows .mixedOrders = true := by kernel_rfl
  have hwo : IntKind.i64.wrap (1 : Int) = 1 := by rw [IntKind.wrap_i64]; omega
  have hb3 : ¬ (c = 1) := by omega
  have hb4 : ¬ (c = 0) := by omega
  have hb5 : (1 : Int) ≤ (n : Int) + 1 := by omega
  have hcp1 : ∀ ty dc sc, (Builtin.copy_ #[28, 28] ty #[.slice (some ⟨b, 2, none⟩) n dc, .slice (some ⟨b, 0, none⟩) (n + 1) sc]).run Tryz.prog w.drew = .ok (goInt n) (w.drew.setCells b 2 cs) := fun ty dc sc => by
    have hm : Nat.min (n + 1) n = n := by simp only [Nat.min_def]; split <;> omega
    have := run_copy_cellsK (P := Tryz.prog) w.drew 28 28 ty 69 b 2 n dc ⟨b, 0, none⟩ (n + 1) sc cs 2 Tryz.underlying28 hsz (by rw [hm]; exact hcl)
      (fun j v hj => by rw [Addr.add_lit, Nat.zero_add]; exact hcs j v hj) (fun j hj => hsp _ (by omega)) (fun j hj => hfz _ (by omega)) h1c
    rwa [hm] at this
  obtain ⟨W1, hW1⟩ : ∃ W1, W1 = w.drew.setCells b 2 cs := ⟨_, rfl⟩
  have hsp1 : ∀ k, k < (n + 1) * 2 → (W1.cell? ⟨b, k, none⟩).isSome = true := fun k hk => by
    rw [hW1]
    exact isSome_setCells b cs 2 w.drew (fun j hj => hsp (2 + j) (by omega)) k (hsp k hk)
  have hcp2 : ∀ (W : World), (∀ x, W.cell? x = W1.cell? x) → (∀ x, W.frozen? x = W1.frozen? x) → ∀ ty dc, (Builtin.copy_ #[28, 28] ty #[.slice (some ⟨b, 0, none⟩) (n + 1) dc, .slice (some ⟨vb, 0, none⟩) 1 vc]).run Tryz.prog W = .ok (goInt 1) (W.setCells b 0 vs) := fun W hWc hWf ty dc => by
    have hm : Nat.min 1 (n + 1) = 1 := by simp only [Nat.min_def]; split <;> omega
    have := run_copy_cellsK (P := Tryz.prog) W 28 28 ty 69 b 0 (n + 1) dc ⟨vb, 0, none⟩ 1 vc vs 2 Tryz.underlying28 hsz (by rw [hm, hvl])
      (fun j v hj => by
        rw [Addr.add_lit, hWc, hW1, World.cell?_setCells_out b _ _ _ _ (fun h _ => absurd h hvb), Nat.zero_add]
        exact hvs j v hj)
      (fun j hj => by rw [hWc]; exact hsp1 _ (by omega)) (fun j hj => by rw [hWf, hW1, World.frozen?_setCells]; exact hfz _ (by omega)) h1v
    rwa [hm] at this
  rw [← hW1] at hcp1
  clear hcs hsp hfz hvs h1c h1v hsa hsb hfa hfe hi0 hz0 hz1 hz2 hsz hsp1
  go_enter Tryz.func90, Tryz.ntmps90
  go_wp2_with (simp only [hov])
  go_region_law_o (refine step_copy_runI rfl _ _ 28 28 rfl _ _ (by simp [Act.eval, Act.put]) (by simp [Act.eval, Act.put]) (hcp1 _ _ _) ?_)
  go_wp2_with (at_builtin; refine wpList_copy_runI _ rfl _ _ 28 28 rfl _ _ rfl rfl (hcp2 _ (fun _ => rfl) (fun _ => rfl) _ _) ?_)
  go_ret
  first | exact ⟨rfl, rfl⟩ | exact ⟨rfl, by rw [hW1]⟩

set_option maxHeartbeats 4000000 in
set_option maxRecDepth 100000 in
theorem insert_grow (b n c vb vc : Nat) (cs vs : List Value) (w : World) (hn : 0 < n) (hnc : n ≤ c) (hroom : c < n + 1) (hbig : (n + 1) * 32 ≤ 140737488355328)
    (hcl : cs.length = n * 2) (hvl : vs.length = 2)
    (hcs : ∀ j v, cs[j]? = some v → w.cell? ⟨b, j, none⟩ = some v)
    (hvs : ∀ j v, vs[j]? = some v → w.cell? ⟨vb, j, none⟩ = some v) (h1c : ∀ v ∈ cs, v.oneCell' = true) (h1v : ∀ v ∈ vs, v.oneCell' = true) :
    Calls Tryz.prog 90 #[.slice (some ⟨b, 0, none⟩) n c, .int .i64 0, .slice (some ⟨vb, 0, none⟩) 1 vc] w fun e w' =>
      ∃ G ROW, n + 1 ≤ G ∧ G ≤ maxLen ∧ ROW.size = G * 2 ∧ e = .returned (.slice (some ⟨w.heap.size, 0, none⟩) (n + 1) G) ∧
      w' = (((w.alloc (.cells ROW 69)).drew.setCells w.heap.size 0 vs).drew).setCells w.heap.size 2 cs := by
  obtain ⟨i0, hi0, hz0, hzs, hzb⟩ := info_parts Tryz.info69
  have hsz : (Tryz.prog.info? 69).map (·.size) = some 2 := by rw [hi0]; simp [hzs]
  have hzz : ∀ w, (Go.sizeOf 69).run Tryz.prog w = .ok 2 w := fun w => by simp [Go.sizeOf, typeInfo, hi0, hzs]
  have mixed : Tryz.prog.follows .mixedOrders = true := by kernel_rfl
  have hn0 : ¬ ((0 : Int) = (n : Int)) := by omega
  have hw1 : IntKind.i64.wrap ((n : Int) + 1) = (n : Int) + 1 := by rw [IntKind.wrap_i64]; omega
  have hwo : IntKind.i64.wrap (1 : Int) = 1 := by rw [IntKind.wrap_i64]; omega
  have hz3 : (c : Int) < (n : Int) + 1 := by omega
  have hbw : b < w.heap.size := block_lt_of_cell (hcs 0 _ (List.getElem?_eq_getElem (by omega)))
  have hvw : vb < w.heap.size := block_lt_of_cell (hvs 0 _ (List.getElem?_eq_getElem (by omega)))
  have hold : (Builtin.firstCells i0.size 0 (.slice (some ⟨b, 0, none⟩) 0 c)).run Tryz.prog w.drew = .ok ([] : List Value).toArray w.drew :=
    run_firstCells_some w.drew i0.size 0 ⟨b, 0, none⟩ 0 c [] (by simp) (fun j v hj => by simp at hj)
  have hkk : (n : Int) + 1 = ((n + 1 : Nat) : Int) := by omega
  have hrz : ∀ ty, (Builtin.append_ #[28, 3] ty #[.slice (some ⟨b, 0, none⟩) 0 c, .int .i64 ((n : Int) + 1)]).run Tryz.prog w =
      .ok (.slice (some ⟨w.heap.size, 0, none⟩) (n + 1) (grownCap w (n + 1) c 69)) (w.drew.alloc (.cells (([] : List Value).toArray ++ Builtin.zeroCells (Value.agg #[.slice none 0 0, .int .i64 0]).cells (n + 1) ++ Builtin.zeroCells (Value.agg #[.slice none 0 0, .int .i64 0]).cells (grownCap w (n + 1) c 69 - (n + 1))) 69)) := fun ty => by
    have h := Lib.run_append_grow_zeros w 28 3 ty 69 i0 _ .i64 .i64 Tryz.underlying28 Tryz.underlying3 hi0 hz0 (some ⟨b, 0, none⟩) 0 c [] hold (n + 1) (by omega) (by omega) (by omega) (by omega) (by rw [hzb]; omega) (by rw [hzb, Nat.zero_add]; exact growslice_fits hroom hbig)
    rw [Nat.zero_add] at h
    rw [hkk]
    exact h
  obtain ⟨G, hG⟩ : ∃ G, G = grownCap w (n + 1) c 69 := ⟨_, rfl⟩
  obtain ⟨ROW, hROW⟩ : ∃ ROW : Array Value, ROW = ([] : List Value).toArray ++ Builtin.zeroCells (Value.agg #[.slice none 0 0, .int .i64 0]).cells (n + 1) ++ Builtin.zeroCells (Value.agg #[.slice none 0 0, .int .i64 0]).cells (G - (n + 1)) := ⟨_, rfl⟩
  rw [← hG] at hrz
  rw [← hROW] at hrz
  have hGn : n + 1 ≤ G := by rw [hG]; exact grownCap_ge w _ _ _
  have hG63 : G ≤ maxLen := by
    rw [hG]; exact grownCap_le_maxLen w (n + 1) c 69 (by unfold maxLen; omega)
  have hRl : ROW.size = G * 2 := by
    rw [hROW]
    simp [Builtin.zeroCells, Value.cells]
    omega
  obtain ⟨W1, hW1⟩ : ∃ W1, W1 = w.drew.alloc (.cells ROW 69) := ⟨_, rfl⟩
  rw [← hW1] at hrz
  have hN : ∀ j, j < (n + 1) * 2 → (W1.cell? ⟨w.heap.size, j, none⟩).isSome = true := fun j hj => by
    rw [hW1, World.cell?_alloc_at (w := w.drew) ROW _ w.heap.size j rfl, Array.getElem?_eq_getElem (by omega)]; rfl
  have hNf : ∀ j, W1.frozen? ⟨w.heap.size, j, none⟩ = false := fun j => by rw [hW1]; exact World.frozen?_alloc_at (w := w.drew) ROW _ w.heap.size j rfl
  have hOb : ∀ j v, w.cell? ⟨b, j, none⟩ = some v → W1.cell? ⟨b, j, none⟩ = some v := fun j v h => by rw [hW1, World.cell?_alloc_past (w := w.drew) _ b j hbw]; exact h
  have hOv : ∀ j v, w.cell? ⟨vb, j, none⟩ = some v → W1.cell? ⟨vb, j, none⟩ = some v := fun j v h => by rw [hW1, World.cell?_alloc_past (w := w.drew) _ vb j hvw]; exact h
  have hcpA : ∀ (W : World), (∀ x, W.cell? x = W1.cell? x) → (∀ x, W.frozen? x = W1.frozen? x) → ∀ ty dc, (Builtin.copy_ #[28, 28] ty #[.slice (some ⟨w.heap.size, 0, none⟩) (n + 1) dc, .slice (some ⟨vb, 0, none⟩) 1 vc]).run Tryz.prog W = .ok (goInt 1) (W.setCells w.heap.size 0 vs) := fun W hWc hWf ty dc => by
    have hm : Nat.min 1 (n + 1) = 1 := by simp only [Nat.min_def]; split <;> omega
    have := run_copy_cellsK (P := Tryz.prog) W 28 28 ty 69 w.heap.size 0 (n + 1) dc ⟨vb, 0, none⟩ 1 vc vs 2 Tryz.underlying28 hsz (by rw [hm, hvl])
      (fun j v hj => by rw [Addr.add_lit, hWc, Nat.zero_add]; exact hOv _ v (hvs j v hj))
      (fun j hj => by rw [hWc]; exact hN _ (by omega)) (fun j hj => by rw [hWf]; exact hNf _) h1v
    rwa [hm] at this
  have hGi : ¬ (G = 0) := by omega
  have hGim : ¬ (G = 1) := by omega
  have hci : ¬ (c = 0) := by omega
  have hbN : b ≠ w.heap.size := by omega
  have hb5 : (1 : Int) ≤ (n : Int) + 1 := by omega
  have hcpB : ∀ (W : World), (∀ x, W.cell? x = (W1.setCells w.heap.size 0 vs).cell? x) → (∀ x, W.frozen? x = (W1.setCells w.heap.size 0 vs).frozen? x) → ∀ ty dc sc, (Builtin.copy_ #[28, 28] ty #[.slice (some ⟨w.heap.size, 2, none⟩) n dc, .slice (some ⟨b, 0, none⟩) n sc]).run Tryz.prog W = .ok (goInt n) (W.setCells w.heap.size 2 cs) := fun W hWc hWf ty dc sc => by
    have hm : Nat.min n n = n := by simp only [Nat.min_def]; split <;> omega
    have := run_copy_cellsK (P := Tryz.prog) W 28 28 ty 69 w.heap.size 2 n dc ⟨b, 0, none⟩ n sc cs 2 Tryz.underlying28 hsz (by rw [hm]; exact hcl)
      (fun j v hj => by
        rw [Addr.add_lit, hWc, World.cell?_setCells_out _ _ _ _ _ (fun h _ => absurd h hbN), Nat.zero_add]
        exact hOb _ v (hcs j v hj))
      (fun j hj => by rw [hWc]; exact isSome_setCells _ vs 0 W1 (fun t ht => hN (0 + t) (by omega)) (2 + j) (hN _ (by omega)))
      (fun j hj => by rw [hWf, World.frozen?_setCells]; exact hNf _) h1c
    rwa [hm] at this
  subst hW1
  have hE1 : ∀ x, ((w.alloc (.cells ROW 69)).drew).cell? x = (w.drew.alloc (.cells ROW 69)).cell? x := fun x => rfl
  have hE2 : ∀ x, ((w.alloc (.cells ROW 69)).drew).frozen? x = (w.drew.alloc (.cells ROW 69)).frozen? x := fun x => rfl
  have hF1 : ∀ x, (((w.alloc (.cells ROW 69)).drew.setCells w.heap.size 0 vs).drew).cell? x = ((w.drew.alloc (.cells ROW 69)).setCells w.heap.size 0 vs).cell? x := fun x => rfl
  have hF2 : ∀ x, (((w.alloc (.cells ROW 69)).drew.setCells w.heap.size 0 vs).drew).frozen? x = ((w.drew.alloc (.cells ROW 69)).setCells w.heap.size 0 vs).frozen? x := fun x => rfl
  have hb1 : (0 : Int) ≤ (n : Int) + 1 := by omega
  have htn : ((n : Int) + 1).toNat = n + 1 := by omega
  refine Calls.mono (R := fun e w' => e = .returned (.slice (some ⟨w.heap.size, 0, none⟩) (n + 1) G) ∧ w' = (((w.alloc (.cells ROW 69)).drew.setCells w.heap.size 0 vs).drew).setCells w.heap.size 2 cs) ?_ fun e w' hq => ⟨G, ROW, hGn, hG63, hRl, hq.1, hq.2⟩
  clear hkk hold hROW hG hRl hcs hvs h1c h1v hi0 hz0 hzs hzb hsz hN hNf hOb hOv
  go_enter Tryz.func90, Tryz.ntmps90
  go_wp2_with (first
    | (at_builtin; refine Lib.wpList_append_run _ rfl _ _ _ _ rfl _ _ rfl rfl _ _ (hrz _) ?_)
    | (at_builtin; refine wpList_copy_runI _ rfl _ _ 28 28 rfl _ _ rfl rfl (hcpA _ hE1 hE2 _ _) ?_)
    | (at_builtin; refine wpList_copy_runI _ rfl _ _ 28 28 rfl _ _ rfl rfl (hcpB _ (fun _ => rfl) (fun _ => rfl) _ _ _) ?_))
  go_region_law_o (refine step_copy_runI rfl _ _ 28 28 rfl (.slice (some ⟨w.heap.size, 2, none⟩) n (G - 1)) (.slice (some ⟨b, 0, none⟩) n c) (by simp [Act.eval, Act.put]) (by simp [Act.eval, Act.put]) (hcpB _ hF1 hF2 3 (G - 1) c) ?_)
  go_wp2
  go_ret
  exact ⟨rfl, rfl⟩
end Go.Proofs.YtfikkfbnlegflaaGreatDoor

set_option linter.unusedVariables false
set_option linter.unusedSimpArgs false
namespace Go.Proofs.YtfikkfbnlegflaaGreatDoor
open Go.RowKit Go.Shelf
variable {α : Type}

theorem OwnK.cons_of {K : Knd α} {w w' : World} {B U : Nat} {a : Option Addr} {n c : Nat} {hs : List Hdr} {xs : List α} (hown : OwnK K w B U a n c hs xs) {v' : Value} {h1 : Hdr} {x1 : α}
    (hr : w'.ownsRow B K.E K.size v' (n + 1) (K.cells h1.1 h1.2 x1 ++ K.all hs xs)) (hg : w.grownBy w' (Value.slice a n c).ownBlock)
    (hi1 : OwnI w B h1.1 (K.ints x1).length h1.2 (K.ints x1)) (hap : ∀ i, i < n → Apart (hs.getD i (none, 0)).1 h1.1) (hap2 : ∀ i, i < n → Apart h1.1 (hs.getD i (none, 0)).1) (hfar : Apart a h1.1) :
    ∃ a' c', v' = .slice a' (n + 1) c' ∧ OwnK K w' B w'.heap.size a' (n + 1) c' (h1 :: hs) (x1 :: xs) := by
  obtain ⟨a', c', rfl⟩ : ∃ a' c', v' = .slice a' (n + 1) c' := by
    rcases hr.2 with ⟨_, h0⟩ | ⟨g', cap, cur, he, _⟩
    · omega
    · exact ⟨_, _, he⟩
  refine ⟨a', c', rfl, ?_⟩
  have hxl := hown.xl
  have hhl := hown.hl
  have hne : ∀ q, q < n → ∀ b o, (hs.getD q (none, 0)).1 = some ⟨b, o, none⟩ → some b ≠ (Value.slice a n c).ownBlock := fun q hq b o e => by
    rcases hown.form with ⟨rfl, _⟩ | ⟨g', cur, rfl, _⟩
    · simp [Value.ownBlock]
    · have := hown.far q hq g' 0 b o rfl e
      simp only [Value.ownBlock, ne_eq, Option.some.injEq]
      omega
  have hne1 : ∀ b o, h1.1 = some ⟨b, o, none⟩ → some b ≠ (Value.slice a n c).ownBlock := fun b o e => by
    rcases hown.form with ⟨rfl, _⟩ | ⟨g', cur, rfl, _⟩
    · simp [Value.ownBlock]
    · have := hfar g' 0 b o rfl e
      simp only [Value.ownBlock, ne_eq, Option.some.injEq]
      omega
  have hev : ∀ q, q < n + 1 → OwnI w' B ((h1 :: hs).getD q (none, 0)).1 (K.ints ((x1 :: xs).getD q K.dft)).length ((h1 :: hs).getD q (none, 0)).2 (K.ints ((x1 :: xs).getD q K.dft)) := fun q hq => by
    cases q with
    | zero => exact hi1.grown hg fun b o e => hne1 b o e
    | succ q => exact (hown.each q (by omega)).grown hg fun b o e => hne q (by omega) b o e
  refine ⟨hr, by simp [hhl], by simp [hxl], hev, fun q r hq hr' hqr => ?_, fun q hq b o e => ((hev q hq).at_base b o e).2, fun b o e => ?_⟩
  · cases q with
    | zero =>
      cases r with
      | zero => omega
      | succ r => exact hap2 r (by omega)
    | succ q =>
      cases r with
      | zero => exact hap q (by omega)
      | succ r => exact hown.apart q r (by omega) (by omega) (by omega)
  · rcases hr.2 with ⟨he, _⟩ | ⟨g', cap', cur', he, _, hg', _⟩
    · simp [e] at he
    · simp only [Value.slice.injEq] at he
      rw [e] at he
      simp only [Option.some.injEq, Addr.mk.injEq, and_true] at he
      obtain ⟨⟨rfl, _⟩, _⟩ := he
      exact (Array.getElem?_eq_some_iff.1 hg').1

theorem setCells_setRow (w : World) (b o : Nat) (vs : List Value) (cur : Array Value) (t : TypeId) (hg : w.heap[b]? = some (.cells cur t (0, 0))) (hfit : o + vs.length ≤ cur.size) (h1 : ∀ v ∈ vs, v.oneCell' = true) :
    w.setCells b o vs = w.setRow b (cur.toList.take o ++ vs ++ cur.toList.drop (o + vs.length)).toArray := by
  have a1 := run_storeCells_at Tryz.prog b o t vs 0 cur w hg (by simpa using hfit) h1
  have a2 := run_storeCells_cells (P := Tryz.prog) b o vs 0 w (fun j hj => by simp [World.cell?, hg]; omega) (fun j hj => by simp [World.frozen?, hg]) h1
  rw [a1] at a2
  simp only [Result.ok.injEq, true_and, Nat.add_zero] at a2
  exact a2.symm
theorem ins_room_list (L cs : List Value) (v0 v1 : Value) (h : 2 + cs.length ≤ L.length) :
    let L1 := L.take 2 ++ cs ++ L.drop (2 + cs.length)
    (L1.take 0 ++ [v0, v1] ++ L1.drop (0 + 2)).take (2 + cs.length) = v0 :: v1 :: cs ∧ (L1.take 0 ++ [v0, v1] ++ L1.drop (0 + 2)).length = L.length ∧ L1.length = L.length := by
  have h2 : min 2 L.length = 2 := by omega
  refine ⟨?_, by simp; omega, by simp; omega⟩
  simp [List.drop_append, h2, List.take_append]
  rw [show 2 + cs.length = cs.length + 1 + 1 by omega]
  simp
theorem ins_grow_list (L cs : List Value) (v0 v1 : Value) (h : 2 + cs.length ≤ L.length) :
    let L1 := L.take 0 ++ [v0, v1] ++ L.drop (0 + 2)
    (L1.take 2 ++ cs ++ L1.drop (2 + cs.length)).take (2 + cs.length) = v0 :: v1 :: cs ∧ (L1.take 2 ++ cs ++ L1.drop (2 + cs.length)).length = L.length ∧ L1.length = L.length := by
  refine ⟨?_, by simp; omega, by simp; omega⟩
  simp
  rw [show 2 + cs.length = cs.length + 1 + 1 by omega]
  simp

theorem ownsRow_of_heap {w' : World} {B b n c : Nat} {E : TypeId} {X L : List Value} (h : w'.heap[b]? = some (.cells X.toArray E (0, 0))) (hX : X.length = c * 2) (hL : L.length = n * 2) (htk : X.take (n * 2) = L) (hB : B ≤ b) (hnc : n ≤ c) (hcm : c ≤ maxLen) :
    w'.ownsRow B E 2 (.slice (some ⟨b, 0, none⟩) n c) n L := ⟨hL, .inr ⟨b, c, X.toArray, rfl, hB, h, hnc, hcm, by simpa using hX, by simpa using htk⟩⟩
theorem grown_setRow2 (w : World) (b : Nat) (X Y : Array Value) : w.grownBy ((w.drew.setRow b X).setRow b Y) (some b) :=
  ⟨rfl, rfl, rfl, by simp [World.setRow], fun k hk hn => by
    have hne : k ≠ b := fun e => hn (by rw [e])
    rw [setRow_other _ b k _ hne, setRow_other _ b k _ hne]; rfl⟩
theorem grown_setRow3 (w : World) (o : Obj) (X Y : Array Value) (row : Option Nat) : w.grownBy ((((w.alloc o).drew.setRow w.heap.size X).drew).setRow w.heap.size Y) row :=
  ⟨rfl, rfl, rfl, by simp [World.setRow], fun k hk hn => by
    have hne : k ≠ w.heap.size := by omega
    rw [setRow_other _ _ k _ hne]
    show ((w.alloc o).drew.setRow w.heap.size X).heap[k]? = _
    rw [setRow_other _ _ k _ hne]
    show (w.alloc o).heap[k]? = _
    exact (World.grownBy_alloc w o none).block k hk (by simp)⟩
set_option maxHeartbeats 4000000 in
/-- one step put ahead of an owned slice of steps -/
theorem insert_front (B U : Nat) (a : Option Addr) (n c : Nat) (hs : List Hdr) (xs : List Stp) (w : World) (hown : OwnK stepK w B U a n c hs xs) (g m : Nat) (h1 : Hdr) (x1 : Stp)
    (hgv : w.heap[g]? = some (.cells #[.slice h1.1 x1.1.length h1.2, .int .i64 x1.2] 69 (0, 0))) (hne : ∀ b o, a = some ⟨b, o, none⟩ → b ≠ g)
    (hi1 : OwnI w B h1.1 x1.1.length h1.2 x1.1) (hap : ∀ i, i < n → Apart (hs.getD i (none, 0)).1 h1.1) (hap2 : ∀ i, i < n → Apart h1.1 (hs.getD i (none, 0)).1) (hsm : n ≤ 1000000000) (hB : B ≤ w.heap.size) :
    Calls Tryz.prog 90 #[.slice a n c, .int .i64 0, .slice (some ⟨g, 0, none⟩) 1 m] w fun e w' =>
      ∃ a' c', e = .returned (.slice a' (n + 1) c') ∧ OwnK stepK w' B w'.heap.size a' (n + 1) c' (h1 :: hs) (x1 :: xs) ∧ w.grownBy w' (Value.slice a n c).ownBlock ∧ OrNew w.heap.size a a' := by
  have hcv : ∀ j, j < 2 → w.cell? ⟨g, j, none⟩ = (stepK.cells h1.1 h1.2 x1)[j]? := fun j hj => by
    have : j = 0 ∨ j = 1 := by omega
    rcases this with rfl | rfl <;> simp [World.cell?, hgv, stepK]
  have hfar : Apart a h1.1 := hown.off_ints hi1
  have hlx := stepK.all_length hs xs (hown.hl.trans hown.xl.symm)
  rw [hown.xl] at hlx
  have hone : ∀ v ∈ stepK.all hs xs, v.oneCell' = true := by
    have : ∀ (hs : List Hdr) (xs : List Stp), ∀ v ∈ stepK.all hs xs, v.oneCell' = true := by
      intro hs
      induction hs with
      | nil => intro xs v hv; simp [Knd.all] at hv
      | cons h hs ih =>
        intro xs v hv
        cases xs with
        | nil => simp [Knd.all] at hv
        | cons x xs =>
          rw [Knd.all, List.mem_append] at hv
          rcases hv with hv | hv
          · exact stepK.one _ _ _ v hv
          · exact ih xs v hv
    exact this hs xs
  rcases Nat.eq_zero_or_pos n with h0 | h0
  · subst h0
    obtain rfl : hs = [] := List.eq_nil_of_length_eq_zero hown.hl
    obtain rfl : xs = [] := List.eq_nil_of_length_eq_zero hown.xl
    have HI := hidP hi1
    have HO := hidP hown
    have HA := hidP hap
    have HF := hidP hfar
    have HC := hidP hcv
    have HB := hidP hB
    clear hi1 hown hap hap2 hfar hcv hB hlx hone hgv hne
    cases a with
    | none =>
      go_enter Tryz.func90, Tryz.ntmps90
      go_wp2_with (at_builtin; refine wpList_append_elem2 stepK 28 (.agg #[.slice none 0 0, .int .i64 0]) 32 rfl (.tmp 23) (.tmp 24) rfl Tryz.underlying28 Tryz.info69 rfl (by omega) B U none 0 c [] [] rfl HO.out g m h1 x1 rfl HC.out HI.out HA.out HF.out (by omega) HB.out ?_; intro a4 c4 w4 ho4 hg4 hn4; have HO4 := hidP ho4; have HG4 := hidP hg4; have HN4 := hidP hn4; clear ho4 hg4 hn4)
      go_ret
      exact ⟨_, _, rfl, HO4.out, HG4.out, HN4.out⟩
    | some ad =>
      go_enter Tryz.func90, Tryz.ntmps90
      go_wp2_with (at_builtin; refine wpList_append_elem2 stepK 28 (.agg #[.slice none 0 0, .int .i64 0]) 32 rfl (.tmp 23) (.tmp 24) rfl Tryz.underlying28 Tryz.info69 rfl (by omega) B U (some ad) 0 c [] [] rfl HO.out g m h1 x1 rfl HC.out HI.out HA.out HF.out (by omega) HB.out ?_; intro a4 c4 w4 ho4 hg4 hn4; have HO4 := hidP ho4; have HG4 := hidP hg4; have HN4 := hidP hn4; clear ho4 hg4 hn4)
      go_ret
      exact ⟨_, _, rfl, HO4.out, HG4.out, HN4.out⟩
  · rcases hown.form with ⟨_, h1, _⟩ | ⟨b, cur0, rfl, _⟩
    · omega
    obtain ⟨_, ⟨he, _⟩ | ⟨b', cap, cur, he, hBb, hgb, hnc, hcm, hcs, htk⟩⟩ := hown.row
    · cases he
    simp only [Value.slice.injEq, Option.some.injEq, Addr.mk.injEq, and_true, true_and] at he
    obtain ⟨rfl, rfl⟩ := he
    have hcells : ∀ j v, (stepK.all hs xs)[j]? = some v → w.cell? ⟨b, j, none⟩ = some v := fun j v hj => by
      have hj2 := (List.getElem?_eq_some_iff.1 hj).1
      rw [hown.row.cellAt j (by rw [hlx] at hj2; exact hj2)]
      exact hj
    have hvl : (stepK.cells h1.1 h1.2 x1).length = 2 := rfl
    have hvs : ∀ j v, (stepK.cells h1.1 h1.2 x1)[j]? = some v → w.cell? ⟨g, j, none⟩ = some v := fun j v hj => by
      rw [hcv j (by have := (List.getElem?_eq_some_iff.1 hj).1; rwa [hvl] at this)]
      exact hj
    have hl2 : (stepK.all hs xs).length = n * 2 := hlx
    have hcur : cur.size = c * 2 := hcs
    by_cases hroom : n + 1 ≤ c
    · refine Calls.mono (insert_room b n c g m (stepK.all hs xs) (stepK.cells h1.1 h1.2 x1) w h0 hroom (by unfold maxLen at hcm; omega) (fun e => hne b 0 rfl e.symm) hl2 hvl hcells
        (fun j hj => by simp [World.cell?, hgb]; omega) (fun j hj => by simp [World.frozen?, hgb]) hvs hone (stepK.one _ _ _) 69 stepK.E 2 cur.size (by simp [World.shape?, hgv]) (by simp [World.shape?, hgb]) (by omega)
        (by simp [World.frozen?, hgv]) (by simp [World.frozen?, hgv])) ?_
      rintro e w' ⟨rfl, rfl⟩
      have hgd : w.drew.heap[b]? = some (.cells cur stepK.E (0, 0)) := hgb
      rw [setCells_setRow w.drew b 2 _ cur _ hgd (by omega) hone]
      have hg2 := setRow_heap w.drew b cur (cur.toList.take 2 ++ stepK.all hs xs ++ cur.toList.drop (2 + (stepK.all hs xs).length)).toArray stepK.E _ hgd
      obtain ⟨q1, q2, q3⟩ := ins_room_list cur.toList (stepK.all hs xs) (.slice h1.1 x1.1.length h1.2) (.int .i64 x1.2) (by simp; omega)
      rw [setCells_setRow _ b 0 _ _ _ hg2 (by rw [hvl]; simp at q3 ⊢; omega) (stepK.one _ _ _)]
      have hg3 := setRow_heap _ b _ ((cur.toList.take 2 ++ stepK.all hs xs ++ cur.toList.drop (2 + (stepK.all hs xs).length)).take 0 ++ stepK.cells h1.1 h1.2 x1 ++ (cur.toList.take 2 ++ stepK.all hs xs ++ cur.toList.drop (2 + (stepK.all hs xs).length)).drop (0 + (stepK.cells h1.1 h1.2 x1).length)).toArray stepK.E _ hg2
      have hgr := grown_setRow2 w b (cur.toList.take 2 ++ stepK.all hs xs ++ cur.toList.drop (2 + (stepK.all hs xs).length)).toArray ((cur.toList.take 2 ++ stepK.all hs xs ++ cur.toList.drop (2 + (stepK.all hs xs).length)).take 0 ++ stepK.cells h1.1 h1.2 x1 ++ (cur.toList.take 2 ++ stepK.all hs xs ++ cur.toList.drop (2 + (stepK.all hs xs).length)).drop (0 + (stepK.cells h1.1 h1.2 x1).length)).toArray
      have hr := ownsRow_of_heap (B := B) (n := n + 1) (c := c) (L := stepK.cells h1.1 h1.2 x1 ++ stepK.all hs xs) hg3 (q2.trans (by simpa using hcur)) (by rw [List.length_append, hvl, hl2]; omega)
        (by rw [show (n + 1) * 2 = 2 + (stepK.all hs xs).length by omega]; exact q1) hBb hroom hcm
      obtain ⟨a', c', e, ho⟩ := hown.cons_of hr hgr hi1 hap hap2 hfar
      cases e
      exact ⟨_, _, rfl, ho, hgr, .inl rfl⟩
    · refine Calls.mono (insert_grow b n c g m (stepK.all hs xs) (stepK.cells h1.1 h1.2 x1) w h0 hnc (by omega) (by omega) hl2 hvl hcells hvs hone (stepK.one _ _ _)) ?_
      rintro e w' ⟨G, ROW, hG1, hG2, hG3, rfl, rfl⟩
      have hgd : (w.alloc (.cells ROW 69)).drew.heap[w.heap.size]? = some (.cells ROW 69 (0, 0)) := by
        exact heap_alloc_last w _
      rw [setCells_setRow _ w.heap.size 0 _ ROW _ hgd (by rw [hvl]; omega) (stepK.one _ _ _)]
      have hg2 := setRow_heap _ w.heap.size ROW (ROW.toList.take 0 ++ stepK.cells h1.1 h1.2 x1 ++ ROW.toList.drop (0 + (stepK.cells h1.1 h1.2 x1).length)).toArray 69 _ hgd
      obtain ⟨q1, q2, q3⟩ := ins_grow_list ROW.toList (stepK.all hs xs) (.slice h1.1 x1.1.length h1.2) (.int .i64 x1.2) (by simp; omega)
      have hg2' : ((w.alloc (.cells ROW 69)).drew.setRow w.heap.size (ROW.toList.take 0 ++ stepK.cells h1.1 h1.2 x1 ++ ROW.toList.drop (0 + (stepK.cells h1.1 h1.2 x1).length)).toArray).drew.heap[w.heap.size]? = _ := hg2
      rw [setCells_setRow _ w.heap.size 2 _ _ _ hg2' (by rw [hl2]; simp only [List.size_toArray]; have := q3; rw [show [Value.slice h1.1 x1.1.length h1.2, .int .i64 x1.2] = stepK.cells h1.1 h1.2 x1 from rfl] at this; rw [hvl, this]; simp; omega) hone]
      have hg3 := setRow_heap _ w.heap.size _ ((ROW.toList.take 0 ++ stepK.cells h1.1 h1.2 x1 ++ ROW.toList.drop (0 + (stepK.cells h1.1 h1.2 x1).length)).take 2 ++ stepK.all hs xs ++ (ROW.toList.take 0 ++ stepK.cells h1.1 h1.2 x1 ++ ROW.toList.drop (0 + (stepK.cells h1.1 h1.2 x1).length)).drop (2 + (stepK.all hs xs).length)).toArray 69 _ hg2'
      have hgr := fun row => grown_setRow3 w (.cells ROW 69) (ROW.toList.take 0 ++ stepK.cells h1.1 h1.2 x1 ++ ROW.toList.drop (0 + (stepK.cells h1.1 h1.2 x1).length)).toArray ((ROW.toList.take 0 ++ stepK.cells h1.1 h1.2 x1 ++ ROW.toList.drop (0 + (stepK.cells h1.1 h1.2 x1).length)).take 2 ++ stepK.all hs xs ++ (ROW.toList.take 0 ++ stepK.cells h1.1 h1.2 x1 ++ ROW.toList.drop (0 + (stepK.cells h1.1 h1.2 x1).length)).drop (2 + (stepK.all hs xs).length)).toArray row
      have hr := ownsRow_of_heap (B := B) (n := n + 1) (c := G) (L := stepK.cells h1.1 h1.2 x1 ++ stepK.all hs xs) hg3 (q2.trans (by simpa using hG3)) (by rw [List.length_append, hvl, hl2]; omega)
        (by rw [show (n + 1) * 2 = 2 + (stepK.all hs xs).length by omega]; exact q1) hB hG1 hG2
      obtain ⟨a', c', e, ho⟩ := hown.cons_of hr (hgr _) hi1 hap hap2 hfar
      cases e
      refine ⟨_, _, rfl, ho, hgr _, .inr fun b2 o2 e => ?_⟩
      simp only [Option.some.injEq, Addr.mk.injEq, and_true] at e
      omega
end Go.Proofs.YtfikkfbnlegflaaGreatDoor

namespace Go.Proofs.YtfikkfbnlegflaaGreatDoor

def within (n lo hi : Int) : Int := if n < lo then lo else if n > hi then hi else n
/-- the pieces of step k, by the times u and v between which a reflection R is applied -/
def betK (R : List Int → List Int) (u v : Int) (p : List Stp) (k : Nat) : List Stp :=
  [(wayAt p k, within u (timeAt p k) (timeAt p (k + 1)) - timeAt p k), (R (wayAt p k), within v (timeAt p k) (timeAt p (k + 1)) - within u (timeAt p k) (timeAt p (k + 1))), (wayAt p k, timeAt p (k + 1) - within v (timeAt p k) (timeAt p (k + 1)))]
def betTo (R : List Int → List Int) (u v : Int) (p : List Stp) (n : Nat) : List Stp := (List.range n).flatMap (betK R u v p)
def betS (R : List Int → List Int) (u v : Int) (p : List Stp) : List Stp := betTo R u v p p.length
theorem betTo_succ (R : List Int → List Int) (u v : Int) (p : List Stp) (n : Nat) : betTo R u v p (n + 1) = betTo R u v p n ++ betK R u v p n := by simp [betTo, List.range_succ]
/-- the same by places of steps and times within them -/
def turnK (R : List Int → List Int) (p : List Stp) (a : Nat) (fr : Int) (b : Nat) (to : Int) (k : Nat) : List Stp :=
  if k < a ∨ b < k then [(wayAt p k, lenAt p k)] else
  [(wayAt p k, if k = a then fr else 0), (R (wayAt p k), (if k = b then to else lenAt p k) - if k = a then fr else 0), (wayAt p k, lenAt p k - if k = b then to else lenAt p k)]
def turnTo (R : List Int → List Int) (p : List Stp) (a : Nat) (fr : Int) (b : Nat) (to : Int) (n : Nat) : List Stp := (List.range n).flatMap (turnK R p a fr b to)
theorem turnTo_succ (R : List Int → List Int) (p : List Stp) (a : Nat) (fr : Int) (b : Nat) (to : Int) (n : Nat) : turnTo R p a fr b to (n + 1) = turnTo R p a fr b to n ++ turnK R p a fr b to n := by simp [turnTo, List.range_succ]

def Lens (p : List Stp) : Prop := ∀ k, k < p.length → 0 ≤ lenAt p k
theorem timeAt_mono {p : List Stp} (h : Lens p) : ∀ (d k : Nat), k + d ≤ p.length → timeAt p k ≤ timeAt p (k + d)
  | 0, k, _ => Int.le_refl _
  | d + 1, k, hk => by
    have := timeAt_mono h d k (by omega)
    have h2 := h (k + d) (by omega)
    show timeAt p k ≤ timeAt p (k + d) + lenAt p (k + d)
    omega
theorem timeAt_le {p : List Stp} (h : Lens p) {j k : Nat} (hj : j ≤ k) (hk : k ≤ p.length) : timeAt p j ≤ timeAt p k := by
  have := timeAt_mono h (k - j) j (by omega)
  rwa [show j + (k - j) = k by omega] at this
theorem lens_of_path {r : Nat} {p : List Stp} (h : PathP r p) : Lens p := fun k hk => by have := h.dur k hk; omega

theorem within_mid {n lo hi : Int} (h1 : lo ≤ n) (h2 : n ≤ hi) : within n lo hi = n := by unfold within; rw [if_neg (by omega), if_neg (by omega)]
theorem within_lo {n lo hi : Int} (h1 : n ≤ lo) (h2 : lo ≤ hi) : within n lo hi = lo := by
  unfold within
  split
  · rfl
  · rw [if_neg (by omega)]; omega
theorem within_hi {n lo hi : Int} (h1 : hi ≤ n) (h2 : lo ≤ hi) : within n lo hi = hi := by
  unfold within
  rw [if_neg (by omega)]
  split
  · rfl
  · omega
theorem within_bd {n lo hi : Int} (h : lo ≤ hi) : lo ≤ within n lo hi ∧ within n lo hi ≤ hi := by
  unfold within
  split
  · omega
  · split <;> omega
theorem within_le {u v lo hi : Int} (h : u ≤ v) (h2 : lo ≤ hi) : within u lo hi ≤ within v lo hi := by
  unfold within
  split <;> split <;> (try split) <;> (try split) <;> omega

structure Turn (p : List Stp) (a : Nat) (fr : Int) (b : Nat) (to : Int) : Prop where
  ab : a ≤ b
  an : a < p.length
  bn : b ≤ p.length
  fr0 : 0 ≤ fr
  fr1 : fr ≤ lenAt p a
  to0 : 0 ≤ to
  to1 : b < p.length → to ≤ lenAt p b
  last : b = p.length → to = 0
  eq : a = b → fr ≤ to
theorem expand_three (x y z : Stp) : expand [x, y, z] = List.replicate x.2.toNat x.1 ++ (List.replicate y.2.toNat y.1 ++ List.replicate z.2.toNat z.1) := by simp [expand]
theorem turn_eq (R : List Int → List Int) {p : List Stp} (hl : Lens p) {a b : Nat} {fr to : Int} (h : Turn p a fr b to) : ∀ n, n ≤ p.length →
    expand (turnTo R p a fr b to n) = expand (betTo R (timeAt p a + fr) (timeAt p b + to) p n) := by
  intro n
  induction n with
  | zero => intro _; rfl
  | succ n ih =>
    intro hn
    rw [turnTo_succ, betTo_succ, expand_append, expand_append, ih (by omega)]
    congr 1
    obtain ⟨h1, h2, h3, h4, h5, h6, h7, h8, h9⟩ := h
    have hln := hl n (by omega)
    have hs : timeAt p (n + 1) = timeAt p n + lenAt p n := rfl
    have hle : timeAt p n ≤ timeAt p (n + 1) := by omega
    have hsa : timeAt p (a + 1) = timeAt p a + lenAt p a := rfl
    unfold turnK betK
    rw [expand_three]
    by_cases c1 : n < a
    · rw [if_pos (.inl c1), expand_one]
      have e1 := timeAt_le hl (show n + 1 ≤ a by omega) (by omega)
      have e2 := timeAt_le hl h1 (by omega)
      rw [within_hi (by omega) hle, within_hi (by omega) hle]
      rw [hs, show timeAt p n + lenAt p n - timeAt p n = lenAt p n by omega]
      simp
    · by_cases c2 : b < n
      · rw [if_pos (.inr c2), expand_one]
        have e1 := timeAt_le hl (show b + 1 ≤ n by omega) (by omega)
        have e2 := timeAt_le hl (show a + 1 ≤ n by omega) (by omega)
        have e3 := h7 (by omega)
        have hsb : timeAt p (b + 1) = timeAt p b + lenAt p b := rfl
        rw [within_lo (by omega) hle, within_lo (by omega) hle]
        rw [hs, show timeAt p n + lenAt p n - timeAt p n = lenAt p n by omega]
        simp
      · rw [if_neg (by omega), expand_three]
        have ea : within (timeAt p a + fr) (timeAt p n) (timeAt p (n + 1)) = timeAt p n + (if n = a then fr else 0) := by
          split
          · rename_i e; subst e
            rw [within_mid (by omega) (by omega)]
          · have e1 := timeAt_le hl (show a + 1 ≤ n by omega) (by omega)
            rw [within_lo (by omega) hle]
            omega
        have eb : within (timeAt p b + to) (timeAt p n) (timeAt p (n + 1)) = timeAt p n + (if n = b then to else lenAt p n) := by
          split
          · rename_i e; subst e
            have := h7 (by omega)
            rw [within_mid (by omega) (by rw [hs]; omega)]
          · have e1 := timeAt_le hl (show n + 1 ≤ b by omega) (by omega)
            rw [within_hi (by omega) hle]
            omega
        rw [ea, eb, hs]
        generalize (if n = a then fr else 0) = X
        generalize (if n = b then to else lenAt p n) = Y
        rw [show timeAt p n + X - timeAt p n = X by omega, show timeAt p n + Y - (timeAt p n + X) = Y - X by omega, show timeAt p n + lenAt p n - (timeAt p n + Y) = lenAt p n - Y by omega]
theorem expand_filter (p : List Stp) : expand (p.filter fun s => s.2 != 0) = expand p := by
  induction p with
  | nil => rfl
  | cons s p ih =>
    have h2 : expand (s :: p) = List.replicate s.2.toNat s.1 ++ expand p := by simp [expand]
    rw [h2, List.filter_cons]
    split
    · have h3 : expand (s :: p.filter fun s => s.2 != 0) = List.replicate s.2.toNat s.1 ++ expand (p.filter fun s => s.2 != 0) := by simp [expand]
      rw [h3, ih]
    · rename_i h
      have : s.2 = 0 := by simpa using h
      rw [ih, this]
      rfl
theorem bet_nonneg (R : List Int → List Int) {p : List Stp} (hl : Lens p) {u v : Int} (huv : u ≤ v) (n : Nat) (hn : n ≤ p.length) : ∀ s ∈ betTo R u v p n, 0 ≤ s.2 := by
  intro s hs
  simp only [betTo, List.mem_flatMap, List.mem_range] at hs
  obtain ⟨k, hk, hs⟩ := hs
  have h1 := hl k (by omega)
  have h2 : timeAt p k ≤ timeAt p (k + 1) := by show timeAt p k ≤ timeAt p k + lenAt p k; omega
  have h3 := within_bd (n := u) h2
  have h4 := within_bd (n := v) h2
  have h5 := within_le huv h2
  simp only [betK, List.mem_cons, List.not_mem_nil, or_false] at hs
  rcases hs with rfl | rfl | rfl
  · show 0 ≤ _ - _; omega
  · show 0 ≤ _ - _; omega
  · show 0 ≤ _ - _; omega
theorem turn_nonneg (R : List Int → List Int) {p : List Stp} (hl : Lens p) {a b : Nat} {fr to : Int} (h : Turn p a fr b to) (n : Nat) (hn : n ≤ p.length) : ∀ s ∈ turnTo R p a fr b to n, 0 ≤ s.2 := by
  intro s hs
  simp only [turnTo, List.mem_flatMap, List.mem_range] at hs
  obtain ⟨k, hk, hs⟩ := hs
  have h1 := hl k (by omega)
  obtain ⟨g1, g2, g3, g4, g5, g6, g7, g8, g9⟩ := h
  unfold turnK at hs
  split at hs
  · simp only [List.mem_singleton] at hs
    subst hs
    exact h1
  · simp only [List.mem_cons, List.not_mem_nil, or_false] at hs
    have e1 : k = b → to ≤ lenAt p k := by rintro rfl; exact g7 (by omega)
    have e2 : k = a → fr ≤ lenAt p k := by rintro rfl; exact g5
    rcases hs with rfl | rfl | rfl
    · show 0 ≤ if k = a then fr else 0
      split <;> omega
    · show 0 ≤ (if k = b then to else lenAt p k) - if k = a then fr else 0
      split <;> split <;> omega
    · show 0 ≤ lenAt p k - if k = b then to else lenAt p k
      split <;> omega
theorem turn_le {p : List Stp} (hl : Lens p) {a b : Nat} {fr to : Int} (h : Turn p a fr b to) : timeAt p a + fr ≤ timeAt p b + to := by
  obtain ⟨g1, g2, g3, g4, g5, g6, g7, g8, g9⟩ := h
  rcases Nat.eq_or_lt_of_le g1 with rfl | h1
  · have := g9 rfl; omega
  · have := timeAt_le hl (show a + 1 ≤ b by omega) g3
    have hsa : timeAt p (a + 1) = timeAt p a + lenAt p a := rfl
    omega
/-- both ways to apply a reflection between two times -/
theorem turn_check (R : List Int → List Int) {r : Nat} {p : List Stp} (hl : Lens p) {a b : Nat} {fr to : Int} (h : Turn p a fr b to) :
    checkS r ((turnTo R p a fr b to p.length).filter fun s => s.2 != 0) = checkS r (betS R (timeAt p a + fr) (timeAt p b + to) p) := by
  unfold checkS
  have h1 := turn_nonneg R hl h p.length (Nat.le_refl _)
  have h2 := bet_nonneg R hl (turn_le hl h) p.length (Nat.le_refl _)
  have h3 : joinS ((turnTo R p a fr b to p.length).filter fun s => s.2 != 0) = joinS (betS R (timeAt p a + fr) (timeAt p b + to) p) := by
    refine join_congr (fun s hs => h1 s (List.mem_filter.1 hs).1) h2 ?_
    rw [expand_filter, turn_eq R hl h p.length (Nat.le_refl _)]
    rfl
  rw [h3]

/-! ### a path gone back -/
theorem bet_mir (R : List Int → List Int) (hR : ∀ w, R (negW w) = negW (R w)) {p : List Stp} (hl : Lens p) {u v : Int} (huv : u ≤ v) :
    joinS (betS R (timeAt p p.length - v) (timeAt p p.length - u) (mirS p)) = joinS (mirS (betS R u v p)) := by
  have hlm : Lens (mirS p) := fun k hk => by
    rw [mirS_length] at hk
    rw [(mirS_get p k hk).2]
    exact hl _ (by omega)
  refine join_congr (bet_nonneg R hlm (by omega) _ (Nat.le_refl _)) ?_ ?_
  · intro s hs
    simp only [mirS, List.mem_reverse, List.mem_map] at hs
    obtain ⟨t, ht, rfl⟩ := hs
    exact bet_nonneg R hl huv _ (Nat.le_refl _) t ht
  rw [expand_mir]
  unfold betS
  rw [mirS_length]
  have key : ∀ n, n ≤ p.length → expand (betTo R (timeAt p p.length - v) (timeAt p p.length - u) (mirS p) n) ++ ((expand (betTo R u v p (p.length - n))).map negW).reverse = ((expand (betTo R u v p p.length)).map negW).reverse := by
    intro n
    induction n with
    | zero => intro _; simp [betTo, expand]
    | succ n ih =>
      intro hn
      rw [← ih (by omega), betTo_succ, expand_append, List.append_assoc]
      congr 1
      obtain ⟨m, hm⟩ : ∃ m, m = p.length - (n + 1) := ⟨_, rfl⟩
      have hm2 : p.length - n = m + 1 := by omega
      rw [← hm, hm2, betTo_succ, expand_append, List.map_append, List.reverse_append]
      congr 1
      unfold betK
      rw [expand_three, expand_three]
      obtain ⟨e1, e2⟩ := mirS_get p n (by omega)
      rw [show p.length - 1 - n = m by omega] at e1 e2
      have t0 := timeAt_mir p n (by omega)
      have t1 := timeAt_mir p (n + 1) (by omega)
      rw [hm2] at t0
      rw [← hm] at t1
      have hlm := hl m (by omega)
      have hs : timeAt p (m + 1) = timeAt p m + lenAt p m := rfl
      have wm : ∀ x, within (timeAt p p.length - x) (timeAt (mirS p) n) (timeAt (mirS p) (n + 1)) = timeAt p p.length - within x (timeAt p m) (timeAt p (m + 1)) := by
        intro x
        rw [t0, t1]
        unfold within
        split <;> split <;> (try split) <;> (try split) <;> omega
      rw [wm, wm, t0, t1, e1, hR]
      generalize within u (timeAt p m) (timeAt p (m + 1)) = X
      generalize within v (timeAt p m) (timeAt p (m + 1)) = Y
      simp only [List.map_append, List.map_replicate, List.reverse_append, List.reverse_replicate, List.append_assoc]
      rw [show timeAt p p.length - Y - (timeAt p p.length - timeAt p (m + 1)) = timeAt p (m + 1) - Y by omega, show timeAt p p.length - X - (timeAt p p.length - Y) = Y - X by omega, show timeAt p p.length - timeAt p m - (timeAt p p.length - X) = X - timeAt p m by omega]
  have := key p.length (Nat.le_refl _)
  rw [Nat.sub_self] at this
  simpa [betTo, expand] using this

/-! ### places -/
def lastEq (f : Nat → Bool) : Nat → Nat
  | 0 => 0
  | k + 1 => if f (k + 1) then k + 1 else lastEq f k
theorem lastEq_of {f : Nat → Bool} : ∀ {n a : Nat}, a ≤ n → f a = true → (∀ k, a < k → k ≤ n → f k = false) → lastEq f n = a
  | 0, a, h, _, _ => by simp [lastEq]; omega
  | n + 1, a, h, hf, hn => by
    unfold lastEq
    by_cases e : a = n + 1
    · subst e; rw [if_pos hf]
    · rw [if_neg (by rw [hn (n + 1) (by omega) (Nat.le_refl _)]; simp)]
      exact lastEq_of (by omega) hf fun k h1 h2 => hn k h1 (by omega)
theorem lastEq_spec {f : Nat → Bool} : ∀ {n a : Nat}, a ≤ n → f a = true → lastEq f n ≤ n ∧ f (lastEq f n) = true ∧ a ≤ lastEq f n ∧ ∀ k, lastEq f n < k → k ≤ n → f k = false
  | 0, a, h, hf => by
    obtain rfl : a = 0 := by omega
    exact ⟨Nat.le_refl _, hf, Nat.le_refl _, fun k h1 h2 => by simp [lastEq] at h1; omega⟩
  | n + 1, a, h, hf => by
    unfold lastEq
    split
    · rename_i e; exact ⟨Nat.le_refl _, e, h, fun k h1 h2 => by omega⟩
    · rename_i e
      have ha : a ≤ n := by
        rcases Nat.eq_or_lt_of_le h with rfl | h'
        · exact absurd hf e
        · omega
      obtain ⟨h1, h2, h3, h4⟩ := lastEq_spec ha hf
      refine ⟨by omega, h2, h3, fun k h5 h6 => ?_⟩
      rcases Nat.eq_or_lt_of_le h6 with rfl | h7
      · simpa using e
      · exact h4 k h5 (by omega)
def firstEq (f : Nat → Bool) : Nat → Nat → Nat
  | 0, k => k
  | n + 1, k => if f k then k else firstEq f n (k + 1)
theorem firstEq_of {f : Nat → Bool} : ∀ {n k a : Nat}, k ≤ a → a ≤ k + n → f a = true → (∀ j, k ≤ j → j < a → f j = false) → firstEq f n k = a
  | 0, k, a, h1, h2, _, _ => by simp [firstEq]; omega
  | n + 1, k, a, h1, h2, hf, hn => by
    unfold firstEq
    by_cases e : k = a
    · subst e; rw [if_pos hf]
    · rw [if_neg (by rw [hn k (Nat.le_refl _) (by omega)]; simp)]
      exact firstEq_of (by omega) (by omega) hf fun j h3 h4 => hn j (by omega) h4
theorem firstEq_spec {f : Nat → Bool} : ∀ {n k a : Nat}, k ≤ a → a ≤ k + n → f a = true → k ≤ firstEq f n k ∧ firstEq f n k ≤ a ∧ f (firstEq f n k) = true ∧ ∀ j, k ≤ j → j < firstEq f n k → f j = false
  | 0, k, a, h1, h2, hf => by
    obtain rfl : a = k := by omega
    exact ⟨Nat.le_refl _, Nat.le_refl _, hf, fun j h3 h4 => by simp [firstEq] at h4; omega⟩
  | n + 1, k, a, h1, h2, hf => by
    unfold firstEq
    split
    · rename_i e; exact ⟨Nat.le_refl _, h1, e, fun j h3 h4 => by omega⟩
    · rename_i e
      have ha : k + 1 ≤ a := by
        rcases Nat.eq_or_lt_of_le h1 with rfl | h'
        · exact absurd hf e
        · omega
      obtain ⟨h3, h4, h5, h6⟩ := firstEq_spec (n := n) ha (by omega) hf
      refine ⟨by omega, h4, h5, fun j h7 h8 => ?_⟩
      rcases Nat.eq_or_lt_of_le h7 with rfl | h9
      · simpa using e
      · exact h6 j (by omega) h8

def minHt (i : Nat) (p : List Stp) : Nat → Int
  | 0 => 0
  | k + 1 => if htAt i p (k + 1) < minHt i p k then htAt i p (k + 1) else minHt i p k
theorem minHt_le (i : Nat) (p : List Stp) : ∀ (n k : Nat), k ≤ n → minHt i p n ≤ htAt i p k
  | 0, k, h => by
    obtain rfl : k = 0 := by omega
    exact Int.le_refl _
  | n + 1, k, h => by
    unfold minHt
    rcases Nat.eq_or_lt_of_le h with rfl | h'
    · split <;> omega
    · have := minHt_le i p n k (by omega)
      split <;> omega
theorem minHt_at (i : Nat) (p : List Stp) : ∀ (n : Nat), ∃ k, k ≤ n ∧ htAt i p k = minHt i p n
  | 0 => ⟨0, Nat.le_refl _, rfl⟩
  | n + 1 => by
    unfold minHt
    split
    · exact ⟨n + 1, Nat.le_refl _, rfl⟩
    · obtain ⟨k, h1, h2⟩ := minHt_at i p n
      exact ⟨k, by omega, h2⟩
theorem minHt_eq {i : Nat} {p : List Stp} {n k : Nat} {m : Int} (hk : k ≤ n) (h1 : htAt i p k = m) (h2 : ∀ j, j ≤ n → m ≤ htAt i p j) : minHt i p n = m := by
  obtain ⟨j, h3, h4⟩ := minHt_at i p n
  have h5 := minHt_le i p n k hk
  have h6 := h2 j h3
  omega

/-! ### lowering and raising -/
def lowT (i : Nat) (p : List Stp) : Int := minHt i p p.length + 27720
def lowA (i : Nat) (p : List Stp) : Nat := lastEq (fun k => htAt i p k == minHt i p p.length) p.length
def lowB (i : Nat) (p : List Stp) : Nat := firstEq (fun k => decide (lowT i p ≤ htAt i p (k + 1))) p.length (lowA i p)
def slopeAt (i : Nat) (p : List Stp) (k : Nat) : Int := (wayAt p k).getD i 0
def lowS (r : Nat) (R : List Int → List Int) (i : Nat) (p : List Stp) : Option (List Stp) :=
  if htAt i p p.length < lowT i p then none
  else if (lowT i p - htAt i p (lowB i p)).tmod (slopeAt i p (lowB i p)) = 0 then checkS r (betS R (timeAt p (lowA i p)) (timeAt p (lowB i p) + (lowT i p - htAt i p (lowB i p)).tdiv (slopeAt i p (lowB i p))) p)
  else none
def raiB (i : Nat) (p : List Stp) : Nat := firstEq (fun k => htAt i p k == minHt i p p.length) p.length 0
def raiA (i : Nat) (p : List Stp) : Nat := lastEq (fun k => decide (lowT i p ≤ htAt i p k)) (raiB i p)
def raiS (r : Nat) (R : List Int → List Int) (i : Nat) (p : List Stp) : Option (List Stp) :=
  if 0 < lowT i p then none
  else if (lowT i p - htAt i p (raiA i p)).tmod (slopeAt i p (raiA i p)) = 0 then checkS r (betS R (timeAt p (raiA i p) + (lowT i p - htAt i p (raiA i p)).tdiv (slopeAt i p (raiA i p))) (timeAt p (raiB i p)) p)
  else none

/-- what the search for the two places finds -/
structure LowP (i : Nat) (p : List Stp) (a b : Nat) : Prop where
  ab : a ≤ b
  bn : b < p.length
  ha : htAt i p a = minHt i p p.length
  aft : ∀ k, a < k → k ≤ p.length → htAt i p k ≠ minHt i p p.length
  hb : htAt i p b < lowT i p
  hb1 : lowT i p ≤ htAt i p (b + 1)
theorem low_places {i : Nat} {p : List Stp} (h : lowT i p ≤ htAt i p p.length) : LowP i p (lowA i p) (lowB i p) := by
  obtain ⟨k, hk, hk2⟩ := minHt_at i p p.length
  obtain ⟨h1, h2, _, h4⟩ := lastEq_spec (f := fun k => htAt i p k == minHt i p p.length) hk (by simpa using hk2)
  have h2' : htAt i p (lowA i p) = minHt i p p.length := by simpa [lowA] using h2
  have hT : lowT i p = minHt i p p.length + 27720 := rfl
  have hlt : lowA i p < p.length := by
    rcases Nat.lt_or_ge (lowA i p) p.length with h | h'
    · exact h
    · exfalso
      have e : lowA i p = p.length := Nat.le_antisymm h1 h'
      rw [e] at h2'
      omega
  obtain ⟨g1, g2, g3, g4⟩ := firstEq_spec (f := fun k => decide (lowT i p ≤ htAt i p (k + 1))) (n := p.length) (k := lowA i p) (a := p.length - 1) (by omega) (by omega) (by rw [show p.length - 1 + 1 = p.length by omega]; simpa using h)
  refine ⟨g1, by show firstEq _ _ _ < _; omega, h2', fun k h5 h6 => by simpa using h4 k h5 h6, ?_, by simpa [lowB] using g3⟩
  show htAt i p (lowB i p) < _
  rcases Nat.eq_or_lt_of_le g1 with h5 | h5
  · have e : lowB i p = lowA i p := h5.symm
    rw [e, h2']
    omega
  · have := g4 (lowB i p - 1) (by show _ ≤ lowB i p - 1; have : lowA i p < lowB i p := h5; omega) (by show lowB i p - 1 < lowB i p; have : lowA i p < lowB i p := h5; omega)
    have h6 : lowA i p < lowB i p := h5
    rw [show lowB i p - 1 + 1 = lowB i p by omega] at this
    simpa using this
structure RaiP (i : Nat) (p : List Stp) (a b : Nat) : Prop where
  ab : a < b
  bn : b ≤ p.length
  hb : htAt i p b = minHt i p p.length
  bef : ∀ k, k < b → htAt i p k ≠ minHt i p p.length
  ha : lowT i p ≤ htAt i p a
  ha1 : htAt i p (a + 1) < lowT i p
theorem rai_places {i : Nat} {p : List Stp} (h : lowT i p ≤ 0) : RaiP i p (raiA i p) (raiB i p) := by
  obtain ⟨k, hk, hk2⟩ := minHt_at i p p.length
  obtain ⟨_, g2, g3, g4⟩ := firstEq_spec (f := fun k => htAt i p k == minHt i p p.length) (n := p.length) (k := 0) (a := k) (by omega) (by omega) (by simpa using hk2)
  have g3' : htAt i p (raiB i p) = minHt i p p.length := by simpa [raiB] using g3
  have hT : lowT i p = minHt i p p.length + 27720 := rfl
  obtain ⟨h1, h2, _, h4⟩ := lastEq_spec (f := fun k => decide (lowT i p ≤ htAt i p k)) (n := raiB i p) (a := 0) (Nat.zero_le _) (decide_eq_true (show lowT i p ≤ htAt i p 0 from h))
  have h2' : lowT i p ≤ htAt i p (raiA i p) := by simpa [raiA] using h2
  have hlt : raiA i p < raiB i p := by
    rcases Nat.lt_or_ge (raiA i p) (raiB i p) with h | h'
    · exact h
    · exfalso
      have e : raiA i p = raiB i p := Nat.le_antisymm h1 h'
      rw [e] at h2'
      omega
  refine ⟨hlt, Nat.le_trans g2 hk, g3', fun k h5 => by simpa using g4 k (Nat.zero_le _) h5, h2', ?_⟩
  have := h4 (raiA i p + 1) (by show raiA i p < _; omega) (by omega)
  simpa using this
theorem LowP.unique {i : Nat} {p : List Stp} {a b : Nat} (h : LowP i p a b) (hbet : ∀ k, a < k → k ≤ b → htAt i p k < lowT i p) : lowA i p = a ∧ lowB i p = b := by
  have e : lowA i p = a := lastEq_of (f := fun k => htAt i p k == minHt i p p.length) (by have := h.ab; have := h.bn; omega) (by simpa using h.ha) fun k h1 h2 => by simpa using h.aft k h1 h2
  refine ⟨e, ?_⟩
  unfold lowB
  rw [e]
  exact firstEq_of (f := fun k => decide (lowT i p ≤ htAt i p (k + 1))) h.ab (by have := h.bn; omega) (by simpa using h.hb1) fun j h1 h2 => by simpa using hbet (j + 1) (by omega) (by omega)
theorem lowB_before {i : Nat} {p : List Stp} (h : lowT i p ≤ htAt i p p.length) : ∀ k, lowA i p < k → k ≤ lowB i p → htAt i p k < lowT i p := by
  have hp := low_places h
  obtain ⟨g1, g2, g3, g4⟩ := firstEq_spec (f := fun k => decide (lowT i p ≤ htAt i p (k + 1))) (n := p.length) (k := lowA i p) (a := p.length - 1) (by have := hp.ab; have := hp.bn; omega) (by omega) (by have := hp.bn; rw [show p.length - 1 + 1 = p.length by omega]; simpa using h)
  intro k h1 h2
  have := g4 (k - 1) (by omega) (by show k - 1 < lowB i p; omega)
  rw [show k - 1 + 1 = k by omega] at this
  simpa using this
theorem raiA_after {i : Nat} {p : List Stp} (h : lowT i p ≤ 0) : ∀ k, raiA i p < k → k ≤ raiB i p → htAt i p k < lowT i p := by
  obtain ⟨h1, h2, _, h4⟩ := lastEq_spec (f := fun k => decide (lowT i p ≤ htAt i p k)) (n := raiB i p) (a := 0) (Nat.zero_le _) (decide_eq_true (show lowT i p ≤ htAt i p 0 from h))
  intro k h5 h6
  simpa using h4 k h5 h6
/-- the height that a step reaches, and the time within it -/
theorem cross_pos {d s l : Int} (h0 : 0 < d) (h1 : d ≤ l * s) (hl : 0 ≤ l) (hm : d.tmod s = 0) : 0 < s ∧ 0 ≤ d.tdiv s ∧ d.tdiv s ≤ l ∧ d.tdiv s * s = d := by
  have hs : 0 < s := by
    rcases Int.lt_or_le 0 s with h | h
    · exact h
    · exfalso
      have := Int.mul_le_mul_of_nonneg_left h hl
      omega
  have e : d.tdiv s * s = d := by
    have := Int.mul_tdiv_add_tmod d s
    rw [hm, Int.add_zero, Int.mul_comm] at this
    exact this
  have h2 : 0 ≤ d.tdiv s := Int.tdiv_nonneg (by omega) (by omega)
  refine ⟨hs, h2, ?_, e⟩
  rcases Int.lt_or_le l (d.tdiv s) with h | h
  · exfalso
    have := Int.mul_lt_mul_of_pos_right h hs
    omega
  · exact h
theorem tmod_neg_right (a b : Int) : a.tmod (-b) = a.tmod b := Int.tmod_neg a b

/-- raising is lowering of the path gone back -/
theorem rai_eq {r : Nat} {R : List Int → List Int} (hR : ∀ w, R (negW w) = negW (R w)) {i : Nat} {p : List Stp} (hl : Lens p) : (lowS r R i (mirS p)).map mirS = raiS r R i p := by
  have hh := htAt_mir i p
  have ht := timeAt_mir p
  obtain ⟨km, hkm, hkm2⟩ := minHt_at i p p.length
  have hmin : minHt i (mirS p) (mirS p).length = minHt i p p.length - htAt i p p.length := by
    rw [mirS_length]
    refine minHt_eq (k := p.length - km) (by omega) ?_ fun j hj => ?_
    · rw [hh _ (by omega), show p.length - (p.length - km) = km by omega, hkm2]
    · rw [hh j hj]
      have := minHt_le i p p.length (p.length - j) (by omega)
      omega
  have hT : lowT i (mirS p) = lowT i p - htAt i p p.length := by unfold lowT; rw [hmin]; omega
  have hn : htAt i (mirS p) (mirS p).length = - htAt i p p.length := by
    rw [mirS_length, hh _ (Nat.le_refl _), Nat.sub_self]
    simp [htAt]
  unfold lowS raiS
  rw [hn, hT]
  by_cases hc : 0 < lowT i p
  · rw [if_pos (by omega), if_pos hc]
    rfl
  · rw [if_neg (by omega), if_neg hc]
    have hr := rai_places (i := i) (p := p) (by omega)
    have hra := raiA_after (i := i) (p := p) (by omega)
    generalize raiA i p = a at *
    generalize raiB i p = b at *
    obtain ⟨r1, r2, r3, r4, r5, r6⟩ := hr
    have hlow : LowP i (mirS p) (p.length - b) (p.length - 1 - a) := by
      refine ⟨by omega, by rw [mirS_length]; omega, ?_, fun k h1 h2 => ?_, ?_, ?_⟩
      · rw [hmin, hh _ (by omega), show p.length - (p.length - b) = b by omega, r3]
      · rw [mirS_length] at h2
        rw [hmin, hh k h2]
        have := r4 (p.length - k) (by omega)
        omega
      · rw [hT, hh _ (by omega), show p.length - (p.length - 1 - a) = a + 1 by omega]
        omega
      · rw [hT, hh _ (by omega), show p.length - (p.length - 1 - a + 1) = a by omega]
        omega
    obtain ⟨ea, eb⟩ := hlow.unique fun k h1 h2 => by
      rw [hT, hh k (by omega)]
      have := hra (p.length - k) (by omega) (by omega)
      omega
    rw [ea, eb]
    have hs : slopeAt i (mirS p) (p.length - 1 - a) = - slopeAt i p a := by
      unfold slopeAt
      rw [(mirS_get p _ (by omega)).1, show p.length - 1 - (p.length - 1 - a) = a by omega, negW_getD]
    have hH : htAt i p (a + 1) = htAt i p a + lenAt p a * slopeAt i p a := rfl
    have e1 : lowT i p - htAt i p p.length - htAt i (mirS p) (p.length - 1 - a) = lowT i p - htAt i p (a + 1) := by
      rw [hh _ (by omega), show p.length - (p.length - 1 - a) = a + 1 by omega]
      omega
    rw [e1, hs, tmod_neg_right]
    have hla := hl a (by omega)
    have hdd : lowT i p - htAt i p (a + 1) = lowT i p - htAt i p a - lenAt p a * slopeAt i p a := by omega
    have hmm : (lowT i p - htAt i p (a + 1)).tmod (slopeAt i p a) = 0 ↔ (lowT i p - htAt i p a).tmod (slopeAt i p a) = 0 := by
      rw [← Int.dvd_iff_tmod_eq_zero, ← Int.dvd_iff_tmod_eq_zero, hdd]
      exact ⟨fun h => by have := Int.dvd_add h (Int.dvd_mul_left (lenAt p a) (slopeAt i p a)); rwa [Int.sub_add_cancel] at this, fun h => Int.dvd_sub h (Int.dvd_mul_left _ _)⟩
    by_cases hd : (lowT i p - htAt i p a).tmod (slopeAt i p a) = 0
    · have hd' := hmm.2 hd
      rw [if_pos hd', if_pos hd]
      have hd2 : (lowT i p - htAt i p (a + 1)).tmod (-slopeAt i p a) = 0 := by rw [tmod_neg_right]; exact hd'
      obtain ⟨c1, c2, c3, c4⟩ := cross_pos (d := lowT i p - htAt i p (a + 1)) (s := - slopeAt i p a) (l := lenAt p a) (by omega) (by rw [Int.mul_neg]; omega) hla hd2
      have e2 : (lowT i p - htAt i p a).tdiv (slopeAt i p a) = lenAt p a - (lowT i p - htAt i p (a + 1)).tdiv (-slopeAt i p a) := by
        have h3 : (lenAt p a - (lowT i p - htAt i p (a + 1)).tdiv (-slopeAt i p a)) * slopeAt i p a = lowT i p - htAt i p a := by
          rw [Int.sub_mul]
          rw [Int.mul_neg] at c4
          omega
        rw [← h3]
        exact Int.mul_tdiv_cancel _ (by omega)
      rw [e2]
      generalize (lowT i p - htAt i p (a + 1)).tdiv (-slopeAt i p a) = q at *
      have hsa : timeAt p (a + 1) = timeAt p a + lenAt p a := rfl
      have hab := timeAt_le hl (show a + 1 ≤ b by omega) r2
      have e3 : timeAt (mirS p) (p.length - b) = timeAt p p.length - timeAt p b := by rw [ht _ (by omega), show p.length - (p.length - b) = b by omega]
      have e4 : timeAt (mirS p) (p.length - 1 - a) + q = timeAt p p.length - (timeAt p a + (lenAt p a - q)) := by
        rw [ht _ (by omega), show p.length - (p.length - 1 - a) = a + 1 by omega]
        omega
      rw [e3, e4]
      have huv : timeAt p a + (lenAt p a - q) ≤ timeAt p b := by omega
      have hj := bet_mir R hR hl huv
      have hnn : ∀ s ∈ betS R (timeAt p a + (lenAt p a - q)) (timeAt p b) p, 0 ≤ s.2 := bet_nonneg R hl huv p.length (Nat.le_refl _)
      have h5 : checkS r (betS R (timeAt p p.length - timeAt p b) (timeAt p p.length - (timeAt p a + (lenAt p a - q))) (mirS p)) = checkS r (mirS (betS R (timeAt p a + (lenAt p a - q)) (timeAt p b) p)) := by
        unfold checkS
        rw [hj]
      rw [h5, check_mir hnn]
      cases checkS r (betS R (timeAt p a + (lenAt p a - q)) (timeAt p b) p) with
      | none => rfl
      | some x => simp [mirS_mirS]
    · rw [if_neg (fun h => hd (hmm.1 h)), if_neg hd]
      rfl
end Go.Proofs.YtfikkfbnlegflaaGreatDoor
