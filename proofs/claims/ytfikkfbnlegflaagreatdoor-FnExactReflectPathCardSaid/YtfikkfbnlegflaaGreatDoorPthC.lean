/-
  Paths put together by the reference: l9Add, l9Join.
-/
import Derived.Test.YtfikkfbnlegflaaGreatDoorPthR
import Derived.Test.YtfikkfbnlegflaaGreatDoorL1I
import Derived.Test.YtfikkfbnlegflaaGreatDoorOwnB
namespace Go.Proofs.YtfikkfbnlegflaaGreatDoor
open Go.RowKit

/-- steps, read, a way that is nil having no room -/
structure StepsAt (w : World) (a : Option Addr) (n : Nat) (xs : List Stp) : Prop where
  len : xs.length = n
  get : ∀ k, k < n → ∃ b o aw cw, a = some ⟨b, o, none⟩ ∧ w.cell? ⟨b, o + k * 2, none⟩ = some (.slice aw (wayAt xs k).length cw) ∧ w.cell? ⟨b, o + k * 2 + 1, none⟩ = some (.int .i64 (lenAt xs k)) ∧
    IntsAt w aw (wayAt xs k).length (wayAt xs k) ∧ (wayAt xs k).length ≤ 9223372036854775807 ∧ (aw = none → cw = 0)
theorem StepsAt.terms {w : World} {a : Option Addr} {n : Nat} {xs : List Stp} (h : StepsAt w a n xs) : TermsAt w a n xs :=
  ⟨h.len, fun i hi => by
    obtain ⟨b, o, aw, cw, e, h1, h2, h3, h4, _⟩ := h.get i hi
    exact ⟨b, o, aw, cw, e, h1, h2, h3, h4⟩⟩
theorem StepsAt.below {w w' : World} {a : Option Addr} {n : Nat} {xs : List Stp} (h : StepsAt w a n xs) (hb : Ext w w') : StepsAt w' a n xs := by
  refine ⟨h.len, fun i hi => ?_⟩
  obtain ⟨b, o, aw, cw, rfl, h1, h2, h3, h4, h5⟩ := h.get i hi
  have hl := World.block_lt_of_cell? w _ h1
  exact ⟨b, o, aw, cw, rfl, (hb.cell (p := ⟨b, o + i * 2, none⟩) hl).trans h1, (hb.cell (p := ⟨b, o + i * 2 + 1, none⟩) hl).trans h2, h3.below hb, h4, h5⟩
theorem StepsAt.way {w : World} {a : Option Addr} {n : Nat} {xs : List Stp} (h : StepsAt w a n xs) (k : Nat) (hk : k < n) :
    ∃ b o aw cw, ∃ W : List Int, ∃ L : Int, a = some ⟨b, o, none⟩ ∧ Hid (wayAt xs k = W) ∧ Hid (lenAt xs k = L) ∧ W.length ≤ 9223372036854775807 ∧ Hid (aw = none → cw = 0) ∧
      ∀ w', Ext w w' → w'.cell? ⟨b, o + k * 2, none⟩ = some (.slice aw W.length cw) ∧ w'.cell? ⟨b, o + k * 2 + 1, none⟩ = some (.int .i64 L) ∧ IntsAt w' aw W.length W := by
  obtain ⟨b, o, aw, cw, e, h1, h2, h3, h4, h5⟩ := h.get k hk
  refine ⟨b, o, aw, cw, wayAt xs k, lenAt xs k, e, rfl, rfl, h4, h5, fun w' hx => ?_⟩
  have hl := World.block_lt_of_cell? w _ h1
  exact ⟨(hx.cell (p := ⟨b, o + k * 2, none⟩) hl).trans h1, (hx.cell (p := ⟨b, o + k * 2 + 1, none⟩) hl).trans h2, h3.below hx⟩
theorem OwnK.stepCell {w : World} {B U : Nat} {a : Option Addr} {n c : Nat} {hs : List Hdr} {xs : List Stp} (h : OwnK stepK w B U a n c hs xs) (k : Nat) (hk : k < n) :
    ∃ g aw cw, a = some ⟨g, 0, none⟩ ∧ hs.getD k (none, 0) = (aw, cw) ∧ w.cell? ⟨g, k * 2, none⟩ = some (.slice aw (wayAt xs k).length cw) ∧ w.cell? ⟨g, k * 2 + 1, none⟩ = some (.int .i64 (lenAt xs k)) ∧
    w.frozen? ⟨g, k * 2, none⟩ = false ∧ w.frozen? ⟨g, k * 2 + 1, none⟩ = false ∧ OwnI w B aw (wayAt xs k).length cw (wayAt xs k) := by
  obtain ⟨g, rfl, hc, hf⟩ := h.cell k 0 hk (by decide)
  obtain ⟨g', e, hc', hf'⟩ := h.cell k 1 hk (by decide)
  simp only [Option.some.injEq, Addr.mk.injEq, and_true] at e
  subst e
  rw [show k * stepK.size + 0 = k * 2 from rfl] at hc hf
  rw [show k * stepK.size + 1 = k * 2 + 1 from rfl] at hc' hf'
  exact ⟨g, (hs.getD k (none, 0)).1, (hs.getD k (none, 0)).2, rfl, rfl, hc, hc', hf, hf', h.each k hk⟩
theorem OwnK.stepsAt {w : World} {B U : Nat} {a : Option Addr} {n c : Nat} {hs : List Hdr} {xs : List Stp} (h : OwnK stepK w B U a n c hs xs) : StepsAt w a n xs := by
  refine ⟨h.xl, fun k hk => ?_⟩
  obtain ⟨g, aw, cw, rfl, _, h1, h2, _, _, h5⟩ := h.stepCell k hk
  exact ⟨g, 0, aw, cw, rfl, by rw [Nat.zero_add]; exact h1, by rw [Nat.zero_add]; exact h2, h5.ints, h5.small, h5.nil_cap⟩
theorem addS_at {xs : List Stp} {m : Nat} (h : xs.length = m + 1) (s : Stp) (hs : s.2 ≠ 0) : addS xs s = if wayAt xs m = s.1 then xs.set m (wayAt xs m, lenAt xs m + s.2) else xs ++ [s] := by
  rcases snoc_cases xs with rfl | ⟨o, l, rfl⟩
  · simp at h
  · obtain rfl : o.length = m := by simpa using h
    rw [addS_snoc _ _ _ hs, wayAt_snoc, lenAt_snoc]
    split
    · simp
    · rfl
theorem addS_first {xs : List Stp} (h : xs.length = 0) (s : Stp) (hs : s.2 ≠ 0) : addS xs s = xs ++ [s] := by
  obtain rfl := List.eq_nil_of_length_eq_zero h
  rw [addS_nil _ hs, List.nil_append]
theorem Tryz.info69 : (Tryz.prog.info? 69).map (fun i => (i.zero, i.size, i.bytes)) = some (some (.agg #[.slice none 0 0, .int .i64 0]), 2, 32) := by kernel_rfl
/-- what is new is apart from all that was -/
theorem OwnK.new_apart {w w' : World} {B U B' : Nat} {a a' : Option Addr} {n c n' c' : Nat} {hs : List Hdr} {xs : List Stp} {ys : List Int} (h : OwnK stepK w B U a n c hs xs) (hi : OwnI w' B' a' n' c' ys) (hB : w.heap.size ≤ B') :
    (∀ i, i < n → Apart (hs.getD i (none, 0)).1 a') ∧ Apart a a' :=
  ⟨fun i hi' b o b' o' e e' => by have := ((h.each i hi').at_base b o e).2; have := (hi.at_base b' o' e').1; omega,
   fun b o b' o' e e' => by have := (h.base_lt b o e).2; have := (hi.at_base b' o' e').1; omega⟩

set_option maxRecDepth 100000 in
set_option maxHeartbeats 4000000 in
theorem l9Add_any (B : Nat) (ao : Option Addr) (m co : Nat) (hs : List Hdr) (xs : List Stp) (aw : Option Addr) (cw : Nat) (W : List Int) (L : Int) (w : World) (ho : OwnK stepK w B w.heap.size ao m co hs xs)
    (hway : IntsAt w aw W.length W) (hnil : aw = none → cw = 0) (hk : W.length ≤ 1000000) (hm : m ≤ 1000000) (hB : B ≤ w.heap.size) (hL0 : 0 ≤ L) (hL1 : L ≤ 1000000000000) (hls : ∀ i, i < m → 0 ≤ lenAt xs i ∧ lenAt xs i ≤ 1000000000000) :
    Calls Tryz.prog 102 #[.slice ao m co, .slice aw W.length cw, .int .i64 L] w fun e w' => ∃ a' n' c' hs', e = .returned (.slice a' n' c') ∧ OwnK stepK w' B w'.heap.size a' n' c' hs' (addS xs (W, L)) ∧ Below B w w' := by
  have HO := hidP ho
  have HWy := hidP hway
  have HN := hidP hnil
  have hxl := ho.xl
  have HB := hidP hB
  clear ho hway hnil hB
  by_cases hL : L = 0
  · subst hL
    have HS := hidP (addS_zero xs (W, 0) rfl)
    clear hxl
    go_enter Tryz.func102, Tryz.ntmps102
    go_wp2
    go_ret
    exact ⟨_, _, _, hs, rfl, by rw [HS.out]; exact HO.out, Below.refl _ _⟩
  · have hL' : (L == 0) = false := by simpa using hL
    have HI := hidP (fun w' (hx : Ext w w') => l1Ints_any aw W.length cw W w' (HWy.out.below hx) HN.out (by omega))
    -- the way behind: the step is new
    have hnew : ∀ (w0 : World), Ext w w0 → addS xs (W, L) = xs ++ [(W, L)] → True := fun _ _ _ => trivial
    clear hnew
    have hLne : (W, L).2 ≠ 0 := hL
    cases m with
    | zero =>
      have HS := hidP (addS_first hxl (W, L) hLne)
      clear hxl hL hLne hls
      go_enter Tryz.func102, Tryz.ntmps102
      go_wp2_with fail
      refine (HI.out _ (Ext.refl _)).mono ?_
      rintro e w1 ⟨a1, c1, rfl, ho1, hx1⟩
      have HX2 := hidP (hx1.trans (Ext.alloc w1 (.cells #[.slice a1 W.length c1, .int .i64 L] 69)))
      have HO2 := hidP (HO.out.below HX2.out)
      have HI2 := hidP ((ho1.below (Ext.alloc w1 (.cells #[.slice a1 W.length c1, .int .i64 L] 69))))
      have HAp := hidP (HO.out.new_apart ho1 (Nat.le_refl _))
      have HCe : Hid (∀ j, j < stepK.size → (w1.alloc (.cells #[.slice a1 W.length c1, .int .i64 L] 69)).cell? ⟨w1.heap.size, j, none⟩ = (stepK.cells a1 c1 (W, L))[j]?) := fun j _ => (cell_top _ _ _ _ _ rfl).trans (by simp [stepK])
      clear ho1 hx1 HI
      go_wp2_with (at_builtin; refine wpList_append_elem2 stepK 28 (.agg #[.slice none 0 0, .int .i64 0]) 32 rfl (.tmp 39) (.tmp 44) rfl Tryz.underlying28 Tryz.info69 rfl (by omega) B _ ao 0 co hs xs rfl HO2.out w1.heap.size 1 (a1, c1) (W, L) rfl HCe.out (HI2.out.base HB.out) HAp.out.1 HAp.out.2 (by omega) (Nat.le_trans HB.out HX2.out.size) ?_; intro a3 c3 w3 ho3 hg3 hn3; have HX3 := hidP (HO2.out.below_grown hg3 (show Below B w _ from Below.mono HX2.out HB.out) (Nat.le_trans HB.out HX2.out.size)); have HO3 := hidP ho3; clear ho3 hg3 hn3)
      go_ret
      exact ⟨_, _, _, _, rfl, by rw [HS.out]; exact HO3.out, HX3.out⟩
    | succ m =>
      have HS := hidP (addS_at hxl (W, L) hLne)
      obtain ⟨g, al, cl, rfl, hh, q1, q2, r1, r2, hol⟩ := HO.out.stepCell m (by omega)
      have hl2 := hls m (by omega)
      have hw64 : (wayAt xs m).length ≤ 9223372036854775807 := hol.small
      have HSame := hidP (l1Same_any al aw _ W.length cl cw _ W w hol.ints HWy.out hw64 (by omega))
      have HSt := hidP (fun w' (h : OwnK stepK w' B w.heap.size (some ⟨g, 0, none⟩) (m + 1) co hs xs) => h.stored m 1 (by omega) (by decide) (.int .i64 (lenAt xs m + L)) (wayAt xs m, lenAt xs m + L) rfl rfl rfl)
      obtain ⟨V, hV⟩ : ∃ V, V = wayAt xs m := ⟨_, rfl⟩
      obtain ⟨M, hM⟩ : ∃ M, M = lenAt xs m := ⟨_, rfl⟩
      rw [← hV, ← hM] at HS HSt
      rw [← hV] at HSame q1 hol hw64
      rw [← hM] at q2 hl2
      have hmi : 0 ≤ (m : Int) := by omega
      have hgB := hidP (HO.out.base_lt g 0 rfl)
      clear hxl hL hLne hls hh hV hM hol
      cases hb : (V == W)
      · rw [hb] at HSame
        have HS2 : Hid (addS xs (W, L) = xs ++ [(W, L)]) := by
          show _ = _
          rw [HS.out, if_neg (by simpa using hb)]
        clear hb HS HSt
        go_enter Tryz.func102, Tryz.ntmps102
        go_wp2_with fail
        refine HSame.out.mono ?_
        rintro e w0 ⟨rfl, q, rfl⟩
        go_wp2_with fail
        refine (HI.out _ (Ext.drewN w q)).mono ?_
        rintro e w1 ⟨a1, c1, rfl, ho1, hx1⟩
        have HX2 := hidP (((Ext.drewN w q).trans hx1).trans (Ext.alloc w1 (.cells #[.slice a1 W.length c1, .int .i64 L] 69)))
        have HO2 := hidP (HO.out.below HX2.out)
        have HI2 := hidP ((ho1.below (Ext.alloc w1 (.cells #[.slice a1 W.length c1, .int .i64 L] 69))))
        have HAp := hidP (HO.out.new_apart ho1 (Nat.le_refl _))
        have HCe : Hid (∀ j, j < stepK.size → (w1.alloc (.cells #[.slice a1 W.length c1, .int .i64 L] 69)).cell? ⟨w1.heap.size, j, none⟩ = (stepK.cells a1 c1 (W, L))[j]?) := fun j _ => (cell_top _ _ _ _ _ rfl).trans (by simp [stepK])
        clear ho1 hx1 HI q1 q2 r1 r2
        go_wp2_with (at_builtin; refine wpList_append_elem2 stepK 28 (.agg #[.slice none 0 0, .int .i64 0]) 32 rfl (.tmp 39) (.tmp 44) rfl Tryz.underlying28 Tryz.info69 rfl (by omega) B _ (some ⟨g, 0, none⟩) (m + 1) co hs xs rfl HO2.out w1.heap.size 1 (a1, c1) (W, L) rfl HCe.out (HI2.out.base HB.out) HAp.out.1 HAp.out.2 (by omega) (Nat.le_trans HB.out HX2.out.size) ?_; intro a3 c3 w3 ho3 hg3 hn3; have HX3 := hidP (HO2.out.below_grown hg3 (show Below B w _ from Below.mono HX2.out HB.out) (Nat.le_trans HB.out HX2.out.size)); have HO3 := hidP ho3; clear ho3 hg3 hn3)
        go_ret
        exact ⟨_, _, _, _, rfl, by rw [HS2.out]; exact HO3.out, HX3.out⟩
      · rw [hb] at HSame
        have HS2 : Hid (addS xs (W, L) = xs.set m (V, M + L)) := by
          show _ = _
          rw [HS.out, if_pos (by simpa using hb)]
        have hwr : IntKind.i64.wrap (M + L) = M + L := wrap_in (by omega) (by omega)
        clear hb HS HI
        go_enter Tryz.func102, Tryz.ntmps102
        go_wp2_with fail
        refine HSame.out.mono ?_
        rintro e w0 ⟨rfl, q, rfl⟩
        go_wp2
        go_ret
        refine ⟨_, _, _, hs, rfl, ?_, ?_⟩
        · rw [HS2.out]
          have := HSt.out _ (HO.out.below (Ext.drewN w q))
          refine OwnK.weaken this (Nat.le_refl _) ?_
          simp [World.setCell]
        · exact Below.setCell (p := ⟨g, m * 2 + 1, none⟩) (Below.mono (Ext.drewN w q) HB.out) hgB.out.1 _
/-! ### l9Join -/
def joinTo (o p : List Stp) (k : Nat) : List Stp := (p.take k).foldl addS o
theorem joinTo_succ (o p : List Stp) {k : Nat} (h : k < p.length) : joinTo o p (k + 1) = addS (joinTo o p k) (wayAt p k, lenAt p k) := by
  unfold joinTo
  rw [List.take_succ_eq_append_getElem h, List.foldl_append]
  simp [wayAt, lenAt, List.getD_eq_getElem?_getD, h]
theorem joinS_append (p q : List Stp) : joinS (p ++ q) = joinTo (joinTo [] p p.length) q q.length := by
  unfold joinS joinTo
  rw [List.foldl_append, List.take_length, List.take_length]
theorem joinS_to (p : List Stp) : joinS p = joinTo [] p p.length := by
  unfold joinS joinTo
  rw [List.take_length]
theorem addS_length (o : List Stp) (s : Stp) : (addS o s).length ≤ o.length + 1 := by
  by_cases h : s.2 = 0
  · rw [addS_zero _ _ h]; omega
  · rcases snoc_cases o with rfl | ⟨o, l, rfl⟩
    · rw [addS_nil _ h]; simp
    · rw [addS_snoc _ _ _ h]
      split <;> simp
theorem joinTo_length (o p : List Stp) : ∀ k, (joinTo o p k).length ≤ o.length + k
  | 0 => by simp [joinTo]
  | k + 1 => by
    by_cases h : k < p.length
    · rw [joinTo_succ _ _ h]
      have := addS_length (joinTo o p k) (wayAt p k, lenAt p k)
      have := joinTo_length o p k
      omega
    · have : joinTo o p (k + 1) = joinTo o p k := by unfold joinTo; rw [List.take_of_length_le (by omega), List.take_of_length_le (by omega)]
      rw [this]
      have := joinTo_length o p k
      omega
theorem addS_lens {o : List Stp} {s : Stp} {D C : Int} (ho : ∀ i, i < o.length → 0 ≤ lenAt o i ∧ lenAt o i ≤ D) (hs : 0 ≤ s.2 ∧ s.2 ≤ C) (hD : 0 ≤ D) : ∀ i, i < (addS o s).length → 0 ≤ lenAt (addS o s) i ∧ lenAt (addS o s) i ≤ D + C := by
  have hC : 0 ≤ C := by omega
  by_cases h : s.2 = 0
  · rw [addS_zero _ _ h]
    intro i hi
    have := ho i hi
    omega
  · rcases Nat.eq_zero_or_pos o.length with h0 | h0
    · rw [addS_first h0 _ h]
      obtain rfl := List.eq_nil_of_length_eq_zero h0
      intro i hi
      obtain rfl : i = 0 := by simp at hi; omega
      show 0 ≤ s.2 ∧ s.2 ≤ _
      omega
    · obtain ⟨m, hm⟩ : ∃ m, o.length = m + 1 := ⟨o.length - 1, by omega⟩
      rw [addS_at hm _ h]
      intro i hi
      split at hi <;> split
      · rw [List.length_set] at hi
        unfold lenAt
        rw [OwnK.getD_set _ _ _ _ _ (by omega)]
        split
        · have := ho m (by omega)
          show 0 ≤ lenAt o m + s.2 ∧ lenAt o m + s.2 ≤ _
          omega
        · have := ho i hi
          unfold lenAt at this
          omega
      · contradiction
      · contradiction
      · rw [List.length_append, List.length_cons, List.length_nil] at hi
        by_cases hi2 : i < o.length
        · rw [lenAt_app _ _ _ hi2]
          have := ho i hi2
          omega
        · obtain rfl : i = o.length := by omega
          rw [lenAt_snoc]
          omega
theorem joinTo_lens {o p : List Stp} {D C : Int} (ho : ∀ i, i < o.length → 0 ≤ lenAt o i ∧ lenAt o i ≤ D) (hp : ∀ i, i < p.length → 0 ≤ lenAt p i ∧ lenAt p i ≤ C) : ∀ k, k ≤ p.length → 0 ≤ D → 0 ≤ C → ∀ i, i < (joinTo o p k).length → 0 ≤ lenAt (joinTo o p k) i ∧ lenAt (joinTo o p k) i ≤ D + C * k
  | 0, _, _, _ => by simpa [joinTo] using ho
  | k + 1, hk, hD, hC => by
    rw [joinTo_succ _ _ (by omega)]
    have h1 := joinTo_lens ho hp k (by omega) hD hC
    have hCk : 0 ≤ C * k := Int.mul_nonneg hC (by omega)
    intro i hi
    have := addS_lens (s := (wayAt p k, lenAt p k)) (C := C) h1 (hp k (by omega)) (by omega) i hi
    rw [show ((k + 1 : Nat) : Int) = (k : Int) + 1 from rfl, Int.mul_add, Int.mul_one]
    omega

set_option maxRecDepth 100000 in
set_option maxHeartbeats 4000000 in
theorem l9Join_any (ap : Option Addr) (np cp : Nat) (ps : List Stp) (aq : Option Addr) (nq cq : Nat) (qs : List Stp) (w : World) (hp : StepsAt w ap np ps) (hq : StepsAt w aq nq qs) (hN : np + nq ≤ 100000)
    (hbp : ∀ k, k < np → (wayAt ps k).length ≤ 1000000 ∧ 0 ≤ lenAt ps k ∧ lenAt ps k ≤ 1000000) (hbq : ∀ k, k < nq → (wayAt qs k).length ≤ 1000000 ∧ 0 ≤ lenAt qs k ∧ lenAt qs k ≤ 1000000) :
    Calls Tryz.prog 63 #[.slice ap np cp, .slice aq nq cq] w fun e w' => ∃ a' n' c' hs', e = .returned (.slice a' n' c') ∧ OwnK stepK w' w.heap.size w'.heap.size a' n' c' hs' (joinS (ps ++ qs)) ∧ Ext w w' := by
  have GP := hidP hp
  have GQ := hidP hq
  have BP := hidP hbp
  have BQ := hidP hbq
  have hNN := hidP hN
  have hnpb : np ≤ 100000 := by omega
  have hnqb : nq ≤ 100000 := by omega
  clear hp hq hbp hbq hN
  have HM0 := hidP (OwnK.made0 stepK w)
  have HX0 := hidP (Ext.alloc w (.cells #[] 69))
  go_enter Tryz.func63, Tryz.ntmps63
  go_wp2
  go_loopw [5, 6] (fun out i wr => ∃ (k : Nat) (ao : Option Addr) (mo co : Nat) (hs : List Hdr), k ≤ np ∧ out = .slice ao mo co ∧ i = .int .i64 k ∧ Hid (OwnK stepK wr w.heap.size wr.heap.size ao mo co hs (joinTo ([] : List Stp) ps k)) ∧ Hid (Ext w wr)) (fun _ i _ => np - (intOf i).toNat)
  case atStart => exact ⟨0, _, _, _, [], Nat.zero_le _, rfl, rfl, HM0, HX0⟩
  case round =>
    obtain ⟨k, ao, mo, co, hs, hk, rfl, rfl, HO, HX⟩ := hrel
    by_cases hlt : k < np
    · obtain ⟨b, o, aw, cw, W, L, rfl, HW, HL, hwl, HNl, hq⟩ := GP.out.way k hlt
      have HQ := hidP hq
      clear hq
      have hbw := BP.out k hlt
      rw [HW.out, HL.out] at hbw
      have hmo : Hid (mo ≤ ([] : List Stp).length + k) := by
        show _ ≤ _
        rw [← HO.out.xl]
        exact joinTo_length _ _ _
      have HLn : Hid (∀ i, i < mo → 0 ≤ lenAt (joinTo ([] : List Stp) ps k) i ∧ lenAt (joinTo ([] : List Stp) ps k) i ≤ 1000000000000) := by
        show ∀ i, _
        intro i hi
        have := joinTo_lens (o := ([] : List Stp)) (p := ps) (C := 1000000) (D := (0 : Int)) (fun i hi => absurd hi (by simp)) (fun j hj => (BP.out j (by have := GP.out.len; omega)).2) k (by have := GP.out.len; omega) (by omega) (by omega) i (by rw [HO.out.xl]; exact hi)
        have := hNN.out
        omega
      have HAdd := hidP (fun w' (hx : Ext wr w') => l9Add_any w.heap.size ao mo co hs _ aw cw W L w' ((HO.out.below hx).weaken (Nat.le_refl _) hx.size) (HQ.out w' (HX.out.trans hx)).2.2 HNl.out hbw.1 (by have h1 := hmo.out; have h2 := hNN.out; simp only [List.length_nil] at h1; omega) (Nat.le_trans HX.out.size hx.size) hbw.2.1 (by omega) HLn.out)
      have HSu : Hid (joinTo ([] : List Stp) ps (k + 1) = addS (joinTo ([] : List Stp) ps k) (W, L)) := by
        show _ = _
        rw [joinTo_succ _ _ (by have := GP.out.len; omega), HW.out, HL.out]
      clear hbw
      go_wp2
      have hE : Ext w wr.drew := HX.out.trans (Ext.drew wr)
      (refine walkR_start (fun w' => Ext w w') 12 (by kernel_rfl) ?_; simp only [numbered, List.take_succ_cons, List.take_zero, Nat.zero_add, Nat.reduceAdd, List.length_cons, List.length_nil])
      (repeat (first | (refine walkR_still (v := ?_) rfl (by decide +kernel) rfl (fun _ _ _ h => h) hE ?_ ?_; rotate_left; (focus (intro w' hw'; obtain ⟨q1, q2, _⟩ := HQ.out w' hw'; go_simp; all_goals (with_reducible rfl))); simp only [Act.put, List.setIfInBounds_toArray, List.set_cons_zero, List.set_cons_succ]) | (refine walkR_skip rfl (by decide +kernel) rfl (fun _ _ _ h => h) hE ?_; simp only [Act.put, List.setIfInBounds_toArray, List.set_cons_zero, List.set_cons_succ])))
      (refine walkR_only (fun w' => Ext w w') rfl (by decide +kernel) rfl (fun _ h => h) ?_; intro K hK; go_simp; refine (HAdd.out _ (Ext.drew wr)).mono ?_; rintro e w2 ⟨a2, n2, c2, hs2, rfl, ho2, hb2⟩; refine hK _ _ (Below.trans hE hb2) ?_; clear hK K; (try simp only [Act.put, List.setIfInBounds_toArray, List.set_cons_zero, List.set_cons_succ]))
      have HX2 := hidP (Below.trans hE hb2)
      have HO2 := hidP ho2
      clear ho2 hb2
      (refine walkR_tail (by rfl) (by kernel_rfl) ?_; simp only [List.drop_succ_cons, List.drop_zero])
      go_wp2
      go_roundw
      case rel => exact ⟨k + 1, a2, n2, c2, hs2, by omega, rfl, by go_num, by rw [HSu.out]; exact HO2.out, HX2.out⟩
      case measure => simp [intOf]; omega
    · obtain rfl : np = k := by omega
      obtain ⟨J, hJ⟩ : ∃ J, J = joinTo ([] : List Stp) ps np := ⟨_, rfl⟩
      have HJn : Hid (J.length ≤ np) := by
        show _ ≤ _
        rw [hJ]
        have := joinTo_length ([] : List Stp) ps np
        simpa using this
      have HJl : Hid (∀ i, i < J.length → 0 ≤ lenAt J i ∧ lenAt J i ≤ (1000000 : Int) * np) := by
        show ∀ i, _
        rw [hJ]
        intro i hi
        have := joinTo_lens (o := ([] : List Stp)) (p := ps) (C := 1000000) (D := 0) (fun i hi => absurd hi (by simp)) (fun j hj => (BP.out j (by have := GP.out.len; omega)).2) np (by have := GP.out.len; omega) (by omega) (by omega) i hi
        omega
      have HEnd : Hid (joinS (ps ++ qs) = joinTo J qs nq) := by
        show _ = _
        rw [hJ, ← GQ.out.len, ← GP.out.len]
        exact joinS_append ps qs
      rw [← hJ] at HO
      clear hJ
      go_wp2
      go_loopw [5, 7] (fun out i wr => ∃ (j : Nat) (ao : Option Addr) (mo co : Nat) (hs : List Hdr), j ≤ nq ∧ out = .slice ao mo co ∧ i = .int .i64 j ∧ Hid (OwnK stepK wr w.heap.size wr.heap.size ao mo co hs (joinTo J qs j)) ∧ Hid (Ext w wr)) (fun _ i _ => nq - (intOf i).toNat)
      case atStart => exact ⟨0, ao, mo, co, hs, Nat.zero_le _, rfl, rfl, HO, HX⟩
      case round =>
        obtain ⟨k, ao, mo, co, hs, hk, rfl, rfl, HO, HX⟩ := hrel
        by_cases hlt : k < nq
        · obtain ⟨b, o, aw, cw, W, L, rfl, HW, HL, hwl, HNl, hq⟩ := GQ.out.way k hlt
          have HQ := hidP hq
          clear hq
          have hbw := BQ.out k hlt
          rw [HW.out, HL.out] at hbw
          have hmo : Hid (mo ≤ J.length + k) := by
            show _ ≤ _
            rw [← HO.out.xl]
            exact joinTo_length _ _ _
          have HLn : Hid (∀ i, i < mo → 0 ≤ lenAt (joinTo J qs k) i ∧ lenAt (joinTo J qs k) i ≤ 1000000000000) := by
            show ∀ i, _
            intro i hi
            have := joinTo_lens (o := J) (p := qs) (C := 1000000) (D := (1000000 : Int) * np) HJl.out (fun j hj => (BQ.out j (by have := GQ.out.len; omega)).2) k (by have := GQ.out.len; omega) (by omega) (by omega) i (by rw [HO.out.xl]; exact hi)
            have := hNN.out
            omega
          have HAdd := hidP (fun w' (hx : Ext wr w') => l9Add_any w.heap.size ao mo co hs _ aw cw W L w' ((HO.out.below hx).weaken (Nat.le_refl _) hx.size) (HQ.out w' (HX.out.trans hx)).2.2 HNl.out hbw.1 (by have h1 := hmo.out; have h2 := hNN.out; have := HJn.out; omega) (Nat.le_trans HX.out.size hx.size) hbw.2.1 (by omega) HLn.out)
          have HSu : Hid (joinTo J qs (k + 1) = addS (joinTo J qs k) (W, L)) := by
            show _ = _
            rw [joinTo_succ _ _ (by have := GQ.out.len; omega), HW.out, HL.out]
          clear hbw
          go_wp2
          have hE : Ext w wr.drew := HX.out.trans (Ext.drew wr)
          (refine walkR_start (fun w' => Ext w w') 12 (by kernel_rfl) ?_; simp only [numbered, List.take_succ_cons, List.take_zero, Nat.zero_add, Nat.reduceAdd, List.length_cons, List.length_nil])
          (repeat (first | (refine walkR_still (v := ?_) rfl (by decide +kernel) rfl (fun _ _ _ h => h) hE ?_ ?_; rotate_left; (focus (intro w' hw'; obtain ⟨q1, q2, _⟩ := HQ.out w' hw'; go_simp; all_goals (with_reducible rfl))); simp only [Act.put, List.setIfInBounds_toArray, List.set_cons_zero, List.set_cons_succ]) | (refine walkR_skip rfl (by decide +kernel) rfl (fun _ _ _ h => h) hE ?_; simp only [Act.put, List.setIfInBounds_toArray, List.set_cons_zero, List.set_cons_succ])))
          (refine walkR_only (fun w' => Ext w w') rfl (by decide +kernel) rfl (fun _ h => h) ?_; intro K hK; go_simp; refine (HAdd.out _ (Ext.drew wr)).mono ?_; rintro e w2 ⟨a2, n2, c2, hs2, rfl, ho2, hb2⟩; refine hK _ _ (Below.trans hE hb2) ?_; clear hK K; (try simp only [Act.put, List.setIfInBounds_toArray, List.set_cons_zero, List.set_cons_succ]))
          have HX2 := hidP (Below.trans hE hb2)
          have HO2 := hidP ho2
          clear ho2 hb2
          (refine walkR_tail (by rfl) (by kernel_rfl) ?_; simp only [List.drop_succ_cons, List.drop_zero])
          go_wp2
          go_roundw
          case rel => exact ⟨k + 1, a2, n2, c2, hs2, by omega, rfl, by go_num, by rw [HSu.out]; exact HO2.out, HX2.out⟩
          case measure => simp [intOf]; omega
        · obtain rfl : nq = k := by omega
          go_wp2
          go_ret
          exact ⟨ao, mo, co, hs, rfl, by rw [HEnd.out]; exact HO.out, HX.out⟩
end Go.Proofs.YtfikkfbnlegflaaGreatDoor
