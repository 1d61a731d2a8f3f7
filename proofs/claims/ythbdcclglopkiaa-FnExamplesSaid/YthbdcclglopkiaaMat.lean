/-
  Matrices as rows and back: slices.Grow and Concat, unit, rowsOf, matrixOf, UnitMatrix, span.
-/
import Derived.Test.YthbdcclglopkiaaRed2
import Derived.Lib.AppendZeros
import Derived.Test.YthbdcclglopkiaaLEnvT2
import Derived.Test.YthbdcclglopkiaaSp1
namespace Go.Proofs.Ythbdcclglopkiaa
open Go.RowKit

/-- a matrix's value -/
abbrev matV (p r s : Int) (a : Option Addr) (n c : Nat) : Value := .agg #[.int .i64 p, .int .i64 r, .int .i64 s, .slice a n c]
/-- the four cells of a matrix in a variable of its own -/
structure MatAt (w : World) (b : Nat) (p r s : Int) (a : Option Addr) (n c : Nat) : Prop where
  c0 : w.cell? ⟨b, 0, none⟩ = some (.int .i64 p)
  c1 : w.cell? ⟨b, 1, none⟩ = some (.int .i64 r)
  c2 : w.cell? ⟨b, 2, none⟩ = some (.int .i64 s)
  c3 : w.cell? ⟨b, 3, none⟩ = some (.slice a n c)
theorem MatAt.below {w w' : World} {b : Nat} {p r s : Int} {a : Option Addr} {n c : Nat} (h : MatAt w b p r s a n c) (hb : Ext w w') : MatAt w' b p r s a n c :=
  have hl := World.block_lt_of_cell? w _ h.c0
  ⟨(hb.cell (p := ⟨b, 0, none⟩) hl).trans h.c0, (hb.cell (p := ⟨b, 1, none⟩) hl).trans h.c1, (hb.cell (p := ⟨b, 2, none⟩) hl).trans h.c2, (hb.cell (p := ⟨b, 3, none⟩) hl).trans h.c3⟩
theorem MatAt.new (w : World) (b : Nat) (hb : b = w.heap.size) (p r s : Int) (a : Option Addr) (n c : Nat) (E : TypeId) : MatAt (w.alloc (.cells #[.int .i64 p, .int .i64 r, .int .i64 s, .slice a n c] E)) b p r s a n c :=
  ⟨(cell_top _ _ _ _ _ hb).trans rfl, (cell_top _ _ _ _ _ hb).trans rfl, (cell_top _ _ _ _ _ hb).trans rfl, (cell_top _ _ _ _ _ hb).trans rfl⟩

/-- rows of integers, read -/
structure RowsI (w : World) (a : Option Addr) (n : Nat) (rows : List (List Int)) : Prop where
  len : rows.length = n
  get : ∀ i, i < n → ∃ b o a' c', a = some ⟨b, o, none⟩ ∧ w.cell? ⟨b, o + i, none⟩ = some (.slice a' (rows.getD i []).length c') ∧ IntsAt w a' (rows.getD i []).length (rows.getD i []) ∧ (a' = none → c' = 0)
theorem RowsI.below {w w' : World} {a : Option Addr} {n : Nat} {rows : List (List Int)} (h : RowsI w a n rows) (hb : Ext w w') : RowsI w' a n rows := by
  refine ⟨h.len, fun i hi => ?_⟩
  obtain ⟨b, o, a', c', rfl, hc, hr, hn⟩ := h.get i hi
  exact ⟨b, o, a', c', rfl, (hb.cell (p := ⟨b, o + i, none⟩) (World.block_lt_of_cell? w _ hc)).trans hc, hr.below hb, hn⟩
theorem OwnK.rowsI {w : World} {B U : Nat} {a : Option Addr} {n c : Nat} {hs : List Hdr} {xs : List (List Int)} (h : OwnK rowK w B U a n c hs xs) : RowsI w a n xs := by
  refine ⟨h.xl, fun i hi => ?_⟩
  obtain ⟨g, rfl, hc, _⟩ := h.cell i 0 hi (by decide)
  rw [show i * rowK.size + 0 = i from by show i * 1 + 0 = i; omega] at hc
  exact ⟨g, 0, _, _, rfl, by rw [Nat.zero_add, hc]; rfl, (h.each i hi).ints, (h.each i hi).nil_cap⟩
theorem flatten_take_succ (rows : List (List Int)) (i : Nat) (hi : i < rows.length) : (rows.take (i + 1)).flatten = (rows.take i).flatten ++ rows.getD i [] := by
  rw [List.take_succ_eq_append_getElem hi, List.flatten_append]
  simp [List.getD_eq_getElem?_getD, hi]
theorem flatten_take_le (rows : List (List Int)) (i : Nat) : (rows.take i).flatten.length ≤ rows.flatten.length := by
  conv => rhs; rw [← List.take_append_drop i rows, List.flatten_append, List.length_append]
  omega
theorem ownI_zeros (w : World) (n m : Nat) (B : Nat) (hB : B ≤ w.heap.size) (cap : Nat) (hc : cap = n + m) (hm : cap ≤ maxLen) :
    OwnI (w.alloc (.cells (Builtin.zeroCells #[.int .i64 0] n ++ Builtin.zeroCells #[.int .i64 0] m) 3)) B (some ⟨w.heap.size, 0, none⟩) 0 cap [] := by
  refine ⟨by simp [ivs], .inr ⟨w.heap.size, cap, _, rfl, hB, heap_alloc_new _ _, Nat.zero_le _, hm, ?_, by simp [ivs]⟩⟩
  simp [Builtin.zeroCells, hc]

/-- a new slice without elements -/
theorem OwnK.made0 {α : Type} (K : Knd α) (w : World) : OwnK K (w.alloc (.cells #[] K.E)) w.heap.size (w.alloc (.cells #[] K.E)).heap.size (some ⟨w.heap.size, 0, none⟩) 0 0 [] [] := by
  refine ⟨⟨by simp [Knd.all], .inr ⟨w.heap.size, 0, #[], rfl, Nat.le_refl _, heap_alloc_new _ _, Nat.le_refl _, by unfold maxLen; omega, by simp, by simp [Knd.all]⟩⟩, rfl, rfl, fun i h => by omega, fun i j h => by omega, fun i h => by omega, fun b o e => ?_⟩
  simp only [Option.some.injEq, Addr.mk.injEq, and_true] at e
  simp [← e.1]

/-- slices.Grow of nil -/
theorem grow_any (n : Nat) (w : World) (hn : n ≤ 1000000000) :
    Calls Try.prog 116 #[.slice none 0 0, .int .i64 n] w fun e w' => ∃ a c, e = .returned (.slice a 0 c) ∧ OwnI w' w.heap.size a 0 c [] ∧ Ext w w' := by
  rcases Nat.eq_zero_or_pos n with h0 | h0
  · subst h0
    go_enter Try.func116, Try.ntmps116
    go_wp2
    go_ret
    exact ⟨_, _, rfl, OwnI.nil _ _, Ext.refl _⟩
  · obtain ⟨i, hi, hz0, hz1, hz2⟩ := info_parts Try.info3
    have hr := fun ty => Lib.run_append_nil_zeros (P := Try.prog) w 22 3 ty 3 i (.int .i64 0) .i64 .i64 Try.underlying22 Try.underlying3 hi hz0 n h0 (by omega) (by omega) (by rw [hz2]; omega)
    have hge := grownCap_ge w n 0 3
    have hle := grownCap_le_maxLen w n 0 3 (by unfold maxLen; omega)
    have HO := hidP (ownI_zeros w n (grownCap w n 0 3 - n) w.heap.size (Nat.le_refl _) (grownCap w n 0 3) (by omega) hle)
    have HR := hidP hr
    clear hr hge hle hi hz0 hz1 hz2
    generalize grownCap w n 0 3 = cap at *
    go_enter Try.func116, Try.ntmps116
    go_wp2_with (at_builtin; refine Lib.wpList_append_run _ rfl (.tmp 20) (.tmp 21) 22 3 rfl _ _ rfl rfl _ _ (HR.out _) ?_)
    go_ret
    exact ⟨_, _, rfl, HO.out.below (Ext.drew _), (Ext.alloc _ _).trans (Ext.drew _)⟩
set_option maxHeartbeats 1000000 in
theorem concat_any (a : Option Addr) (n c : Nat) (rows : List (List Int)) (w : World) (h : RowsI w a n rows) (hn : n ≤ 1000000000) (hl : rows.flatten.length ≤ 1000000000) :
    Calls Try.prog 105 #[.slice a n c] w fun e w' => ∃ a' c', e = .returned (.slice a' rows.flatten.length c') ∧ OwnI w' w.heap.size a' rows.flatten.length c' rows.flatten ∧ Ext w w' := by
  have G := hidP h
  have L := hidP h.len
  have HLE := hidP (fun i => Nat.le_trans (flatten_take_le rows i) hl)
  clear h
  go_enter Try.func105, Try.ntmps105
  go_wp2
  go_loop [3, 11] (fun v i => ∃ k m : Nat, k ≤ n ∧ i = .int .i64 k ∧ v = .int .i64 m ∧ Hid (m = (rows.take k).flatten.length)) (fun _ i => n - (intOf i).toNat)
  case atStart => exact ⟨0, 0, Nat.zero_le _, rfl, rfl, by show _ = _; simp⟩
  case round =>
    obtain ⟨k, m, hk, rfl, rfl, HM⟩ := hrel
    by_cases hlt : k < n
    · obtain ⟨b, o, a', c', rfl, q, _⟩ := G.out.get k hlt
      have hs := flatten_take_succ rows k (by have := L.out; omega)
      have hb := HLE.out (k + 1)
      rw [hs, List.length_append] at hb
      have hm := HM.out
      rw [← hm] at hb
      have HM2 : Hid (m + (rows.getD k []).length = (rows.take (k + 1)).flatten.length) := by show _ = _; rw [hs, List.length_append, hm]
      clear hs hm
      generalize (rows.getD k []).length = l at *
      go_wp2
      go_round
      case rel => exact ⟨k + 1, m + l, by omega, by go_num, by go_num, HM2⟩
      case measure => simp [intOf]; omega
    · obtain rfl : k = n := by omega
      have hm := HM.out
      rw [List.take_of_length_le (by have := L.out; omega)] at hm
      have HM2 := hidP hm
      have hmb : m ≤ 1000000000 := by omega
      have HG := hidP (grow_any m w hmb)
      clear hm HM
      go_wp2_with fail
      refine HG.out.mono ?_
      rintro e w1 ⟨ag, cg, rfl, hog, hxg⟩
      have HOG := hidP hog
      have HXG := hidP hxg
      clear hog hxg HG
      go_wp2
      go_loopw [6, 27] (fun v i wr => ∃ (j q : Nat) (av : Option Addr) (cv : Nat), j ≤ k ∧ i = .int .i64 j ∧ v = .slice av q cv ∧ Hid (OwnI wr w.heap.size av q cv (rows.take j).flatten) ∧ Hid (Ext w wr)) (fun _ i _ => k - (intOf i).toNat)
      case atStart => exact ⟨0, 0, _, _, Nat.zero_le _, rfl, rfl, HOG, HXG⟩
      case round =>
        obtain ⟨j, q0, av, cv, hj, rfl, rfl, HO, HX⟩ := hrel
        by_cases hjl : j < k
        · obtain ⟨b, o, a', c', rfl, q, hI, hnil⟩ := (G.out.below HX.out).get j hjl
          have HI := hidP hI
          have HN := hidP hnil
          have hs := flatten_take_succ rows j (by have := L.out; omega)
          have hb := HLE.out (j + 1)
          have hq0 := HO.out.len
          rw [hs, List.length_append, hq0] at hb
          have HS := hidP hs
          clear hs hI hnil hq0
          generalize (rows.getD j []).length = l at *
          go_wp2_with (at_builtin; refine wpList_append_ints rfl (.tmp 31) (.tmp 32) rfl w.heap.size av q0 cv _ rfl HO.out a' l c' _ rfl HI.out HN.out (by omega) HX.out.size ?_; intro a2 c2 w2 ho2 hg2; have HX2 := hidP (grown_ext hg2 HX.out HX.out.size (fun q e => HO.out.addr_base q e)); clear hg2)
          have HO2 : Hid (OwnI w2 w.heap.size a2 (q0 + l) c2 (rows.take (j + 1)).flatten) := by
            show OwnI _ _ _ _ _ _
            rw [HS.out]
            exact ho2
          clear ho2
          go_roundw
          case rel => exact ⟨j + 1, q0 + l, a2, c2, by omega, by go_num, rfl, HO2, HX2⟩
          case measure => simp [intOf]; omega
        · obtain rfl : j = k := by omega
          have ho := HO.out
          rw [List.take_of_length_le (by have := L.out; omega)] at ho
          have hq := ho.len
          have HQ := hidP hq
          have HO2 := hidP ho
          clear ho HO hq
          go_wp2
          go_ret
          rw [HQ.out]
          exact ⟨_, _, rfl, HO2.out, HX.out⟩
set_option maxHeartbeats 1000000 in
theorem matrixOf_any (p cols : Int) (a : Option Addr) (n c : Nat) (rows : List (List Int)) (w : World) (h : RowsI w a n rows) (hn : n ≤ 1000000000) (hl : rows.flatten.length ≤ 1000000000) :
    Calls Try.prog 78 #[.int .i64 p, .int .i64 cols, .slice a n c] w fun e w' => ∃ a' c', e = .returned (matV p n cols a' rows.flatten.length c') ∧ OwnI w' w.heap.size a' rows.flatten.length c' rows.flatten ∧ Ext w w' := by
  have hx0 := Ext.alloc w (.cells #[.int .i64 0, .int .i64 0, .int .i64 0, .slice none 0 0] 67)
  have HC := hidP (concat_any a n c rows _ (h.below hx0) hn hl)
  have hnew := fun w1 hx j => new_cell (w' := w1) (w := w) (cs := #[.int .i64 0, .int .i64 0, .int .i64 0, .slice none 0 0]) (E := 67) (b := w.heap.size) rfl hx j
  have HX0 := hidP hx0
  have hsz : w.heap.size < (w.alloc (.cells #[.int .i64 0, .int .i64 0, .int .i64 0, .slice none 0 0] 67)).heap.size := by simp
  obtain ⟨w0, hw0⟩ : ∃ w0, w0 = w.alloc (.cells #[.int .i64 0, .int .i64 0, .int .i64 0, .slice none 0 0] 67) := ⟨_, rfl⟩
  clear h hx0
  go_enter Try.func78, Try.ntmps78
  go_wp2_with fail
  rw [← hw0] at HC HX0 hnew hsz ⊢
  clear hw0
  refine HC.out.mono ?_
  rintro e w1 ⟨a', c', rfl, ho, hx⟩
  have HO := hidP ho
  have HX1 := hidP (HX0.out.trans hx)
  obtain ⟨r0, y0⟩ := hnew w1 hx 0
  obtain ⟨r1, y1⟩ := hnew w1 hx 1
  obtain ⟨r2, y2⟩ := hnew w1 hx 2
  obtain ⟨r3, y3⟩ := hnew w1 hx 3
  have r0 := r0.trans (show _ = some (Value.int .i64 0) from rfl)
  have r1 := r1.trans (show _ = some (Value.int .i64 0) from rfl)
  have r2 := r2.trans (show _ = some (Value.int .i64 0) from rfl)
  have r3 := r3.trans (show _ = some (Value.slice none 0 0) from rfl)
  generalize hq : rows.flatten.length = l at *
  have HQ := hidP hq
  clear hnew ho hx HC hq
  go_wp2
  refine bodyPost_ret (v := matV p n cols a' l c') (by simp [results, Try.results78, go_sem, r0, r1, r2, r3]) rfl ?_
  rw [HQ.out]
  refine ⟨_, _, rfl, ?_, ?_⟩
  · refine OwnI.base (B := w0.heap.size) ?_ (by omega)
    refine OwnI.setBelow (OwnI.setBelow (OwnI.setBelow (OwnI.setBelow HO.out _ _ ?_ _) _ _ ?_ _) _ _ ?_ _) _ _ ?_ _ <;> omega
  · refine Ext.setNew (Ext.setNew (Ext.setNew (Ext.setNew HX1.out _ _ ?_ _) _ _ ?_ _) _ _ ?_ _) _ _ ?_ _ <;> omega
theorem unit_any (n k : Nat) (w : World) (hk : k < n) (hn : n ≤ 1000000) :
    Calls Try.prog 49 #[.int .i64 n, .int .i64 k] w fun e w' => ∃ a, e = .returned (.slice a n n) ∧ OwnI w' w.heap.size a n n (basisL n k) ∧ Ext w w' := by
  have hm := OwnI.made w w.heap.size n (Nat.le_refl _) (by unfold maxLen; omega)
  have hu := (UpdI.start hm.ints).store k hk 1
  have HO := hidP (hu.own hm)
  have HX := hidP (hu.below (Ext.alloc w _) (by simp) (fun b o e _ => by cases e; exact Nat.le_refl _))
  have hmk := make_ints (n : Int) (by omega) (by omega)
  simp only [Int.toNat_natCast] at hmk
  clear hm hu
  go_enter Try.func49, Try.ntmps49
  go_wp2
  have hw : (w.alloc (.cells ((Array.replicate n (.int .i64 0)).setIfInBounds k (.int .i64 1)) 3)) = ((w.alloc (.cells (Array.replicate n (.int .i64 0)) 3)).setCell ⟨w.heap.size, 0 + k, none⟩ (.int .i64 1)) := by
    rw [Nat.zero_add, World.setCell_alloc_at]
    rfl
  rw [hw]
  go_ret
  exact ⟨_, rfl, HO.out, HX.out⟩
/-- the reduced basis of the sums of rows -/
def spanL (p : Int) (cols : Nat) (rows : List (List Int)) : List (List Int) := (redTo p rows cols).1.take (redTo p rows cols).2.length
theorem Try.info22 : (Try.prog.info? 22).map (fun i => (i.zero, i.size, i.bytes)) = some (some (.slice none 0 0), 1, 24) := by kernel_rfl
/-- the step 'append(rows, row)', row new -/
theorem OwnK.below_grown {α : Type} {K : Knd α} {w w' w0 : World} {B U : Nat} {a : Option Addr} {n c : Nat} {hs : List Hdr} {xs : List α} (h : OwnK K w B U a n c hs xs) (hg : w.grownBy w' (Value.slice a n c).ownBlock) (hb : Below B w0 w) (hB : B ≤ w.heap.size) : Below B w0 w' := by
  refine Below.grown hb hg hB fun k hk => ?_
  rcases h.form with ⟨rfl, _⟩ | ⟨g, cur, rfl, hBg, _⟩
  · simp [Value.ownBlock] at hk
  · simp [Value.ownBlock] at hk
    subst hk
    exact hBg
set_option maxHeartbeats 2000000 in
theorem span_any (p : Int) (L cols : Nat) (a : Option Addr) (n c : Nat) (rows : List (List Int)) (w : World) (h : RowsI w a n rows) (hR : Rows p L rows) (hcl : cols ≤ L) (hp : primeB p = true) (hn : n ≤ 1000000) (hL : L ≤ 1000000) :
    Calls Try.prog 115 #[.slice a n c, .int .i64 cols, .int .i64 p] w fun e w' => ∃ a' c' hs', e = .returned (.slice a' (redTo p rows cols).2.length c') ∧ OwnK rowK w' w.heap.size w'.heap.size a' (redTo p rows cols).2.length c' hs' (spanL p cols rows) ∧ Ext w w' := by
  have G := hidP h
  have HLn := hidP h.len
  have HR := hidP hR
  have hown : OwnK rowK (w.alloc (.cells #[] 22)) w.heap.size (w.alloc (.cells #[] 22)).heap.size (some ⟨w.heap.size, 0, none⟩) 0 0 [] [] := by
    refine ⟨⟨rfl, .inr ⟨w.heap.size, 0, #[], rfl, Nat.le_refl _, heap_alloc_new _ _, Nat.le_refl _, by unfold maxLen; omega, rfl, rfl⟩⟩, rfl, rfl, fun i h => by omega, fun i j h => by omega, fun i h => by omega, fun b o e => ?_⟩
    simp only [Option.some.injEq, Addr.mk.injEq, and_true] at e
    simp [← e.1]
  have HO := hidP hown
  have HX := hidP (Ext.alloc w (.cells #[] 22))
  clear h hR hown
  go_enter Try.func115, Try.ntmps115
  go_wp2
  obtain ⟨w0, hw0⟩ : ∃ w0, w0 = w.alloc (.cells #[] 22) := ⟨_, rfl⟩
  rw [← hw0] at HO HX ⊢
  clear hw0
  go_loopw [7, 13] (fun v i wr => ∃ (k : Nat) (av : Option Addr) (cv : Nat) (hs : List Hdr), k ≤ n ∧ i = .int .i64 k ∧ v = .slice av k cv ∧ Hid (OwnK rowK wr w.heap.size wr.heap.size av k cv hs (rows.take k)) ∧ Hid (Ext w wr)) (fun _ i _ => n - (intOf i).toNat)
  case atStart => exact ⟨0, _, 0, [], Nat.zero_le _, rfl, rfl, HO, HX⟩
  case round =>
    clear HO HX
    obtain ⟨k, av, cv, hs, hk, rfl, rfl, HO, HX⟩ := hrel
    by_cases hlt : k < n
    · obtain ⟨b, o, a', c', rfl, q, hI, hnil⟩ := (G.out.below HX.out).get k hlt
      have hlk := HR.out.len k (by have := HLn.out; omega)
      have HCl := hidP (clone_any a' _ c' _ wr hI hnil (by omega))
      have HT : Hid (rows.take (k + 1) = rows.take k ++ [rows.getD k []]) := by
        show _ = _
        rw [List.take_succ_eq_append_getElem (by have := HLn.out; omega)]
        simp [List.getD_eq_getElem?_getD, show k < rows.length by have := HLn.out; omega]
      rw [hlk] at HCl q
      have HLK := hidP hlk
      clear hI hnil hlk
      generalize rows.getD k [] = row at *
      go_wp2_with fail
      refine HCl.out.mono ?_
      rintro e w1 ⟨a1, c1, rfl, ho1, hx1⟩
      have HO1 := hidP (HO.out.below hx1)
      have HR1 := hidP ho1
      have HX1 := hidP (HX.out.trans hx1)
      have HSZ := hidP hx1.size
      clear ho1 hx1 HCl q
      have hx2 := Ext.alloc w1 (.cells #[.slice a1 L c1] 22)
      have HO2 := hidP (HO1.out.below hx2)
      have HR2 := hidP ((HR1.out.below hx2).base (B' := w.heap.size) (Nat.le_trans HX.out.size (Nat.le_refl _)))
      have HX2 := hidP (HX1.out.trans hx2)
      have HAp : Hid (∀ i, i < k → Apart (hs.getD i (none, 0)).1 a1) := fun i hi b o b' o' e e' => by
        have := HO.out.lt i hi b o e
        have := (HR1.out.at_base b' o' e').1
        omega
      have HFa : Hid (Apart av a1) := fun b o b' o' e e' => by
        have := HO.out.olt b o e
        have := (HR1.out.at_base b' o' e').1
        omega
      have HCe : Hid (∀ j, j < rowK.size → (w1.alloc (.cells #[.slice a1 L c1] 22)).cell? ⟨w1.heap.size, j, none⟩ = (rowK.cells a1 c1 row)[j]?) := fun j hj => by
        rw [cell_top _ _ _ _ _ rfl]
        show _ = ([Value.slice a1 row.length c1])[j]?
        rw [HLK.out]
        simp
      have HR3 : Hid (OwnI (w1.alloc (.cells #[.slice a1 L c1] 22)) w.heap.size a1 row.length c1 row) := by show OwnI _ _ _ _ _ _; rw [HLK.out]; exact HR2.out
      clear hx2 HO1 HR1 HX1 HR2
      go_wp2_with (at_builtin; refine wpList_append_elem rowK 78 (.slice none 0 0) 24 rfl (.tmp 17) (.tmp 20) rfl Try.underlying78 Try.info22 rfl (by omega) w.heap.size _ av k cv hs _ rfl HO2.out w1.heap.size 1 (a1, c1) row rfl HCe.out HR3.out HAp.out HFa.out (by omega) HX2.out.size ?_; intro a3 c3 w3 ho3 hg3; have HX3 := hidP (HO2.out.below_grown hg3 HX2.out HX2.out.size); have HO3 := hidP ho3; clear ho3 hg3)
      go_roundw
      case rel => exact ⟨k + 1, a3, c3, hs ++ [(a1, c1)], by omega, by go_num, rfl, by rw [HT.out]; exact HO3, HX3⟩
      case measure => simp [intOf]; omega
    · obtain rfl : k = n := by omega
      have ho := HO.out
      rw [List.take_of_length_le (by have := HLn.out; omega)] at ho
      have HO2 := hidP ho
      have HD := hidP (reduce_any p L cols w.heap.size av k cv hs rows wr ho HR.out hcl hp hn hL HX.out.size)
      have HOK := hidP (redTo_ok (by have := (prime_bounds hp).1; omega : 0 < p) HR.out cols)
      clear ho HO
      go_wp2_with fail
      refine HD.out.mono ?_
      rintro e w1 ⟨a1, c1, hs1, rfl, hr⟩
      have HF := hidP hr
      have hle := HOK.out.pn
      rw [HLn.out] at hle
      have HX1 : Hid (Ext w w1) := Below.trans HX.out hr.bel
      obtain ⟨hnc, hcm⟩ : k ≤ cv ∧ cv ≤ maxLen := by
        rcases hr.own.form with ⟨_, h0, h1⟩ | ⟨_, _, _, _, _, _, h1, h2⟩
        · rw [h0, h1]; exact ⟨Nat.le_refl _, Nat.zero_le _⟩
        · exact ⟨h1, h2⟩
      have HTk := hidP (hr.own.take _ hle)
      have HSP : Hid (spanL p cols rows = (redTo p rows cols).1.take (redTo p rows cols).2.length) := rfl
      clear hr HD
      unfold maxLen at hcm
      generalize hq : (redTo p rows cols).2.length = m at *
      have HQ := hidP hq
      clear hq
      go_wp2
      go_ret
      rw [HSP.out, HQ.out]
      exact ⟨_, _, _, rfl, HTk.out.weaken (Nat.le_refl _) (HF.out.hN), HX1.out⟩
end Go.Proofs.Ythbdcclglopkiaa
