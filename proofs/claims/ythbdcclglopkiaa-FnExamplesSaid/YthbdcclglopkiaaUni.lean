/-
  Adjoints and traces: (lie).adjoint, MatrixOk, TraceOf, IsUnimodular.
-/
import Derived.Test.YthbdcclglopkiaaSer3
namespace Go.Proofs.Ythbdcclglopkiaa
open Go.RowKit

/-- the rows of an adjoint -/
def adjL (p : Int) (t : List Int) (d : Nat) (u : List Int) (k : Nat) : List (List Int) := (List.range k).map fun j => rightL p t d u j
theorem adjL_succ (p : Int) (t : List Int) (d : Nat) (u : List Int) (k : Nat) : adjL p t d u (k + 1) = adjL p t d u k ++ [rightL p t d u k] := by
  unfold adjL
  rw [List.range_succ, List.map_append]
  rfl
theorem adjL_rows {p : Int} (hp : 0 < p) (t : List Int) (d : Nat) (u : List Int) (k : Nat) : Rows p d (adjL p t d u k) := by
  induction k with
  | zero => exact Rows.nil p d
  | succ k ih => rw [adjL_succ]; exact ih.snoc (modL_length _ _ _) (Res.modL hp _ _)
theorem adjL_length (p : Int) (t : List Int) (d : Nat) (u : List Int) (k : Nat) : (adjL p t d u k).length = k := by simp [adjL]

set_option maxHeartbeats 2000000 in
theorem adjoint_any (p : Int) (d : Nat) (aT au : Option Addr) (N c cu : Nat) (t u : List Int) (w : World) (hd : d ≤ 28) (hN : N = d * d * d) (hc : N ≤ c) (hc2 : c ≤ 1000000000000)
    (ht : IntsAt w aT N t) (hu : IntsAt w au d u) (hp : 1 ≤ p) (hp2 : p ≤ 10007) (hrt : Res p t) (hru : Res p u) :
    Calls Try.prog 48 #[algV p d aT N c, .slice au d cu] w fun e w' => ∃ a l c3, e = .returned (matV p d d a l c3) ∧ OwnI w' w.heap.size a l c3 (adjL p t d u d).flatten ∧ Ext w w' := by
  have hwA := Ext.alloc w (.cells #[.int .i64 p, .int .i64 (d : Int), .slice aT N c] 57)
  have hwB := Ext.alloc (w.alloc (.cells #[.int .i64 p, .int .i64 (d : Int), .slice aT N c] 57)) (.cells #[.int .i64 0, .int .i64 0, .int .i64 0, .slice none 0 0] 67)
  have HAL := hidP ((AlgAt.new w _ rfl p d aT N c 57).below hwB)
  have hnew := fun w1 hx j => new_cell (w' := w1) (w := w.alloc (.cells #[.int .i64 p, .int .i64 (d : Int), .slice aT N c] 57)) (cs := #[.int .i64 0, .int .i64 0, .int .i64 0, .slice none 0 0]) (E := 67) (b := w.heap.size + 1) (by simp) hx j
  have HXb := hidP (hwA.trans hwB)
  have HT := hidP (ht.below (hwA.trans hwB))
  have HU := hidP (hu.below (hwA.trans hwB))
  have hszb : ((w.alloc (.cells #[.int .i64 p, .int .i64 (d : Int), .slice aT N c] 57)).alloc (.cells #[.int .i64 0, .int .i64 0, .int .i64 0, .slice none 0 0] 67)).heap.size = w.heap.size + 1 + 1 := by simp
  have HRT := hidP hrt
  have HRU := hidP hru
  have HN := hidP hN
  clear ht hu hwA hwB hrt hru hN
  go_enter Try.func48, Try.ntmps48
  go_wp2
  obtain ⟨wb, hwb⟩ : ∃ wb, wb = (w.alloc (.cells #[.int .i64 p, .int .i64 (d : Int), .slice aT N c] 57)).alloc (.cells #[.int .i64 0, .int .i64 0, .int .i64 0, .slice none 0 0] 67) := ⟨_, rfl⟩
  rw [← hwb] at HAL hnew HXb HT HU hszb ⊢
  rw [← hszb]
  have HSZ : Hid (w.heap.size + 1 < wb.heap.size) := by show _ < _; omega
  clear hwb hszb
  have HNW := hidP hnew
  clear hnew
  have HF := hidP (fun w' (hx' : Ext wb w') => (⟨(HAL.out.below hx').c0, (HAL.out.below hx').c1, (HAL.out.below hx').c2⟩ : _ ∧ _ ∧ _))
  have HO := hidP (OwnK.made0 rowK wb)
  have hE : rowK.E = 22 := rfl
  rw [hE] at HO
  have HX0 := hidP (Ext.alloc wb (.cells #[] 22))
  clear hE
  have HPJ := hidP (fun i => adjL_succ p t d u i)
  go_loopw [5, 10] (fun v vi wr => ∃ (i : Nat) (av : Option Addr) (cv : Nat) (hv : List Hdr), i ≤ d ∧ vi = .int .i64 i ∧ v = .slice av i cv ∧ Hid (OwnK rowK wr wb.heap.size wr.heap.size av i cv hv (adjL p t d u i)) ∧ Hid (Ext wb wr)) (fun _ vi _ => d - (intOf vi).toNat)
  case atStart => exact ⟨0, _, 0, [], Nat.zero_le _, rfl, rfl, HO, HX0⟩
  case round =>
    clear HO HX0
    obtain ⟨i, av, cv, hv, hi, rfl, rfl, HL, HX⟩ := hrel
    obtain ⟨wo, rfl⟩ : ∃ wo : World, wo = wr := ⟨_, rfl⟩
    obtain ⟨f0, f1, f2⟩ := HF.out wo HX.out
    by_cases hlt : i < d
    · obtain ⟨b, o, rfl, _⟩ := HT.out.get 0 (by rw [HN.out]; exact Nat.mul_pos (Nat.mul_pos (by omega) (by omega)) (by omega))
      have HB := hidP (right_any p d i b o N c t au cu u wo hd hlt HN.out hc hc2 (HT.out.below HX.out) (HU.out.below HX.out) hp hp2 HRT.out HRU.out)
      go_wp2_with fail
      refine HB.out.mono ?_
      rintro e w1 ⟨a1, rfl, ho1, hx1⟩
      have HL1 := hidP (HL.out.below hx1)
      have HO1 := hidP ho1
      have HX1 := hidP (HX.out.trans hx1)
      clear ho1 hx1 HB f0 f1 f2
      have hx2 := Ext.alloc w1 (.cells #[.slice a1 d d] 22)
      have HLR : Hid ((rightL p t d u i).length = d) := modL_length _ _ _
      have HPJi := hidP (HPJ.out i)
      generalize rightL p t d u i = row at *
      have HL2 := hidP (HL1.out.below hx2)
      have HO2 := hidP ((HO1.out.below hx2).base (B' := wb.heap.size) HX.out.size)
      have HX2 := hidP (HX1.out.trans hx2)
      have HAp : Hid (∀ q, q < i → Apart (hv.getD q (none, 0)).1 a1) := fun q hq b o b' o' e e' => by
        have := HL.out.lt q hq b o e
        have := (HO1.out.at_base b' o' e').1
        omega
      have HFa : Hid (Apart av a1) := fun b o b' o' e e' => by
        have := HL.out.olt b o e
        have := (HO1.out.at_base b' o' e').1
        omega
      have HCe : Hid (∀ q, q < rowK.size → (w1.alloc (.cells #[.slice a1 d d] 22)).cell? ⟨w1.heap.size, q, none⟩ = (rowK.cells a1 d row)[q]?) := fun q hq => by
        rw [cell_top _ _ _ _ _ rfl]
        show _ = ([Value.slice a1 row.length d])[q]?
        rw [HLR.out]
        simp
      have HR3 : Hid (OwnI (w1.alloc (.cells #[.slice a1 d d] 22)) wb.heap.size a1 row.length d row) := by show OwnI _ _ _ _ _ _; rw [HLR.out]; exact HO2.out
      clear hx2 HL1 HO1 HX1 HO2
      go_wp2_with (at_builtin; refine wpList_append_elem2 rowK 78 (.slice none 0 0) 24 rfl (.tmp 13) (.tmp 18) rfl Try.underlying78 Try.info22 rfl (by omega) wb.heap.size _ av i cv hv _ rfl HL2.out w1.heap.size 1 (a1, d) row rfl HCe.out HR3.out HAp.out HFa.out (by omega) HX2.out.size ?_; intro a3 c3 w3 ho3 hg3 _; have HX3 := hidP (HL2.out.below_grown hg3 HX2.out HX2.out.size); have HO3 := hidP ho3; clear ho3 hg3)
      go_roundw
      case rel => exact ⟨i + 1, a3, c3, hv ++ [(a1, d)], by omega, by go_num, rfl, by rw [HPJi.out]; exact HO3, HX3⟩
      case measure => simp [intOf]; omega
    · obtain rfl : i = d := by omega
      have hfl := (adjL_rows (by omega : 0 < p) t i u i).flat
      rw [adjL_length] at hfl
      have hmm : i * i ≤ 28 * 28 := Nat.mul_le_mul hd hd
      have HM := hidP (matrixOf_any p i av i cv (adjL p t i u i) wo HL.out.rowsI (by omega) (by omega))
      go_wp2_with fail
      refine HM.out.mono ?_
      rintro e w3 ⟨a3, c3, rfl, ho3, hx3⟩
      have HX3 := hidP (HX.out.trans hx3)
      have HO3 := hidP (ho3.base (B' := wb.heap.size) HX.out.size)
      clear ho3 f0 f1 f2 HM
      have r0 := (HNW.out w3 HX3.out 0).1.trans (show _ = some (Value.int .i64 0) from rfl)
      have r1 := (HNW.out w3 HX3.out 1).1.trans (show _ = some (Value.int .i64 0) from rfl)
      have r2 := (HNW.out w3 HX3.out 2).1.trans (show _ = some (Value.int .i64 0) from rfl)
      have r3 := (HNW.out w3 HX3.out 3).1.trans (show _ = some (Value.slice none 0 0) from rfl)
      have y0 := (HNW.out w3 HX3.out 0).2
      have y1 := (HNW.out w3 HX3.out 1).2
      have y2 := (HNW.out w3 HX3.out 2).2
      have y3 := (HNW.out w3 HX3.out 3).2
      have hsz := HSZ.out
      clear hfl hx3
      generalize (adjL p t i u i).flatten.length = l at *
      go_wp2
      refine bodyPost_ret (v := matV p i i a3 l c3) (by simp [results, Try.results48, go_sem, r0, r1, r2, r3]) rfl ?_
      refine ⟨a3, l, c3, rfl, ?_, ?_⟩
      · refine OwnI.base (B := wb.heap.size) ?_ (by omega)
        refine OwnI.setBelow (OwnI.setBelow (OwnI.setBelow (OwnI.setBelow HO3.out _ _ ?_ _) _ _ ?_ _) _ _ ?_ _) _ _ ?_ _ <;> omega
      · refine Ext.setNew (Ext.setNew (Ext.setNew (Ext.setNew (HXb.out.trans HX3.out) _ _ ?_ _) _ _ ?_ _) _ _ ?_ _) _ _ ?_ _ <;> omega
/-- is a matrix one of residues of its size -/
def matB (p r s : Int) (data : List Int) : Bool := primeB p && insB r 0 40 && insB s 0 40 && decide ((data.length : Int) = r * s) && resB p data
set_option maxHeartbeats 1000000 in
theorem matrixOk_any (p r s : Int) (a : Option Addr) (n c : Nat) (data : List Int) (w : World) (h : IntsAt w a n data) (hn : n ≤ 1000000000000) :
    Calls Try.prog 77 #[matV p r s a n c] w fun e w' => e = .returned (.bool (matB p r s data)) ∧ Ext w w' := by
  have hl := h.len
  have HB : Hid (matB p r s data = (primeB p && insB r 0 40 && insB s 0 40 && decide ((n : Int) = r * s) && resB p data)) := by show _ = _; unfold matB; rw [hl]
  have hx0 := Ext.alloc w (.cells #[.int .i64 p, .int .i64 r, .int .i64 s, .slice a n c] 67)
  cases hp : primeB p
  · rw [hp] at HB
    clear h hl
    go_enter Try.func77, Try.ntmps77
    go_wp2_with (first | (go_at_call 30; refine (isPrime_any _ _).mono ?_; rintro e w' ⟨rfl, rfl⟩) | (go_at_call 31; refine (inside_any _ _ _ _).mono ?_; rintro e w' ⟨rfl, rfl⟩))
    go_ret
    exact ⟨ret_bool HB.out.symm, Ext.alloc _ _⟩
  · cases hr : insB r 0 40
    · rw [hp, hr] at HB
      clear h hl
      go_enter Try.func77, Try.ntmps77
      go_wp2_with (first | (go_at_call 30; refine (isPrime_any _ _).mono ?_; rintro e w' ⟨rfl, rfl⟩) | (go_at_call 31; refine (inside_any _ _ _ _).mono ?_; rintro e w' ⟨rfl, rfl⟩))
      go_ret
      exact ⟨ret_bool HB.out.symm, Ext.alloc _ _⟩
    · cases hs : insB s 0 40
      · rw [hp, hr, hs] at HB
        clear h hl
        go_enter Try.func77, Try.ntmps77
        go_wp2_with (first | (go_at_call 30; refine (isPrime_any _ _).mono ?_; rintro e w' ⟨rfl, rfl⟩) | (go_at_call 31; refine (inside_any _ _ _ _).mono ?_; rintro e w' ⟨rfl, rfl⟩))
        go_ret
        exact ⟨ret_bool HB.out.symm, Ext.alloc _ _⟩
      · obtain ⟨r0, r1⟩ := insB_true.1 hr
        obtain ⟨s0, s1⟩ := insB_true.1 hs
        obtain ⟨p2, p7⟩ := prime_bounds hp
        have hrs0 : 0 ≤ r * s := Int.mul_nonneg r0 s0
        have hrs1 : r * s ≤ 40 * 40 := Int.mul_le_mul r1 s1 s0 (by omega)
        by_cases hn2 : (n : Int) = r * s
        · have hnb : ((n : Int) != r * s) = false := by simp [hn2]
          have HRS := hidP (residues_any a n c data p _ (h.below hx0) hn (by omega) (by omega))
          rw [hp, hr, hs] at HB
          have HB2 : Hid (matB p r s data = resB p data) := HB.out.trans (by simp [hn2])
          have hx0 := hidP hx0
          clear h hl hn2 HB
          go_enter Try.func77, Try.ntmps77
          go_wp2_with (first | (go_at_call 30; refine (isPrime_any _ _).mono ?_; rintro e w' ⟨rfl, rfl⟩) | (go_at_call 31; refine (inside_any _ _ _ _).mono ?_; rintro e w' ⟨rfl, rfl⟩) | (go_at_call 38; refine HRS.out.mono ?_; rintro e w1 ⟨rfl, hx1⟩))
          go_ret
          exact ⟨ret_bool HB2.out.symm, hx0.out.trans hx1⟩
        · have hnb : ((n : Int) != r * s) = true := bne_iff_ne.2 hn2
          rw [hp, hr, hs] at HB
          have HB2 : Hid (matB p r s data = false) := HB.out.trans (by simp [hn2])
          clear h hl hn2 HB
          go_enter Try.func77, Try.ntmps77
          go_wp2_with (first | (go_at_call 30; refine (isPrime_any _ _).mono ?_; rintro e w' ⟨rfl, rfl⟩) | (go_at_call 31; refine (inside_any _ _ _ _).mono ?_; rintro e w' ⟨rfl, rfl⟩))
          go_ret
          exact ⟨ret_bool HB2.out.symm, Ext.alloc _ _⟩
theorem matB_true {p r s : Int} {data : List Int} : matB p r s data = true ↔ primeB p = true ∧ (0 ≤ r ∧ r ≤ 40) ∧ (0 ≤ s ∧ s ≤ 40) ∧ (data.length : Int) = r * s ∧ Res p data := by
  unfold matB
  simp only [Bool.and_eq_true, decide_eq_true_eq, insB_true, resB_true, and_assoc]
/-- the trace -/
def traceL (p : Int) (d : Nat) (data : List Int) : Int := sumTo d (fun i => data.getD (i * d + i) 0) % p
theorem sumTo_bd {p : Int} {n : Nat} {f : Nat → Int} (h : ∀ i, i < n → 0 ≤ f i ∧ f i < p) (hp : 0 ≤ p) : 0 ≤ sumTo n f ∧ sumTo n f ≤ n * p := by
  induction n with
  | zero => simp [sumTo]
  | succ n ih =>
    have h1 := ih fun i hi => h i (by omega)
    have h2 := h n (by omega)
    simp only [sumTo]
    rw [Int.natCast_add, Int.add_mul]
    omega
set_option maxHeartbeats 1000000 in
theorem traceOf_ok (p : Int) (d : Nat) (a : Option Addr) (n c : Nat) (data : List Int) (w : World) (h : IntsAt w a n data) (hb : matB p d d data = true) :
    Calls Try.prog 47 #[matV p d d a n c] w fun e w' => e = .returned (.tuple #[.int .i64 (traceL p d data), .bool true]) ∧ Ext w w' := by
  obtain ⟨hp, ⟨_, hd⟩, _, hl, hr⟩ := matB_true.1 hb
  obtain ⟨p2, p7⟩ := prime_bounds hp
  have hn : n = d * d := by
    have := h.len
    have : ((data.length : Nat) : Int) = ((d * d : Nat) : Int) := by rw [hl]; simp
    omega
  have hdd : d * d ≤ 40 * 40 := Nat.mul_le_mul (by omega) (by omega)
  have hx0 := Ext.alloc w (.cells #[.int .i64 p, .int .i64 (d : Int), .int .i64 (d : Int), .slice a n c] 67)
  have HMO := hidP (matrixOk_any p d d a n c data _ (h.below hx0) (by omega))
  rw [hb] at HMO
  have HM := hidP (MatAt.new w _ rfl p d d a n c 67)
  have HX0 := hidP hx0
  have H := hidP h
  have HR := hidP hr
  have HN := hidP hn
  clear h hb hp hl hr hn hx0
  go_enter Try.func47, Try.ntmps47
  go_wp2_with fail
  refine HMO.out.mono ?_
  rintro e w1 ⟨rfl, hx1⟩
  have HX1 := hidP (HX0.out.trans hx1)
  obtain ⟨f0, f1, f2, f3⟩ := HM.out.below hx1
  clear hx1 HMO
  go_wp2
  go_loop [4, 18] (fun v vi => ∃ i : Nat, i ≤ d ∧ vi = .int .i64 i ∧ v = .int .i64 (sumTo i fun i => data.getD (i * d + i) 0)) (fun _ vi => d - (intOf vi).toNat)
  case atStart => exact ⟨0, Nat.zero_le _, rfl, rfl⟩
  case round =>
    obtain ⟨i, hi, rfl, rfl⟩ := hrel
    have hS : Hid (sumTo (i + 1) (fun i => data.getD (i * d + i) 0) = sumTo i (fun i => data.getD (i * d + i) 0) + data.getD (i * d + i) 0) := rfl
    have hget : ∀ j, j < d → 0 ≤ data.getD (j * d + j) 0 ∧ data.getD (j * d + j) 0 < p := fun j hj => HR.out _ (by have := H.out.len; have := HN.out; have := mul_lt_of (s := d) hj; omega)
    obtain ⟨b0, b1⟩ := sumTo_bd (p := p) (n := i) (f := fun i => data.getD (i * d + i) 0) (fun j hj => hget j (by omega)) (by omega)
    have hb2 : (i : Int) * p ≤ 40 * 10007 := Int.mul_le_mul (by omega) p7 (by omega) (by omega)
    have HTR : Hid (traceL p d data = sumTo d (fun i => data.getD (i * d + i) 0) % p) := rfl
    by_cases hlt : i < d
    · obtain ⟨g0, g1⟩ := hget i hlt
      have hkn := mul_lt_of (s := d) hlt
      have hiN : i * d + i < n := by have := HN.out; omega
      obtain ⟨b, o, rfl, _⟩ := H.out.get 0 (by omega)
      have q := (H.out.below HX1.out).atc (i * d + i) hiN
      obtain ⟨t, ht⟩ : ∃ t, i * d = t := ⟨_, rfl⟩
      have e4 : (i : Int) * (d : Int) = (t : Int) := by rw [← ht]; simp
      rw [ht] at hiN q g0 g1 hS hkn
      clear ht hget HTR
      generalize sumTo i (fun i => data.getD (i * d + i) 0) = sm at *
      generalize data.getD (t + i) 0 = x at *
      go_wp2
      go_round
      case rel => exact ⟨i + 1, by omega, by go_num, by rw [hS.out]⟩
      case measure => simp [intOf]; omega
    · obtain rfl : i = d := by omega
      clear hget hS
      generalize sumTo i (fun j => data.getD (j * i + j) 0) = sm at *
      go_wp2
      go_ret2
      rw [HTR.out]
      exact ⟨rfl, HX1.out⟩
end Go.Proofs.Ythbdcclglopkiaa
