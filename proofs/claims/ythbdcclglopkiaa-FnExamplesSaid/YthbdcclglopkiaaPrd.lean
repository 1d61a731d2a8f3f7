/-
  The program's product of two spaces: (lie).product.
-/
import Derived.Test.YthbdcclglopkiaaBrk
namespace Go.Proofs.Ythbdcclglopkiaa
open Go.RowKit

/-- brackets of the first i rows with all of T, and of row i with the first j -/
def prodTo (p : Int) (t : List Int) (d : Nat) (S T : List (List Int)) : Nat → Nat → List (List Int)
  | 0, j => (T.take j).map (brL p t d (S.getD 0 []))
  | i + 1, j => prodTo p t d S T i T.length ++ (T.take j).map (brL p t d (S.getD (i + 1) []))
def prodAll (p : Int) (t : List Int) (d : Nat) (S T : List (List Int)) : List (List Int) := prodTo p t d S T S.length 0
theorem prodTo_zero (p : Int) (t : List Int) (d : Nat) (S T : List (List Int)) : prodTo p t d S T 0 0 = [] := rfl
theorem prodTo_row (p : Int) (t : List Int) (d : Nat) (S T : List (List Int)) (i : Nat) : prodTo p t d S T i T.length = prodTo p t d S T (i + 1) 0 := by simp [prodTo]
theorem prodTo_succ (p : Int) (t : List Int) (d : Nat) (S T : List (List Int)) (i j : Nat) (hj : j < T.length) : prodTo p t d S T i (j + 1) = prodTo p t d S T i j ++ [brL p t d (S.getD i []) (T.getD j [])] := by
  have e : (T.take (j + 1)).map (brL p t d (S.getD i [])) = (T.take j).map (brL p t d (S.getD i [])) ++ [brL p t d (S.getD i []) (T.getD j [])] := by
    rw [List.take_succ_eq_append_getElem hj, List.map_append]
    simp [List.getD_eq_getElem?_getD, hj]
  cases i with
  | zero => exact e
  | succ i => simp only [prodTo]; rw [e, List.append_assoc]
theorem prodTo_length (p : Int) (t : List Int) (d : Nat) (S T : List (List Int)) (i j : Nat) (hj : j ≤ T.length) : (prodTo p t d S T i j).length = i * T.length + j := by
  induction i generalizing j with
  | zero => simp [prodTo, hj]
  | succ i ih => simp only [prodTo, List.length_append, ih _ (Nat.le_refl _), List.length_map, List.length_take, Nat.min_eq_left hj, Nat.add_mul, Nat.one_mul]
theorem map_br_rows {p : Int} (hp : 0 < p) (t : List Int) (d : Nat) (u : List Int) (T : List (List Int)) : Rows p d (T.map (brL p t d u)) := by
  have key : ∀ i, i < (T.map (brL p t d u)).length → ∃ v, (T.map (brL p t d u)).getD i [] = brL p t d u v := fun i hi => by
    simp at hi
    exact ⟨T[i], by simp [List.getD_eq_getElem?_getD, hi]⟩
  exact ⟨fun i hi => by obtain ⟨v, e⟩ := key i hi; rw [e]; exact modL_length _ _ _, fun i hi => by obtain ⟨v, e⟩ := key i hi; rw [e]; exact Res.modL hp _ _⟩
theorem Rows.append {p : Int} {L : Nat} {R1 R2 : List (List Int)} (h1 : Rows p L R1) (h2 : Rows p L R2) : Rows p L (R1 ++ R2) := by
  have key : ∀ i, i < (R1 ++ R2).length → (i < R1.length ∧ (R1 ++ R2).getD i [] = R1.getD i []) ∨ (i - R1.length < R2.length ∧ (R1 ++ R2).getD i [] = R2.getD (i - R1.length) []) := fun i hi => by
    rw [List.length_append] at hi
    rcases Nat.lt_or_ge i R1.length with h | h
    · exact .inl ⟨h, by simp [List.getD_eq_getElem?_getD, List.getElem?_append_left h]⟩
    · exact .inr ⟨by omega, by simp [List.getD_eq_getElem?_getD, List.getElem?_append_right h]⟩
  constructor
  · intro i hi
    rcases key i hi with ⟨h, e⟩ | ⟨h, e⟩ <;> rw [e]
    · exact h1.len i h
    · exact h2.len _ h
  · intro i hi
    rcases key i hi with ⟨h, e⟩ | ⟨h, e⟩ <;> rw [e]
    · exact h1.res i h
    · exact h2.res _ h
theorem prodTo_rows {p : Int} (hp : 0 < p) (t : List Int) (d : Nat) (S T : List (List Int)) (i j : Nat) : Rows p d (prodTo p t d S T i j) := by
  induction i generalizing j with
  | zero => exact map_br_rows hp _ _ _ _
  | succ i ih => exact (ih _).append (map_br_rows hp _ _ _ _)
/-- the space of brackets -/
def prodL (p : Int) (t : List Int) (d : Nat) (S T : List (List Int)) : List (List Int) := spanL p d (prodAll p t d S T)

/-- another slice's outer block is none of these -/
def Clear (lo hi : Nat) (a : Option Addr) : Prop := ∀ b o, a = some ⟨b, o, none⟩ → b < lo ∨ hi ≤ b
theorem Clear.next {lo hi N : Nat} {a a' : Option Addr} (h : Clear lo hi a) (hn : OrNew N a a') (hN : hi ≤ N) : Clear lo hi a' := by
  intro b o e
  rcases hn with rfl | hn
  · exact h b o e
  · right; have := hn b o e; omega
theorem OwnK.kept_clear {α : Type} {K : Knd α} {w w' : World} {B U : Nat} {a : Option Addr} {n c : Nat} {hs : List Hdr} {xs : List α} (h : OwnK K w B U a n c hs xs) {av : Option Addr} {nv cv : Nat}
    (hp : ∀ p, av = some p → p.spot = none) (hc : Clear B U av) (hg : w.grownBy w' (Value.slice av nv cv).ownBlock) : OwnK K w' B U a n c hs xs := by
  have key : ∀ b, B ≤ b → b < U → some b ≠ (Value.slice av nv cv).ownBlock := fun b h1 h2 => by
    cases av with
    | none => simp [Value.ownBlock]
    | some q =>
      have hq := hp q rfl
      have := hc q.block q.off (by cases q; simp at hq; simp [hq])
      simp only [Value.ownBlock, ne_eq, Option.some.injEq]
      omega
  refine h.kept hg (fun b o e => key b (h.base_lt b o e).1 (h.olt b o e)) (fun i hi b o e => key b ((h.each i hi).at_base b o e).1 (h.lt i hi b o e))
theorem OwnK.spot {α : Type} {K : Knd α} {w : World} {B U : Nat} {a : Option Addr} {n c : Nat} {hs : List Hdr} {xs : List α} (h : OwnK K w B U a n c hs xs) : ∀ p, a = some p → p.spot = none := by
  intro p e
  rcases h.form with ⟨rfl, _⟩ | ⟨g, cur, rfl, _⟩
  · cases e
  · cases e; rfl

/-- a row, by its header -/
theorem OwnK.rowAt {w : World} {B U : Nat} {a : Option Addr} {n c : Nat} {hs : List Hdr} {xs : List (List Int)} (h : OwnK rowK w B U a n c hs xs) (i : Nat) (hi : i < n) :
    ∃ g, a = some ⟨g, 0, none⟩ ∧ w.cell? ⟨g, i, none⟩ = some (.slice (hs.getD i (none, 0)).1 (xs.getD i []).length (hs.getD i (none, 0)).2) ∧ IntsAt w (hs.getD i (none, 0)).1 (xs.getD i []).length (xs.getD i []) := by
  obtain ⟨g, e, hc, _⟩ := h.cell i 0 hi (by decide)
  rw [show i * rowK.size + 0 = i from by show i * 1 + 0 = i; omega] at hc
  exact ⟨g, e, hc, (h.each i hi).ints⟩

set_option maxHeartbeats 4000000 in
theorem product_any (p : Int) (d r1 r2 : Nat) (aT aS aU : Option Addr) (N c N1 c1 N2 c2 : Nat) (t dS dU : List Int) (w : World) (hd : d ≤ 28) (hN : N = d * d * d) (hc : N ≤ c) (hcb : c ≤ 1000000000000)
    (ht : IntsAt w aT N t) (hS : IntsAt w aS N1 dS) (hU : IntsAt w aU N2 dU) (hN1 : N1 = r1 * d) (hN2 : N2 = r2 * d) (hc1 : N1 ≤ c1) (hcb1 : c1 ≤ 9223372036854775807) (hc2 : N2 ≤ c2) (hcb2 : c2 ≤ 9223372036854775807)
    (hp : primeB p = true) (hrt : Res p t) (hrS : Res p dS) (hrU : Res p dU) (h1 : r1 ≤ 100) (h2 : r2 ≤ 100) (hz1 : r1 = 0 ∨ 1 ≤ d) (hz2 : r2 = 0 ∨ 1 ≤ d) :
    Calls Try.prog 75 #[algV p d aT N c, matV p r1 d aS N1 c1, matV p r2 d aU N2 c2] w fun e w' =>
      ∃ a' l c3, e = .returned (matV p (prodL p t d (matRows r1 d dS) (matRows r2 d dU)).length d a' l c3) ∧ OwnI w' w.heap.size a' l c3 (prodL p t d (matRows r1 d dS) (matRows r2 d dU)).flatten ∧ Ext w w' := by
  obtain ⟨p2, p7⟩ := prime_bounds hp
  have hR1 := matRows_ok (p := p) (r := r1) (s := d) (data := dS) (hS.len.trans hN1) hrS
  have hR2 := matRows_ok (p := p) (r := r2) (s := d) (data := dU) (hU.len.trans hN2) hrU
  have hwA := Ext.alloc w (.cells #[.int .i64 p, .int .i64 (d : Int), .slice aT N c] 57)
  have hwB := Ext.alloc (w.alloc (.cells #[.int .i64 p, .int .i64 (d : Int), .slice aT N c] 57)) (.cells #[.int .i64 p, .int .i64 (r1 : Int), .int .i64 (d : Int), .slice aS N1 c1] 67)
  have hwC := Ext.alloc ((w.alloc (.cells #[.int .i64 p, .int .i64 (d : Int), .slice aT N c] 57)).alloc (.cells #[.int .i64 p, .int .i64 (r1 : Int), .int .i64 (d : Int), .slice aS N1 c1] 67)) (.cells #[.int .i64 p, .int .i64 (r2 : Int), .int .i64 (d : Int), .slice aU N2 c2] 67)
  have hwD := Ext.alloc (((w.alloc (.cells #[.int .i64 p, .int .i64 (d : Int), .slice aT N c] 57)).alloc (.cells #[.int .i64 p, .int .i64 (r1 : Int), .int .i64 (d : Int), .slice aS N1 c1] 67)).alloc (.cells #[.int .i64 p, .int .i64 (r2 : Int), .int .i64 (d : Int), .slice aU N2 c2] 67)) (.cells #[.int .i64 0, .int .i64 0, .int .i64 0, .slice none 0 0] 67)
  have HAL := hidP ((AlgAt.new w _ rfl p d aT N c 57).below ((hwB.trans hwC).trans hwD))
  have HM1 := hidP ((MatAt.new (w.alloc (.cells #[.int .i64 p, .int .i64 (d : Int), .slice aT N c] 57)) (w.heap.size + 1) (by simp) p r1 d aS N1 c1 67).below (hwC.trans hwD))
  have HM2 := hidP ((MatAt.new ((w.alloc (.cells #[.int .i64 p, .int .i64 (d : Int), .slice aT N c] 57)).alloc (.cells #[.int .i64 p, .int .i64 (r1 : Int), .int .i64 (d : Int), .slice aS N1 c1] 67)) (w.heap.size + 1 + 1) (by simp) p r2 d aU N2 c2 67).below hwD)
  have hnew := fun w1 hx j => new_cell (w' := w1) (w := ((w.alloc (.cells #[.int .i64 p, .int .i64 (d : Int), .slice aT N c] 57)).alloc (.cells #[.int .i64 p, .int .i64 (r1 : Int), .int .i64 (d : Int), .slice aS N1 c1] 67)).alloc (.cells #[.int .i64 p, .int .i64 (r2 : Int), .int .i64 (d : Int), .slice aU N2 c2] 67)) (cs := #[.int .i64 0, .int .i64 0, .int .i64 0, .slice none 0 0]) (E := 67) (b := w.heap.size + 1 + 1 + 1) (by simp) hx j
  have hxb := ((hwA.trans hwB).trans hwC).trans hwD
  have HXb := hidP hxb
  have HT := hidP (ht.below hxb)
  have HS := hidP (hS.below hxb)
  have HU := hidP (hU.below hxb)
  have hszb : ((((w.alloc (.cells #[.int .i64 p, .int .i64 (d : Int), .slice aT N c] 57)).alloc (.cells #[.int .i64 p, .int .i64 (r1 : Int), .int .i64 (d : Int), .slice aS N1 c1] 67)).alloc (.cells #[.int .i64 p, .int .i64 (r2 : Int), .int .i64 (d : Int), .slice aU N2 c2] 67)).alloc (.cells #[.int .i64 0, .int .i64 0, .int .i64 0, .slice none 0 0] 67)).heap.size = w.heap.size + 1 + 1 + 1 + 1 := by simp
  have HR1 := hidP hR1
  have HR2 := hidP hR2
  have HRT := hidP hrt
  have HN := hidP hN
  have HN1 := hidP hN1
  have HN2 := hidP hN2
  clear ht hS hU hR1 hR2 hwA hwB hwC hwD hrt hN hN1 hN2
  go_enter Try.func75, Try.ntmps75
  go_wp2_with fail
  obtain ⟨wb, hwb⟩ : ∃ wb, wb = ((((w.alloc (.cells #[.int .i64 p, .int .i64 (d : Int), .slice aT N c] 57)).alloc (.cells #[.int .i64 p, .int .i64 (r1 : Int), .int .i64 (d : Int), .slice aS N1 c1] 67)).alloc (.cells #[.int .i64 p, .int .i64 (r2 : Int), .int .i64 (d : Int), .slice aU N2 c2] 67)).alloc (.cells #[.int .i64 0, .int .i64 0, .int .i64 0, .slice none 0 0] 67)) := ⟨_, rfl⟩
  rw [← hwb] at HAL HM1 HM2 hnew hxb HXb HT HS HU hszb ⊢
  rw [← hszb]
  have HSZ : Hid (w.heap.size + 3 < wb.heap.size) := by show _ < _; omega
  clear hwb hszb hxb
  have HNW := hidP hnew
  clear hnew
  have HF := hidP (fun w' (hx' : Ext wb w') => (⟨(HAL.out.below hx').c0, (HAL.out.below hx').c1, (HAL.out.below hx').c2, (HM2.out.below hx').c0, (HM2.out.below hx').c1, (HM2.out.below hx').c2, (HM2.out.below hx').c3⟩ : _ ∧ _ ∧ _ ∧ _ ∧ _ ∧ _ ∧ _))
  have HOL := hidP (OwnK.made0 rowK wb)
  have hE : rowK.E = 22 := rfl
  rw [hE] at HOL
  clear hE
  have hx0 := Ext.alloc wb (.cells #[] 22)
  have hs0 : wb.heap.size < (wb.alloc (.cells #[] 22)).heap.size := by simp
  obtain ⟨w0, hw0⟩ : ∃ w0, w0 = wb.alloc (.cells #[] 22) := ⟨_, rfl⟩
  rw [← hw0] at HOL hx0 hs0 ⊢
  clear hw0
  have HX0 := hidP hx0
  clear hx0
  have HRO := hidP (rowsOf_any p r1 d aS N1 c1 dS w0 (HS.out.below HX0.out) HN1.out hc1 hcb1 (by omega) (by omega) hz1)
  refine HRO.out.mono ?_
  rintro e wS ⟨aR, cR, hsR, rfl, hoR, hxS⟩
  have HOR := hidP hoR
  have HXS := hidP (HX0.out.trans hxS)
  have HOL1 := hidP ((HOL.out.below hxS).weaken (Nat.le_refl _) hxS.size)
  have HCL : Hid (Clear w0.heap.size wS.heap.size (some ⟨wb.heap.size, 0, none⟩)) := fun b o e => by cases e; left; exact hs0
  have HSS := hidP hxS.size
  clear hoR hxS HRO HOL hs0
  generalize hLo : w0.heap.size = lo at *
  generalize hHi : wS.heap.size = hi at *
  have HHi := hidP hHi
  have HS1L := hidP (matRows_length r1 d dS)
  have HS2L := hidP (matRows_length r2 d dU)
  have HPR := hidP (prodTo_row p t d (matRows r1 d dS) (matRows r2 d dU))
  rw [HS2L.out] at HPR
  clear hLo hHi
  have HSP := hidP (fun w' av nv cv hv (hx' : Ext wb w') (hk : OwnK rowK w' wb.heap.size w'.heap.size av nv cv hv (prodTo p t d (matRows r1 d dS) (matRows r2 d dU) r1 0)) =>
    space_any p d aT N c av nv cv (prodTo p t d (matRows r1 d dS) (matRows r2 d dU) r1 0) w' hk.rowsI (prodTo_rows (by omega) _ _ _ _ _ _) hp (by omega)
      (by have := hk.xl; rw [prodTo_length _ _ _ _ _ _ _ (Nat.zero_le _), HS2L.out] at this; have := Nat.mul_le_mul h1 h2; omega))
  have HPL : Hid (prodL p t d (matRows r1 d dS) (matRows r2 d dU) = spanL p d (prodTo p t d (matRows r1 d dS) (matRows r2 d dU) r1 0)) := by
    show _ = _
    unfold prodL prodAll
    rw [HS1L.out]
  have HLB := hidP (fun i j (hi' : i < r1) (hj' : j ≤ r2) => (by
    rw [prodTo_length _ _ _ _ _ _ _ (by rw [HS2L.out]; exact hj'), HS2L.out]
    have := Nat.mul_le_mul (show i ≤ 100 by omega) h2
    omega : (prodTo p t d (matRows r1 d dS) (matRows r2 d dU) i j).length ≤ 10100))
  have HPS := hidP (fun i j (hj' : j < r2) => prodTo_succ p t d (matRows r1 d dS) (matRows r2 d dU) i j (by rw [HS2L.out]; exact hj'))
  generalize hRS : matRows r1 d dS = RS at *
  generalize hRU : matRows r2 d dU = RU at *
  have HRS1 := hidP hRS
  have HRS2 := hidP hRU
  clear hRS hRU
  go_wp2
  go_loopw [7, 16] (fun v vi wr => ∃ (i : Nat) (av : Option Addr) (nv cv : Nat) (hv : List Hdr), i ≤ r1 ∧ vi = .int .i64 i ∧ v = .slice av nv cv ∧ Hid (OwnK rowK wr wb.heap.size wr.heap.size av nv cv hv (prodTo p t d RS RU i 0)) ∧ Hid (Ext wb wr) ∧
    Hid (OwnK rowK wr lo hi aR r1 cR hsR RS) ∧ Hid (Clear lo hi av) ∧ Hid (hi ≤ wr.heap.size)) (fun _ vi _ => r1 - (intOf vi).toNat)
  case atStart => exact ⟨0, _, 0, 0, [], Nat.zero_le _, rfl, rfl, by rw [HHi.out]; exact HOL1, HXS, HOR, HCL, Nat.le_of_eq HHi.out.symm⟩
  case round =>
    clear HOL1 HXS HOR HCL HHi
    obtain ⟨i, av, nv, cv, hv, hi1, rfl, rfl, HL, HX, HOR, HCL, HHI⟩ := hrel
    obtain ⟨wo, rfl⟩ : ∃ wo : World, wo = wr := ⟨_, rfl⟩
    by_cases hlt : i < r1
    · obtain ⟨bR, rfl, q, _⟩ := HOR.out.rowAt i hlt
      have hlu := HR1.out.len i (by have := HS1L.out; omega)
      have HRu := hidP (HR1.out.res i (by have := HS1L.out; omega))
      rw [hlu] at q
      obtain ⟨f0, f1, f2, g0, g1, g2, g3⟩ := HF.out wo HX.out
      have HRO := hidP (rowsOf_any p r2 d aU N2 c2 dU wo (HU.out.below HX.out) HN2.out hc2 hcb2 (by omega) (by omega) hz2)
      have HLU := hidP hlu
      have HQU := hidP (fun w' (ho : OwnK rowK w' lo hi (some ⟨bR, 0, none⟩) r1 cR hsR RS) => ho.rowAt i hlt)
      generalize hh : hsR.getD i (none, 0) = hu at *
      clear hh
      clear hlu
      go_wp2_with fail
      refine HRO.out.mono ?_
      rintro e wT ⟨aQ, cQ, hsQ, rfl, hoQ, hxT⟩
      have HOQ := hidP hoQ
      have HXT := hidP (HX.out.trans hxT)
      have HLT := hidP ((HL.out.below hxT).weaken (Nat.le_refl _) hxT.size)
      have HOR2 := hidP (HOR.out.below hxT)
      have HHI2 : Hid (hi ≤ wT.heap.size) := Nat.le_trans HHI.out hxT.size
      have HCQ : Hid (Clear wo.heap.size wT.heap.size av) := fun b o e => .inl (HL.out.base_lt b o e).2
      clear hoQ hxT HRO f0 f1 f2 g0 g1 g2 g3 q
      generalize hLo2 : wo.heap.size = lo2 at *
      generalize hHi2 : wT.heap.size = hi2 at *
      have HHi2 := hidP hHi2
      clear hLo2 hHi2 HL HX HOR
      go_wp2
      go_loopw [7, 23] (fun v vj wr => ∃ (j : Nat) (av : Option Addr) (nv cv : Nat) (hv : List Hdr), j ≤ r2 ∧ vj = .int .i64 j ∧ v = .slice av nv cv ∧ Hid (OwnK rowK wr wb.heap.size wr.heap.size av nv cv hv (prodTo p t d RS RU i j)) ∧ Hid (Ext wb wr) ∧
        Hid (OwnK rowK wr lo hi (some ⟨bR, 0, none⟩) r1 cR hsR RS) ∧ Hid (Clear lo hi av) ∧ Hid (hi ≤ wr.heap.size) ∧ Hid (OwnK rowK wr lo2 hi2 aQ r2 cQ hsQ RU) ∧ Hid (Clear lo2 hi2 av) ∧ Hid (hi2 ≤ wr.heap.size)) (fun _ vj _ => r2 - (intOf vj).toNat)
      case atStart => exact ⟨0, _, _, _, _, Nat.zero_le _, rfl, rfl, by rw [HHi2.out]; exact HLT, HXT, HOR2, HCL, by rw [HHi2.out]; exact HHI2, by rw [← HRS2.out]; exact HOQ, HCQ, Nat.le_of_eq HHi2.out.symm⟩
      case round =>
        clear HLT HXT HOR2 HCL HHI2 HOQ HCQ HHi2
        obtain ⟨j, av, nv, cv, hv, hj1, rfl, rfl, HL, HX, HOR, HCL, HHI, HOQ, HCQ, HHQ⟩ := hrel
        obtain ⟨wo2, rfl⟩ : ∃ wo2 : World, wo2 = wr := ⟨_, rfl⟩
        by_cases hjl : j < r2
        · obtain ⟨bQ, rfl, q, hIv⟩ := HOQ.out.rowAt j hjl
          have hlv := HR2.out.len j (by have := HS2L.out; omega)
          have HRv := hidP (HR2.out.res j (by have := HS2L.out; omega))
          rw [hlv] at q hIv
          obtain ⟨f0, f1, f2, _⟩ := HF.out wo2 HX.out
          obtain ⟨gX, eX, qX, hIu⟩ := HQU.out wo2 HOR.out
          clear eX qX
          rw [HLU.out] at hIu
          have HB := hidP (bracket_any p d aT N c t hu.1 (hsQ.getD j (none, 0)).1 hu.2 (hsQ.getD j (none, 0)).2 (RS.getD i []) (RU.getD j []) wo2 hd HN.out hc hcb (HT.out.below HX.out) hIu hIv (by omega) p7 HRT.out HRu.out HRv.out)
          have HPSJ := hidP (HPS.out i j hjl)
          have HLBJ := hidP (HLB.out i j hlt hj1)
          have HNV := hidP HL.out.xl
          generalize hsQ.getD j (none, 0) = hw at *
          clear hlv hIv hIu
          go_wp2_with fail
          refine HB.out.mono ?_
          rintro e w1 ⟨a1, rfl, ho1, hx1⟩
          have HL1 := hidP (HL.out.below hx1)
          have HO1 := hidP ho1
          have HX1 := hidP (HX.out.trans hx1)
          have HOR1 := hidP (HOR.out.below hx1)
          have HOQ1 := hidP (HOQ.out.below hx1)
          have HZ1 := hidP hx1.size
          clear ho1 hx1 HB f0 f1 f2 q
          have hx2 := Ext.alloc w1 (.cells #[.slice a1 d d] 22)
          have HLR : Hid ((brL p t d (RS.getD i []) (RU.getD j [])).length = d) := modL_length _ _ _
          generalize brL p t d (RS.getD i []) (RU.getD j []) = row at *
          have HL2 := hidP (HL1.out.below hx2)
          have HO2 := hidP ((HO1.out.below hx2).base (B' := wb.heap.size) HX.out.size)
          have HX2 := hidP (HX1.out.trans hx2)
          have HOR2 := hidP (HOR1.out.below hx2)
          have HOQ2 := hidP (HOQ1.out.below hx2)
          have HZ2 := hidP (Nat.le_trans HZ1.out hx2.size)
          have HAp : Hid (∀ q, q < nv → Apart (hv.getD q (none, 0)).1 a1) := fun q hq b o b' o' e e' => by
            have := HL.out.lt q hq b o e
            have := (HO1.out.at_base b' o' e').1
            omega
          have HFa : Hid (Apart av a1) := fun b o b' o' e e' => by
            have := HL.out.olt b o e
            have := (HO1.out.at_base b' o' e').1
            omega
          have HCe : Hid (∀ q, q < rowK.size → (w1.alloc (.cells #[.slice a1 d d] 22)).cell? ⟨w1.heap.size, q, none⟩ = (rowK.cells a1 d row)[q]?) := fun q hq => by
            rw [cell_top _ _ _ _ _ rfl]
            show _ = ([Value.slice a1 row.length d])[q]?
            rw [HLR.out]
            simp
          have HR3 : Hid (OwnI (w1.alloc (.cells #[.slice a1 d d] 22)) wb.heap.size a1 row.length d row) := by show OwnI _ _ _ _ _ _; rw [HLR.out]; exact HO2.out
          have hnvb : nv ≤ 10100 := by have := HNV.out; have := HLBJ.out; omega
          clear hx2 HL1 HO1 HX1 HOR1 HOQ1 HO2
          go_wp2_with (at_builtin; refine wpList_append_elem2 rowK 78 (.slice none 0 0) 24 rfl (.tmp 27) (.tmp 32) rfl Try.underlying78 Try.info22 rfl (by omega) wb.heap.size _ av nv cv hv _ rfl HL2.out w1.heap.size 1 (a1, d) row rfl HCe.out HR3.out HAp.out HFa.out (by omega) HX2.out.size ?_; intro a3 c3 w3 ho3 hg3 hn3; have HX3 := hidP (HL2.out.below_grown hg3 HX2.out HX2.out.size); have HO3 := hidP ho3; have HG3 := hidP hg3; have HN3 := hidP hn3; clear ho3 hg3 hn3)
          have HOR3 := hidP (HOR2.out.kept_clear HL2.out.spot HCL.out HG3.out)
          have HOQ3 := hidP (HOQ2.out.kept_clear HL2.out.spot HCQ.out HG3.out)
          have HCL3 := hidP (HCL.out.next HN3.out (Nat.le_trans HHI.out HZ2.out))
          have HCQ3 := hidP (HCQ.out.next HN3.out (Nat.le_trans HHQ.out HZ2.out))
          have HHI3 : Hid (hi ≤ w3.heap.size) := Nat.le_trans (Nat.le_trans HHI.out HZ2.out) HG3.out.size
          have HHQ3 : Hid (hi2 ≤ w3.heap.size) := Nat.le_trans (Nat.le_trans HHQ.out HZ2.out) HG3.out.size
          go_roundw
          case rel => exact ⟨j + 1, a3, nv + 1, c3, hv ++ [(a1, d)], by omega, by go_num, rfl, by rw [HPSJ.out]; exact HO3, HX3, HOR3, HCL3, HHI3, HOQ3, HCQ3, HHQ3⟩
          case measure => simp [intOf]; omega
        · obtain rfl : j = r2 := by omega
          have HL2 : Hid (OwnK rowK wo2 wb.heap.size wo2.heap.size av nv cv hv (prodTo p t d RS RU (i + 1) 0)) := by show OwnK _ _ _ _ _ _ _ _ _; rw [← HPR.out]; exact HL.out
          go_wp2
          go_roundw
          case rel => exact ⟨i + 1, av, nv, cv, hv, by omega, by go_num, rfl, HL2, HX, HOR, HCL, HHI⟩
          case measure => simp [intOf]; omega
    · obtain rfl : i = r1 := by omega
      obtain ⟨f0, f1, f2, _⟩ := HF.out wo HX.out
      have HSPA := hidP (HSP.out wo av nv cv hv HX.out HL.out)
      rw [← HPL.out] at HSPA
      go_wp2_with fail
      refine HSPA.out.mono ?_
      rintro e w3 ⟨a3, l3, c3, rfl, ho3, hx3⟩
      have HX3 := hidP (HX.out.trans hx3)
      have HO3 := hidP (ho3.base (B' := wb.heap.size) HX.out.size)
      clear hx3 ho3 f0 f1 f2
      obtain ⟨r0, y0⟩ := HNW.out w3 HX3.out 0
      obtain ⟨r1', y1⟩ := HNW.out w3 HX3.out 1
      obtain ⟨r2', y2⟩ := HNW.out w3 HX3.out 2
      obtain ⟨r3, y3⟩ := HNW.out w3 HX3.out 3
      have r0 := r0.trans (show _ = some (Value.int .i64 0) from rfl)
      have r1' := r1'.trans (show _ = some (Value.int .i64 0) from rfl)
      have r2' := r2'.trans (show _ = some (Value.int .i64 0) from rfl)
      have r3 := r3.trans (show _ = some (Value.slice none 0 0) from rfl)
      have hsz := HSZ.out
      generalize hm : (prodL p t d RS RU).length = m at *
      have HM := hidP hm
      clear hm
      go_wp2
      refine bodyPost_ret (v := matV p m d a3 l3 c3) (by simp [results, Try.results75, go_sem, r0, r1', r2', r3]) rfl ?_
      rw [HRS1.out, HRS2.out, HM.out]
      refine ⟨a3, l3, c3, rfl, ?_, ?_⟩
      · refine OwnI.base (B := wb.heap.size) ?_ (by omega)
        refine OwnI.setBelow (OwnI.setBelow (OwnI.setBelow (OwnI.setBelow HO3.out _ _ ?_ _) _ _ ?_ _) _ _ ?_ _) _ _ ?_ _ <;> omega
      · refine Ext.setNew (Ext.setNew (Ext.setNew (Ext.setNew (HXb.out.trans HX3.out) _ _ ?_ _) _ _ ?_ _) _ _ ?_ _) _ _ ?_ _ <;> omega
end Go.Proofs.Ythbdcclglopkiaa
