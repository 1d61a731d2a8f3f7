/-
  The program's bracket and the space of rows: (lie).bracket, (lie).space, (lie).product.
-/
import Derived.Test.YthbdcclglopkiaaOwn2
import Derived.Test.YthbdcclglopkiaaSp3
namespace Go.Proofs.Ythbdcclglopkiaa
open Go.RowKit

theorem sumTo_add (n : Nat) (f g : Nat → Int) : sumTo n (fun i => f i + g i) = sumTo n f + sumTo n g := by
  induction n with
  | zero => rfl
  | succ n ih => simp only [sumTo, ih]; omega
theorem sumTo_mul (n : Nat) (a : Int) (f : Nat → Int) : a * sumTo n f = sumTo n fun i => a * f i := by
  induction n with
  | zero => simp [sumTo]
  | succ n ih => simp only [sumTo, Int.mul_add, ih]
theorem sumTo_comm (n m : Nat) (f : Nat → Nat → Int) : sumTo n (fun i => sumTo m fun j => f i j) = sumTo m fun j => sumTo n fun i => f i j := by
  induction n with
  | zero => simp only [sumTo]; exact (sumTo_zero_of fun _ _ => rfl).symm
  | succ n ih => simp only [sumTo, ih]; rw [← sumTo_add]
/-- the bracket, the first k numbers of the second element taken -/
def bto (p : Int) (t : List Int) (d : Nat) (u v : List Int) (k : Nat) : List Int := modL p d fun m => sumTo k fun j => v.getD j 0 * sumTo d fun i => u.getD i 0 * tab t d i j m
theorem bto_zero (p : Int) (t : List Int) (d : Nat) (u v : List Int) : bto p t d u v 0 = List.replicate d 0 := modL_zero p d
theorem bto_length (p : Int) (t : List Int) (d : Nat) (u v : List Int) (k : Nat) : (bto p t d u v k).length = d := modL_length _ _ _
theorem bto_res {p : Int} (hp : 0 < p) (t : List Int) (d : Nat) (u v : List Int) (k : Nat) : Res p (bto p t d u v k) := Res.modL hp _ _
theorem bto_skip (p : Int) (t : List Int) (d : Nat) (u v : List Int) (k : Nat) (h : v.getD k 0 = 0) : bto p t d u v (k + 1) = bto p t d u v k := by
  unfold bto
  apply modL_congr
  intro m _
  simp only [sumTo, h, Int.zero_mul, Int.add_zero]
theorem bto_succ (p : Int) (t : List Int) (d : Nat) (u v : List Int) (k : Nat) (hu : u.length = d) : bto p t d u v (k + 1) = addL p (bto p t d u v k) (v.getD k 0) (rightL p t d u k) := by
  unfold bto
  rw [addL_modL]
  apply modL_congr
  intro m hm
  unfold rightL
  rw [modL_get _ _ _ _ hm, hu]
  simp only [sumTo]
  rw [Int.add_emod, Int.mul_emod, ← Int.add_emod]
  conv => rhs; rw [Int.add_emod, Int.mul_emod, Int.emod_emod, ← Int.add_emod]
theorem bto_all (p : Int) (t : List Int) (d : Nat) (u v : List Int) : bto p t d u v d = brL p t d u v := by
  unfold bto brL
  apply modL_congr
  intro m _
  congr 1
  rw [sumTo_comm]
  apply sumTo_congr
  intro j _
  rw [sumTo_mul]
  apply sumTo_congr
  intro i _
  rw [← Int.mul_assoc, Int.mul_comm (v.getD j 0)]
set_option maxHeartbeats 2000000 in
theorem bracket_any (p : Int) (d : Nat) (at' : Option Addr) (N c : Nat) (t : List Int) (au av : Option Addr) (cu cv : Nat) (u v : List Int) (w : World) (hd : d ≤ 28) (hN : N = d * d * d) (hc : N ≤ c) (hc2 : c ≤ 1000000000000)
    (ht : IntsAt w at' N t) (hu : IntsAt w au d u) (hv : IntsAt w av d v) (hp : 1 ≤ p) (hp2 : p ≤ 10007) (hrt : Res p t) (hru : Res p u) (hrv : Res p v) :
    Calls Try.prog 103 #[algV p d at' N c, .slice au d cu, .slice av d cv] w fun e w' => ∃ a, e = .returned (.slice a d d) ∧ OwnI w' w.heap.size a d d (brL p t d u v) ∧ Ext w w' := by
  have HM := hidP (OwnI.made (w.alloc (.cells #[.int .i64 p, .int .i64 (d : Int), .slice at' N c] 57)) (w.heap.size + 1) d (by simp) (by unfold maxLen; omega))
  have HAL := hidP (AlgAt.new w _ rfl p d at' N c 57)
  have HX1 := hidP (Ext.alloc w (.cells #[.int .i64 p, .int .i64 (d : Int), .slice at' N c] 57))
  have hmk := make_ints (d : Int) (by omega) (by omega)
  simp only [Int.toNat_natCast] at hmk
  have HT := hidP ht
  have HU := hidP hu
  have HV := hidP hv
  have LU := hidP hu.len
  have LV := hidP hv.len
  have HRT := hidP hrt
  have HRU := hidP hru
  have HRV := hidP hrv
  have HN := hidP hN
  clear ht hu hv hrt hru hrv hN
  go_enter Try.func103, Try.ntmps103
  go_wp2
  obtain ⟨w0, hw0⟩ : ∃ w0, w0 = w.alloc (.cells #[.int .i64 p, .int .i64 (d : Int), .slice at' N c] 57) := ⟨_, rfl⟩
  rw [← hw0] at HM HAL HX1 ⊢
  have hsz : w0.heap.size = w.heap.size + 1 := by rw [hw0]; simp
  obtain ⟨w1, hw1⟩ : ∃ w1, w1 = w0.alloc (.cells (Array.replicate d (.int .i64 0)) 3) := ⟨_, rfl⟩
  rw [← hw1] at HM ⊢
  rw [hsz] at HM
  have hx01 : Ext w0 w1 := by rw [hw1]; exact Ext.alloc _ _
  have HX01 := hidP hx01
  have HAL1 := hidP (HAL.out.below hx01)
  have hst := UpdI.start HM.out.ints
  rw [← bto_zero p t d u v] at hst
  have HST := hidP hst
  have hsz1 : w.heap.size + 1 < w1.heap.size := by rw [hw1]; simp; omega
  clear hw0 hw1 hx01 hst hmk hsz
  go_loopw [15] (fun i wr => ∃ k : Nat, k ≤ d ∧ Hid (UpdI w1 wr (some ⟨w.heap.size + 1, 0, none⟩) d (bto p t d u v k)) ∧ i = .int .i64 k) (fun i _ => d - (intOf i).toNat)
  case atStart => exact ⟨0, Nat.zero_le _, HST, rfl⟩
  case round =>
    obtain ⟨k, hk, HUP, rfl⟩ := hrel
    by_cases hlt : k < d
    · have hOr := HUP.out.own HM.out
      have hALr := HAL1.out.upd HUP.out (fun b' o' e => by cases e; omega)
      have hbw : Below (w.heap.size + 1) w1 wr := HUP.out.below (Below.refl _ _) (by omega) (fun b' o' e _ => by cases e; omega)
      have hx : Ext w wr := Below.trans (HX1.out.trans HX01.out) (hbw.mono (by omega))
      obtain ⟨bu, ou, rfl, q⟩ := (HV.out.below hx).get k hlt
      by_cases hz : v.getD k 0 = 0
      · have hb : (v[k]?.getD 0 != 0) = false := by simpa [List.getD_eq_getElem?_getD] using hz
        have HS := hidP (bto_skip p t d u v k hz)
        clear hz hOr hALr hbw hx
        go_wp2
        go_roundw
        case rel => exact ⟨k + 1, by omega, (by rw [HS.out]; exact HUP.out), by go_num⟩
        case measure => simp [intOf]; omega
      · have hb : (v[k]?.getD 0 != 0) = true := by simpa [List.getD_eq_getElem?_getD] using hz
        have HS := hidP (bto_succ p t d u v k LU.out)
        have hrv := HRV.out k (by have := LV.out; omega)
        clear hz
        obtain ⟨b, o, rfl, _⟩ := HT.out.get 0 (by rw [HN.out]; exact Nat.mul_pos (Nat.mul_pos (by omega) (by omega)) (by omega))
        have HE := hidP hx
        have HO := hidP hOr
        have HPR := hidP (fun w' (hx' : Ext wr w') => right_any p d k b o N c t au cu u w' hd hlt HN.out hc hc2 (HT.out.below (HE.out.trans hx')) (HU.out.below (HE.out.trans hx')) hp hp2 HRT.out HRU.out)
        have HF := hidP (fun w' (hx' : Ext wr w') => (⟨(hALr.below hx').c0, (hALr.below hx').c1, (hALr.below hx').c2⟩ : _ ∧ _ ∧ _))
        clear hOr hALr hbw hx
        have HA := hidP (fun w' aR (hx' : Ext wr w') (hR : OwnI w' wr.heap.size aR d d (rightL p t d u k)) => addTo_any (some ⟨w.heap.size + 1, 0, none⟩) aR d d d (bto p t d u v k) (rightL p t d u k) (v.getD k 0) p w' (HO.out.below hx').ints
          hR.ints (HO.out.below hx').unfrozen (fun b1 o1 b2 o2 e1 e2 => by have h1 := (HO.out.at_base b1 o1 e1).2; have h2 := (hR.at_base b2 o2 e2).1; omega) (by omega)
          ((bto_res (by omega) t d u v k).bd (bto_length _ _ _ _ _ _) hp2) ((rightL_res (by omega) t d u k).bd (rightL_length _ _ _ _ _) hp2) hrv.1 (by omega) hp (by omega))
        rw [← HS.out] at HA
        have hE : Ext wr wr.drew := Ext.drew wr
        go_wp2
        (refine walkR_start (fun w' => Ext wr w') 8 (by kernel_rfl) ?_; simp only [numbered, List.take_succ_cons, List.take_zero, Nat.zero_add, Nat.reduceAdd, List.length_cons, List.length_nil])
        repeat (refine walkR_still (v := ?_) rfl (by decide +kernel) rfl (fun _ _ _ h => h) hE ?_ ?_; rotate_left; (focus (intro w' hw'; obtain ⟨f0, f1, f2⟩ := HF.out w' hw'; go_simp; all_goals (with_reducible rfl))); simp only [Act.put, List.setIfInBounds_toArray, List.set_cons_zero, List.set_cons_succ])
        (refine walkR_later ?_; simp only [List.cons_append, List.nil_append])
        repeat (refine walkR_still (v := ?_) rfl (by decide +kernel) rfl (fun _ _ _ h => h) hE ?_ ?_; rotate_left; (focus (intro w' hw'; obtain ⟨f0, f1, f2⟩ := HF.out w' hw'; go_simp; all_goals (with_reducible rfl))); simp only [Act.put, List.setIfInBounds_toArray, List.set_cons_zero, List.set_cons_succ])
        (refine walkR_only (fun w' => Ext wr w') rfl (by decide +kernel) rfl ?_ ?_)
        · exact fun _ h => h
        intro K hK
        go_simp
        refine (HPR.out _ hE).mono ?_
        rintro e w2 ⟨aR, rfl, hoR, hx2⟩
        have HX2 := hidP ((Ext.drew wr).trans hx2)
        have HA2 := hidP (HA.out _ aR HX2.out (hoR.base (B' := wr.heap.size) (Nat.le_refl _)))
        refine hK _ _ HX2.out ?_
        clear hK K hx2 hoR
        (try simp only [Act.put, List.setIfInBounds_toArray, List.set_cons_zero, List.set_cons_succ])
        (refine walkR_tail (by rfl) (by kernel_rfl) ?_; simp only [List.drop_succ_cons, List.drop_zero])
        go_wp2_with (go_at_call 42; refine HA2.out.mono ?_; rintro e w3 ⟨rfl, hu3⟩)
        go_roundw
        case rel => exact ⟨k + 1, by omega, HUP.out.trans (HX2.out.upd HO.out.ints hu3), by go_num⟩
        case measure => simp [intOf]; omega
    · have hu := HUP.out
      obtain rfl : k = d := by omega
      rw [bto_all] at hu
      have ho := hidP ((hu.own HM.out).base (B' := w.heap.size) (by omega))
      have hbw : Below (w.heap.size + 1) w1 wr := hu.below (Below.refl _ _) (by omega) (fun b' o' e _ => by cases e; omega)
      have hx := hidP (Below.trans (HX1.out.trans HX01.out) (hbw.mono (Nat.le_succ _)))
      clear hu hbw
      go_wp2
      go_ret
      exact ⟨_, rfl, ho.out, hx.out⟩
theorem Rows.flat {p : Int} {L : Nat} {rows : List (List Int)} (h : Rows p L rows) : rows.flatten.length = rows.length * L := by
  induction rows with
  | nil => simp
  | cons r rows ih =>
    have h0 := h.len 0 (by simp)
    simp only [List.getD_cons_zero] at h0
    rw [List.flatten_cons, List.length_append, h0, ih ⟨fun i hi => by have := h.len (i + 1) (by simpa using hi); simpa using this, fun i hi => by have := h.res (i + 1) (by simpa using hi); simpa using this⟩]
    simp only [List.length_cons, Nat.add_mul, Nat.one_mul]
    omega
theorem spanL_rows {p : Int} (hp : 0 < p) {L : Nat} {rows : List (List Int)} (h : Rows p L rows) (cols : Nat) : Rows p L (spanL p cols rows) ∧ (spanL p cols rows).length = (redTo p rows cols).2.length ∧ (spanL p cols rows).length ≤ rows.length := by
  have hok := redTo_ok hp h cols
  have hl : (spanL p cols rows).length = (redTo p rows cols).2.length := by unfold spanL; rw [List.length_take, hok.len]; exact Nat.min_eq_left hok.pn
  have key : ∀ i, i < (spanL p cols rows).length → i < (redTo p rows cols).1.length ∧ (spanL p cols rows).getD i [] = (redTo p rows cols).1.getD i [] := fun i hi => by
    rw [hl] at hi
    have := hok.pn
    have := hok.len
    exact ⟨by omega, by unfold spanL; simp [List.getD_eq_getElem?_getD, hi]⟩
  refine ⟨⟨fun i hi => ?_, fun i hi => ?_⟩, hl, by rw [hl]; exact hok.pn⟩
  · obtain ⟨h1, h2⟩ := key i hi
    rw [h2]; exact hok.rows.len i h1
  · obtain ⟨h1, h2⟩ := key i hi
    rw [h2]; exact hok.rows.res i h1
set_option maxHeartbeats 2000000 in
theorem space_any (p : Int) (d : Nat) (at' : Option Addr) (N c : Nat) (a : Option Addr) (n c' : Nat) (rows : List (List Int)) (w : World) (h : RowsI w a n rows) (hR : Rows p d rows) (hp : primeB p = true) (hd : d ≤ 1000) (hn : n ≤ 100000) :
    Calls Try.prog 104 #[algV p d at' N c, .slice a n c'] w fun e w' => ∃ a' l c2, e = .returned (matV p (spanL p d rows).length d a' l c2) ∧ OwnI w' w.heap.size a' l c2 (spanL p d rows).flatten ∧ Ext w w' := by
  have hx0 := Ext.alloc w (.cells #[.int .i64 p, .int .i64 (d : Int), .slice at' N c] 57)
  have hx1 := Ext.alloc (w.alloc (.cells #[.int .i64 p, .int .i64 (d : Int), .slice at' N c] 57)) (.cells #[.int .i64 0, .int .i64 0, .int .i64 0, .slice none 0 0] 67)
  have HAL := hidP ((AlgAt.new w _ rfl p d at' N c 57).below hx1)
  have hnew := fun w1 hx j => new_cell (w' := w1) (w := w.alloc (.cells #[.int .i64 p, .int .i64 (d : Int), .slice at' N c] 57)) (cs := #[.int .i64 0, .int .i64 0, .int .i64 0, .slice none 0 0]) (E := 67) (b := w.heap.size + 1) (by simp) hx j
  have HX := hidP (hx0.trans hx1)
  have hsz : w.heap.size + 1 < ((w.alloc (.cells #[.int .i64 p, .int .i64 (d : Int), .slice at' N c] 57)).alloc (.cells #[.int .i64 0, .int .i64 0, .int .i64 0, .slice none 0 0] 67)).heap.size := by simp
  have G := hidP (h.below (hx0.trans hx1))
  have HR := hidP hR
  clear h hR hx0 hx1
  go_enter Try.func104, Try.ntmps104
  go_wp2
  obtain ⟨w0, hw0⟩ : ∃ w0, w0 = (w.alloc (.cells #[.int .i64 p, .int .i64 (d : Int), .slice at' N c] 57)).alloc (.cells #[.int .i64 0, .int .i64 0, .int .i64 0, .slice none 0 0] 67) := ⟨_, rfl⟩
  rw [← hw0] at HAL hnew HX hsz G ⊢
  clear hw0
  have HNW := hidP hnew
  have HF := hidP (fun w' (hx' : Ext w0 w') => (⟨(HAL.out.below hx').c0, (HAL.out.below hx').c1⟩ : _ ∧ _))
  have HSP := hidP (fun w' (hx' : Ext w0 w') => span_any p d d a n c' rows w' (G.out.below hx') HR.out (Nat.le_refl _) hp (by omega) (by omega))
  obtain ⟨HSR, HSL, HSN⟩ := spanL_rows (by have := (prime_bounds hp).1; omega : 0 < p) HR.out d
  have HGL := hidP G.out.len
  have HFL : Hid ((spanL p d rows).flatten.length ≤ 1000000000) := by
    show _ ≤ _
    rw [HSR.flat]
    have : (spanL p d rows).length * d ≤ 100000 * 1000 := Nat.mul_le_mul (by have := HGL.out; omega) hd
    omega
  have HSL := hidP HSL
  have HSN2 : Hid ((spanL p d rows).length ≤ 100000) := by show _ ≤ _; have := HGL.out; omega
  clear hnew HSR HSN
  have hE : Ext w0 w0.drew := Ext.drew w0
  (refine walkR_start (fun w' => Ext w0 w') 11 (by kernel_rfl) ?_; simp only [numbered, List.take_succ_cons, List.take_zero, Nat.zero_add, Nat.reduceAdd, List.length_cons, List.length_nil])
  (repeat (first | (refine walkR_still (v := ?_) rfl (by decide +kernel) rfl (fun _ _ _ h => h) hE ?_ ?_; rotate_left; (focus (intro w' hw'; obtain ⟨f0, f1⟩ := HF.out w' hw'; go_simp; all_goals (with_reducible rfl))); simp only [Act.put, List.setIfInBounds_toArray, List.set_cons_zero, List.set_cons_succ]) | (refine walkR_skip rfl (by decide +kernel) rfl (fun _ _ _ h => h) hE ?_; simp only [Act.put, List.setIfInBounds_toArray, List.set_cons_zero, List.set_cons_succ])))
  (refine walkR_only (fun w' => Ext w0 w') rfl (by decide +kernel) rfl (fun _ h => h) ?_; intro K hK; go_simp; refine (HSP.out _ hE).mono ?_; rintro e w2 ⟨a2, c2, hs2, rfl, hk2, hx2⟩; refine hK _ _ (hE.trans hx2) ?_; clear hK K; (try simp only [Act.put, List.setIfInBounds_toArray, List.set_cons_zero, List.set_cons_succ]))
  have HX2 := hidP (hE.trans hx2)
  have HMO := hidP (matrixOf_any p d a2 _ c2 (spanL p d rows) w2 hk2.rowsI (by rw [← HSL.out]; have := HSN2.out; omega) HFL.out)
  clear hx2 hk2
  generalize hm : (redTo p rows d).2.length = m at *
  have HM := hidP hm
  clear hm
  (refine walkR_only (fun w' => Ext w0 w') rfl (by decide +kernel) rfl (fun _ h => h) ?_; intro K hK; go_simp; refine (HMO.out).mono ?_; rintro e w3 ⟨a3, c3, rfl, ho3, hx3⟩; refine hK _ _ (HX2.out.trans hx3) ?_; clear hK K; (try simp only [Act.put, List.setIfInBounds_toArray, List.set_cons_zero, List.set_cons_succ]))
  have HX3 := hidP (HX2.out.trans hx3)
  have HO3 := hidP (ho3.base (B' := w0.heap.size) HX2.out.size)
  clear hx3 ho3 hE
  obtain ⟨r0, y0⟩ := HNW.out w3 HX3.out 0
  obtain ⟨r1, y1⟩ := HNW.out w3 HX3.out 1
  obtain ⟨r2, y2⟩ := HNW.out w3 HX3.out 2
  obtain ⟨r3, y3⟩ := HNW.out w3 HX3.out 3
  have r0 := r0.trans (show _ = some (Value.int .i64 0) from rfl)
  have r1 := r1.trans (show _ = some (Value.int .i64 0) from rfl)
  have r2 := r2.trans (show _ = some (Value.int .i64 0) from rfl)
  have r3 := r3.trans (show _ = some (Value.slice none 0 0) from rfl)
  generalize hq : (spanL p d rows).flatten.length = l at *
  have HQ := hidP hq
  clear hq
  have hml : ((spanL p d rows).length : Int) = (m : Int) := by have := HSL.out; omega
  have HML := hidP hml
  clear hml
  (refine walkR_tail (by rfl) (by kernel_rfl) ?_; simp only [List.drop_succ_cons, List.drop_zero])
  go_wp2
  refine bodyPost_ret (v := matV p m d a3 l c3) (by simp [results, Try.results104, go_sem, r0, r1, r2, r3]) rfl ⟨a3, l, c3, by rw [HML.out], ?_, ?_⟩
  · refine OwnI.base (B := w0.heap.size) ?_ (by omega)
    refine OwnI.setBelow (OwnI.setBelow (OwnI.setBelow (OwnI.setBelow HO3.out _ _ ?_ _) _ _ ?_ _) _ _ ?_ _) _ _ ?_ _ <;> omega
  · refine Ext.setNew (Ext.setNew (Ext.setNew (Ext.setNew (HX.out.trans HX3.out) _ _ ?_ _) _ _ ?_ _) _ _ ?_ _) _ _ ?_ _ <;> omega
end Go.Proofs.Ythbdcclglopkiaa
