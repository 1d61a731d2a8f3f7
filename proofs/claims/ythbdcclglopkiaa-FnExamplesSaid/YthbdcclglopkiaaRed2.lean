/-
  The program's reduce: the walk.
-/
import Derived.Test.YthbdcclglopkiaaRed1
import Derived.RegionTactic
import Derived.ChangeAlike
namespace Go.Proofs.Ythbdcclglopkiaa
open Go.RowKit

theorem redStep_none {p : Int} {k n : Nat} {R : List (List Int)} {P : List Int} (hn : R.length = n) (hp : P.length ≤ n) (hz : ∀ i, P.length ≤ i → i < n → (R.getD i []).getD k 0 = 0) : redStep p k (R, P) = (R, P) := by
  unfold redStep
  simp only
  rw [findRow_none (by omega) (fun i h1 h2 => hz i h1 (by omega)), if_neg (Nat.lt_irrefl _)]
theorem redStep_some {p : Int} {k n r : Nat} {R : List (List Int)} {P : List Int} (hn : R.length = n) (hr : r < n) (hpr : P.length ≤ r) (hz : ∀ i, P.length ≤ i → i < r → (R.getD i []).getD k 0 = 0) (hne : (R.getD r []).getD k 0 ≠ 0) :
    redStep p k (R, P) = (clearTo p k P.length ((swapR R r P.length).set P.length (scaleR p (invP (((swapR R r P.length).getD P.length []).getD k 0) p) ((swapR R r P.length).getD P.length []))) n, P ++ [(k : Int)]) := by
  unfold redStep
  simp only
  rw [findRow_at hpr (by omega) hz hne, if_pos (by omega), List.length_set, swapR_length, hn]

set_option maxRecDepth 100000 in
set_option maxHeartbeats 4000000 in
theorem reduce_any (p : Int) (L cols B : Nat) (a : Option Addr) (n c : Nat) (hs : List Hdr) (rows : List (List Int)) (w : World) (h : OwnK rowK w B w.heap.size a n c hs rows) (hR : Rows p L rows) (hcl : cols ≤ L) (hp : primeB p = true) (hn : n ≤ 1000000) (hL : L ≤ 1000000) (hB : B ≤ w.heap.size) :
    Calls Try.prog 117 #[.slice a n c, .int .i64 cols, .int .i64 p] w fun e w' => ∃ a' c' hs', e = .returned (.slice a' (redTo p rows cols).2.length c') ∧ Red w w' B w.heap.size a n c hs' (redTo p rows cols).1 a' (redTo p rows cols).2.length c' (redTo p rows cols).2 := by
  obtain ⟨p2, p7⟩ := prime_bounds hp
  have hxl := h.xl
  have HOK := hidP (fun k => redTo_ok (by omega : 0 < p) hR k)
  rw [hxl] at HOK
  have HP := hidP hp
  have hrec : Red w (w.alloc (.cells #[] 3)) B w.heap.size a n c hs rows (some ⟨w.heap.size, 0, none⟩) 0 0 [] :=
    ⟨h.below (Ext.alloc _ _), by simpa using OwnI.made w w.heap.size 0 (Nat.le_refl _) (by unfold maxLen; omega), (Below.refl _ _).alloc hB _, by simp, hB⟩
  have HR := hidP hrec
  have hN : w.heap.size = w.heap.size := rfl
  obtain ⟨N, hN'⟩ : ∃ N, N = w.heap.size := ⟨_, rfl⟩
  clear h hR hp hrec hN
  go_enter Try.func117, Try.ntmps117
  go_wp2
  rw [← hN'] at HR ⊢
  obtain ⟨w0, hw0⟩ : ∃ w0, w0 = w.alloc (.cells #[] 3) := ⟨_, rfl⟩
  rw [← hw0] at HR ⊢
  have hN := hidP hN'
  clear hw0 hN' hB
  go_loopw [7, 17] (fun v i wr => ∃ (k : Nat) (hs' : List Hdr) (ap : Option Addr) (np cp : Nat), k ≤ cols ∧ i = .int .i64 k ∧ v = .slice ap np cp ∧ Hid (Red w wr B N a n c hs' (redTo p rows k).1 ap np cp (redTo p rows k).2)) (fun _ i _ => cols - (intOf i).toNat)
  case atStart => exact ⟨0, hs, _, 0, 0, Nat.zero_le _, rfl, rfl, HR⟩
  case round =>
    clear HR
    obtain ⟨k, hs1, ap, np, cp, hk, rfl, rfl, HR⟩ := hrel
    by_cases hlt : k < cols
    · have hok := HOK.out k
      have HNX : Hid (redTo p rows (k + 1) = redStep p k (redTo p rows k)) := rfl
      generalize redTo p rows k = ST at *
      obtain ⟨R, P⟩ := ST
      simp only at HR hok
      have hnp := HR.out.piv.len
      have hRl := hok.len
      have hpn := hok.pn
      simp only at hRl hpn
      have HRW := hidP hok.rows
      simp only at HRW
      subst hnp
      have HRl := hidP hRl
      clear hok hRl
      obtain ⟨wo, rfl⟩ : ∃ wo : World, wo = wr := ⟨_, rfl⟩
      go_wp2
      go_loop [10] (fun v => ∃ r : Nat, P.length ≤ r ∧ r ≤ n ∧ v = .int .i64 r ∧ Hid (∀ i, P.length ≤ i → i < r → (R.getD i []).getD k 0 = 0)) (fun v => n - (intOf v).toNat)
      case atStart => exact ⟨P.length, Nat.le_refl _, hpn, rfl, fun i h1 h2 => by omega⟩
      case round =>
        obtain ⟨r, hr0, hr1, rfl, HZ⟩ := hrel
        by_cases hrn : r < n
        · obtain ⟨g, br, cr, rfl, ehr, hgb, hgw, hbw, hBb, hLc, HCr⟩ := HR.out.row HRW.out (by omega) r hrn
          have HCr := hidP HCr
          obtain ⟨q1, z1, qz, _⟩ := HCr.out wo (Ext.refl _)
          obtain ⟨q2, _⟩ := qz k (by omega)
          by_cases hx : (R.getD r []).getD k 0 = 0
          · have HZ2 : Hid (∀ i, P.length ≤ i → i < r + 1 → (R.getD i []).getD k 0 = 0) := by
              intro i h1 h2
              rcases Nat.lt_succ_iff_lt_or_eq.1 h2 with h3 | rfl
              · exact HZ.out i h1 h3
              · exact hx
            have hxb : ((R.getD r []).getD k 0 == 0) = true := by rw [hx]; rfl
            clear qz
            generalize (R.getD r []).getD k 0 = x at *
            clear hx
            go_wp2
            go_round
            case rel =>
              exact ⟨r + 1, by omega, by omega, by go_num, HZ2⟩
            case measure => simp [intOf]; omega
          · have HNX := hidP (HNX.out.trans (redStep_some HRl.out hrn hr0 HZ.out hx))
            have hxb : ((R.getD r []).getD k 0 == 0) = false := beq_eq_false_iff_ne.2 hx
            have HX := hidP hx
            have hrnb : ((r : Int) == (n : Int)) = false := by simp; omega
            obtain ⟨gA, bA, cA, eA, ehA, _, _, hbA, hBbA, _, HCA⟩ := HR.out.row HRW.out (by omega) P.length (by omega)
            simp only [Option.some.injEq, Addr.mk.injEq, and_true] at eA
            subst eA
            have HCA := hidP HCA
            have e0 := HRW.out.len r (by have := HRl.out; omega)
            have eL := HRW.out.len P.length (by have := HRl.out; omega)
            have HSW := hidP (HR.out.swapRows r P.length hrn (by omega))
            have HRS := hidP (HRW.out.swap r P.length (by have := HRl.out; omega) (by have := HRl.out; omega))
            have hgl : ∀ i, P.length = i → (swapR R r P.length).getD i [] = R.getD r [] := fun i e => by
              rw [swapR_get R r P.length i (by have := HRl.out; omega) (by have := HRl.out; omega), if_pos e]
            have HY : Hid (1 ≤ ((swapR R r P.length).getD P.length []).getD k 0 ∧ ((swapR R r P.length).getD P.length []).getD k 0 < p) := by
              have h1 := HRW.out.get (i := r) (j := k) (by have := HRl.out; omega) (by omega)
              show _ ∧ _
              rw [hgl P.length rfl]
              omega
            have HRL2 : Hid ((swapR R r P.length).length = n) := (swapR_length R r P.length).trans HRl.out
            rw [ehr, ehA, e0, eL] at HSW
            clear hx qz e0 eL hgl
            generalize (R.getD r []).getD k 0 = x at *
            generalize swapR R r P.length = R2 at *
            generalize swapH hs1 r P.length = hs2 at *
            go_wp2
            clear q2
            obtain ⟨qA, zA, _, _⟩ := HCA.out _ (Ext.refl wo)
            have hPn : P.length < n := by omega
            clear HZ HX
            by_cases hrP : r = P.length
            all_goals first
              | (subst hrP
                 rw [ehr] at ehA
                 simp only [Prod.mk.injEq, Option.some.injEq, Addr.mk.injEq, and_true] at ehA
                 obtain ⟨rfl, rfl⟩ := ehA
                 go_region
                 have HX2 := hidP (HSW.out.ext (Ext.drew _))
                 generalize ((wo.setCell { block := g, off := P.length } (Value.slice (some { block := br, off := 0 }) L cr)).setCell { block := g, off := P.length } (Value.slice (some { block := br, off := 0 }) L cr)).drew = w2 at HX2 ⊢
                 clear HSW ehr hgb hgw hbw hBb hLc HCr q1 z1 qA zA hbA hBbA HCA)
              | (go_region
                 have HX2 := hidP (HSW.out.ext (Ext.drew _))
                 generalize ((wo.setCell { block := g, off := r } (Value.slice (some { block := bA, off := 0 }) L cA)).setCell { block := g, off := P.length } (Value.slice (some { block := br, off := 0 }) L cr)).drew = w2 at HX2 ⊢
                 clear HSW ehr ehA hgb hgw hbw hBb hLc HCr q1 z1 qA zA hbA hBbA HCA hrP)
            all_goals
              clear hrn hr0 hr1 hxb hrnb HR
              obtain ⟨g', b, cb, eg, ehb, hgb, hgw, hbw, hBb, hLc, HCb⟩ := HX2.out.row HRS.out (by omega) P.length hPn
              simp only [Option.some.injEq, Addr.mk.injEq, and_true] at eg
              subst eg
              have HCb := hidP HCb
              have HEH := hidP ehb
              obtain ⟨y1, yp⟩ := HY.out
              have HI := hidP (fun w' => inverse_int ((R2.getD P.length []).getD k 0) p w' HP.out y1 yp)
              have hi01 := invP_lt (n := (R2.getD P.length []).getD k 0) HP.out
              obtain ⟨q1, _, qz, _⟩ := HCb.out w2 (Ext.refl _)
              obtain ⟨q2, _⟩ := qz k (by omega)
              generalize hkv : invP ((R2.getD P.length []).getD k 0) p = kv at *
              have HKV := hidP hkv
              clear hkv qz ehb
              obtain ⟨kv0, kv1⟩ := hi01
              go_wp2_with (go_at_call 118; refine (HI.out _).mono ?_; rintro e w3 ⟨rfl, hx3⟩; have HX3 := hidP hx3; clear hx3 q1 q2; obtain ⟨q1, _⟩ := HCb.out w3 HX3.out)
              have HU0 := hidP (UpdI.start (HCb.out w3 HX3.out).2.2.2)
              have HLR := hidP (HRS.out.len P.length (by have := HRL2.out; omega))
              have HLS := hidP ((scaleR_length p kv (R2.getD P.length [])).trans HLR.out)
              have HX3R := hidP (HX2.out.ext HX3.out)
              have HRES := hidP (HRS.out.bd p7 (i := P.length) (by have := HRL2.out; omega))
              clear q1
              go_loopw [71] (fun v wr => ∃ j : Nat, j ≤ L ∧ v = .int .i64 j ∧ Hid (UpdI w3 wr (some ⟨b, 0, none⟩) L (partly (R2.getD P.length []) (scaleR p kv (R2.getD P.length [])) j))) (fun v _ => L - (intOf v).toNat)
              case atStart => exact ⟨0, Nat.zero_le _, rfl, by rw [partly_zero]; exact HU0⟩
              case round =>
                obtain ⟨j, hj, rfl, HU⟩ := hrel
                by_cases hjl : j < L
                · have hu := HU.out.drew
                  obtain ⟨c3, z3⟩ := hu.cellInt j hjl
                  obtain ⟨qg, _, qz, _⟩ := HCb.out w3 HX3.out
                  have hgw3 : g < w3.heap.size := Nat.lt_of_lt_of_le hgw HX3.out.size
                  have qg' : wr.drew.cell? ⟨g, P.length, none⟩ = some (.slice (some ⟨b, 0, none⟩) L cb) := (World.cell?_of_block (a := ⟨g, P.length, none⟩) (hu.other g hgw3 (fun b' o' e _ => by simp only [Option.some.injEq, Addr.mk.injEq] at e; omega))).trans qg
                  rw [Nat.zero_add] at c3 z3
                  rw [partly_get _ _ j L hjl HLR.out HLS.out] at c3
                  have z4 : wr.drew.frozen? ⟨b, j, none⟩ = false := z3.trans (qz j hjl).2
                  obtain ⟨x0, x1⟩ := HRES.out j hjl
                  have hm0 : 0 ≤ (R2.getD P.length []).getD j 0 * kv := Int.mul_nonneg x0 kv0
                  have hm1 : (R2.getD P.length []).getD j 0 * kv ≤ 1000000 * 10007 := Int.mul_le_mul x1 (by omega) kv0 (by omega)
                  have hs := hu.store j hjl ((R2.getD P.length []).getD j 0 * kv % p)
                  rw [← scaleR_get p kv _ j (by have := HLR.out; omega), partly_succ _ _ L j hjl HLR.out HLS.out, scaleR_get p kv _ j (by have := HLR.out; omega)] at hs
                  have e1 : IntKind.i64.wrap ((R2.getD P.length []).getD j 0 * kv) = (R2.getD P.length []).getD j 0 * kv := wrap_in (by omega) (by omega)
                  have e2 : Int.tmod ((R2.getD P.length []).getD j 0 * kv) p = (R2.getD P.length []).getD j 0 * kv % p := Int.tmod_eq_emod_of_nonneg hm0
                  rw [Nat.zero_add] at hs
                  have HS := hidP hs
                  clear hs hu qg qz z3 HU HU0
                  generalize (R2.getD P.length []).getD j 0 = x at *
                  have hpz : ¬ p = 0 := by omega
                  go_wp2
                  (refine walkR_start (fun w' => w' = wr.drew) 17 (by kernel_rfl) ?_; simp only [numbered, List.take_succ_cons, List.take_zero, Nat.zero_add, Nat.reduceAdd, List.length_cons, List.length_nil])
                  (repeat (first | (refine walkR_still (v := ?_) rfl (by decide +kernel) rfl (fun _ _ _ h => h) rfl ?_ ?_; rotate_left; (focus (intro w' hw'; subst hw'; go_simp; all_goals (with_reducible rfl))); simp only [Act.put, List.setIfInBounds_toArray, List.set_cons_zero, List.set_cons_succ]) | (refine walkR_skip rfl (by decide +kernel) rfl (fun _ _ _ h => h) rfl ?_; simp only [Act.put, List.setIfInBounds_toArray, List.set_cons_zero, List.set_cons_succ])))
                  (refine walkR_tail (by rfl) (by kernel_rfl) ?_; simp only [List.drop_succ_cons, List.drop_zero])
                  go_wp2
                  go_roundw
                  case rel => exact ⟨j + 1, by omega, by go_num, HS⟩
                  case measure => simp [intOf]; omega
                · obtain rfl : L = j := by omega
                  have hu := HU.out
                  rw [partly_all _ _ L HLR.out HLS.out] at hu
                  have HX4 := hidP (HX3R.out.upd P.length hPn (by rw [HEH.out, HLR.out]; exact hu))
                  have HRS4 := hidP (HRS.out.set P.length (r := scaleR p kv (R2.getD P.length [])) HLS.out (Res.modL (by omega) _ _))
                  have HL4 : Hid ((R2.set P.length (scaleR p kv (R2.getD P.length []))).length = n) := by show _ = _; rw [List.length_set]; exact HRL2.out
                  have HFIN : Hid (redTo p rows (k + 1) = (clearTo p k P.length (R2.set P.length (scaleR p kv (R2.getD P.length []))) n, P ++ [(k : Int)])) := HNX
                  clear hu HU HU0 HRES HNX HLS HLR HKV HY HRS HRL2 HI HCb HX2 HX3R y1 yp HEH
                  generalize R2.set P.length (scaleR p kv (R2.getD P.length [])) = R4 at *
                  generalize HW4 : wr = w4 at *
                  clear HW4
                  go_wp2
                  go_loopw [94] (fun v wr => ∃ m : Nat, m ≤ n ∧ v = .int .i64 m ∧ Hid (Red w wr B N (some ⟨g, 0, none⟩) n c hs2 (clearTo p k P.length R4 m) ap P.length cp P)) (fun v _ => n - (intOf v).toNat)
                  case atStart => exact ⟨0, Nat.zero_le _, rfl, HX4⟩
                  case round =>
                    clear HX4
                    obtain ⟨m, hm, rfl, HX⟩ := hrel
                    by_cases hmn : m < n
                    · have hcl := clearTo_rows (by omega : 0 < p) HRS4.out k P.length m (by have := HL4.out; omega)
                      have hll := (clearTo_length p k P.length R4 m).trans HL4.out
                      have HCT : Hid (clearTo p k P.length R4 (m + 1) = if m ≠ P.length ∧ ((clearTo p k P.length R4 m).getD m []).getD k 0 ≠ 0 then (clearTo p k P.length R4 m).set m (addL p ((clearTo p k P.length R4 m).getD m []) (p - ((clearTo p k P.length R4 m).getD m []).getD k 0) ((clearTo p k P.length R4 m).getD P.length [])) else clearTo p k P.length R4 m) := rfl
                      generalize clearTo p k P.length R4 m = R at *
                      have HRS := hidP hcl
                      have HRL := hidP hll
                      clear hcl hll
                      obtain ⟨g', bm, cm, eg, ehm, _, hgw2, _, hBm, _, HCm⟩ := HX.out.row HRS.out (by omega) m hmn
                      simp only [Option.some.injEq, Addr.mk.injEq, and_true] at eg
                      subst eg
                      have HCm := hidP HCm
                      have HEm := hidP ehm
                      clear ehm
                      obtain ⟨q1, _, qz, _⟩ := HCm.out wr (Ext.refl _)
                      obtain ⟨q2, _⟩ := qz k (by omega)
                      clear qz
                      by_cases hmP : m = P.length
                      · have hb1 : ((m : Int) != (P.length : Int)) = false := by simp [hmP]
                        have HC2 : Hid (clearTo p k P.length R4 (m + 1) = R) := HCT.out.trans (if_neg (fun h => h.1 hmP))
                        clear hmP
                        generalize (R.getD m []).getD k 0 = x at *
                        go_wp2
                        go_roundw
                        case rel => exact ⟨m + 1, by omega, by go_num, by rw [HC2.out]; exact HX⟩
                        case measure => simp [intOf]; omega
                      · have hb1 : ((m : Int) != (P.length : Int)) = true := bne_iff_ne.2 (by omega)
                        by_cases hx0 : (R.getD m []).getD k 0 = 0
                        · have hb2 : ((R.getD m []).getD k 0 != 0) = false := by rw [hx0]; rfl
                          have HC2 : Hid (clearTo p k P.length R4 (m + 1) = R) := HCT.out.trans (if_neg (fun h => h.2 hx0))
                          clear hx0 HCT
                          generalize (R.getD m []).getD k 0 = x at *
                          go_wp2
                          go_roundw
                          case rel => exact ⟨m + 1, by omega, by go_num, by rw [HC2.out]; exact HX⟩
                          case measure => simp [intOf]; omega
                        · have hb2 : ((R.getD m []).getD k 0 != 0) = true := bne_iff_ne.2 hx0
                          have HC2 := hidP (HCT.out.trans (if_pos ⟨hmP, hx0⟩))
                          obtain ⟨g', bA, cA, eg, ehA, _, _, _, _, _, HCA⟩ := HX.out.row HRS.out (by omega) P.length hPn
                          simp only [Option.some.injEq, Addr.mk.injEq, and_true] at eg
                          subst eg
                          have HCA := hidP HCA
                          have hap := HX.out.own.apart m P.length hmn hPn hmP
                          rw [HEm.out, ehA] at hap
                          have HAP := hidP hap
                          have HAD := hidP (addTo_any (some ⟨bm, 0, none⟩) (some ⟨bA, 0, none⟩) L cm cA (R.getD m []) (R.getD P.length []) (p - (R.getD m []).getD k 0) p wr.drew (HCm.out _ (Ext.drew wr)).2.2.2 (HCA.out _ (Ext.drew wr)).2.2.2
                            (fun i b o hi e => by simp only [Option.some.injEq, Addr.mk.injEq, and_true] at e; obtain ⟨rfl, rfl⟩ := e; rw [Nat.zero_add]; exact ((HCm.out _ (Ext.drew wr)).2.2.1 i hi).2) HAP.out (by omega)
                            (HRS.out.bd p7 (by have := HRL.out; omega)) (HRS.out.bd p7 (by have := HRL.out; omega)) (by have := HRS.out.get (i := m) (j := k) (by have := HRL.out; omega) (by omega); omega) (by have := HRS.out.get (i := m) (j := k) (by have := HRL.out; omega) (by omega); omega) (by omega) (by omega))
                          have hx01 := HRS.out.get (i := m) (j := k) (by have := HRL.out; omega) (by omega)
                          clear hx0 HCT hmP hap ehA
                          have HLm := hidP (HRS.out.len m (by have := HRL.out; omega))
                          generalize hxx : (R.getD m []).getD k 0 = x at *
                          have HXX := hidP hxx
                          clear hxx
                          obtain ⟨x0, x1⟩ := hx01
                          have e1 : IntKind.i64.wrap (p - x) = p - x := wrap_in (by omega) (by omega)
                          have hkL : k < L := by omega
                          go_wp2
                          clear q1 q2
                          (refine walkR_start (fun w' => w' = wr.drew) 12 (by kernel_rfl) ?_; simp only [numbered, List.take_succ_cons, List.take_zero, Nat.zero_add, Nat.reduceAdd, List.length_cons, List.length_nil])
                          (repeat (first | (refine walkR_still (v := ?_) rfl (by decide +kernel) rfl (fun _ _ _ h => h) rfl ?_ ?_; rotate_left; (focus (intro w' hw'; subst hw'; obtain ⟨q1, _, qz, _⟩ := HCm.out _ (Ext.drew wr); obtain ⟨q2, _⟩ := qz k (by omega); rw [HXX.out] at q2; clear qz; obtain ⟨qA, _⟩ := HCA.out _ (Ext.drew wr); go_simp; all_goals (with_reducible rfl))); simp only [Act.put, List.setIfInBounds_toArray, List.set_cons_zero, List.set_cons_succ]) | (refine walkR_skip rfl (by decide +kernel) rfl (fun _ _ _ h => h) rfl ?_; simp only [Act.put, List.setIfInBounds_toArray, List.set_cons_zero, List.set_cons_succ])))
                          (refine walkR_tail (by rfl) (by kernel_rfl) ?_; simp only [List.drop_succ_cons, List.drop_zero])
                          go_wp2_with fail
                          refine HAD.out.mono ?_
                          rintro e w5 ⟨rfl, hu⟩
                          have HX5 := hidP ((HX.out.ext (Ext.drew wr)).upd m hmn (by rw [HEm.out, HLm.out]; exact hu))
                          clear hu
                          go_wp2
                          go_roundw
                          case rel => exact ⟨m + 1, by omega, by go_num, by rw [HC2.out]; exact HX5⟩
                          case measure => simp [intOf]; omega
                    · obtain rfl : m = n := by omega
                      have hx6 := Ext.alloc wr (.cells #[.int .i64 (k : Int)] 3)
                      have HX6 := hidP (HX.out.ext hx6)
                      have hin := ints_alloc wr [(k : Int)] 3
                      have HIN : Hid (IntsAt (wr.alloc (.cells #[.int .i64 (k : Int)] 3)) (some ⟨wr.heap.size, 0, none⟩) 1 [(k : Int)]) := by show IntsAt _ _ _ _; simpa [ivs] using hin
                      clear hx6 hin
                      go_wp2_with (at_builtin; refine wpList_append_ints rfl (.tmp 123) (.tmp 125) rfl N ap P.length cp P rfl HX6.out.piv (some ⟨wr.heap.size, 0, none⟩) 1 1 [(k : Int)] rfl HIN.out (fun e => by cases e) (by omega) HX6.out.hN ?_; intro a' c' w7 ho hg; have HX7 := hidP (HX6.out.grown hg ho); clear ho hg)
                      go_roundw
                      case rel =>
                        refine ⟨k + 1, hs2, a', P.length + 1, c', by omega, by go_num, rfl, ?_⟩
                        rw [HFIN.out]
                        exact HX7
                      case measure => simp [intOf]; omega
        · obtain rfl : r = n := by omega
          have HNX := hidP (HNX.out.trans (redStep_none HRl.out hpn HZ.out))
          go_wp2
          go_roundw
          case rel => exact ⟨k + 1, hs1, ap, P.length, cp, by omega, by go_num, rfl, by rw [HNX.out]; exact HR⟩
          case measure => simp [intOf]; omega
    · obtain rfl : k = cols := by omega
      have hl := HR.out.piv.len
      subst hl
      go_wp2
      go_ret
      rw [hN.out] at HR
      exact ⟨_, _, _, rfl, HR.out⟩
end Go.Proofs.Ythbdcclglopkiaa
