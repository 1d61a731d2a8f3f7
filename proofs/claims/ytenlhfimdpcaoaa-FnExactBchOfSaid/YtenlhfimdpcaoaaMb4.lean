/-
  The lower series of an algebra ends: its spaces lie one in the other. No program in sight.
  Elements of an algebra: isElement, l2Vector.
  The reference's class of an algebra: ClassOf; multiples of elements: l7Times, l7Multiple.
  The reference's lower series: l3Series with the product by the whole algebra.
  The reference's product of spaces: l2All, l2Product.
  Append of an owned slice's elements to another one, at a single operation.
  Owned slices of steps; append of one owned slice to another one.
  Paths, plain: steps put together, heights, a reflection between two times, lowering and raising. No program in sight.
  LowerSeries, DerivedSeries, ClassOf, IsSolvable of the program, where the chain of spaces is known.
  The loop of a series, and the series of an algebra.
  The reference's span of rows: l1Span.
  The reference's reduction: l1Reduce.
-/
import Derived.Test.YtenlhfimdpcaoaaMb3
namespace Go.Proofs.Ytenlhfimdpcaoaa
open Go.RowKit

/-- the walk stops here -/
def Stopped (P : Prop) : Prop := P
/-- the walk stops ahead of the operation that fills a slot -/
theorem stop_at (d : Tmp) {P : Program} {ops : Array Oper} {Q : Exit → Act → World → Prop} {o : Oper} {rest : List Oper} {a : Act} {w : World} (_ : o.dst = some d) (h : Stopped (wpList P ops Q (o :: rest) a w)) : wpList P ops Q (o :: rest) a w := h
/-- two branches join: what both leave -/
theorem cond_join {P : Program} {K : Act → World → Prop} {Q : Exit → Act → World → Prop} {a : Act} {w : World} {c : Operand} {x y : Code} (G : Act → Act → World → Prop) (hmid : ∀ a' w', G a a' w' → K a' w')
    (h : (Code.cond c x y).wp P (fun e a' w' => e = .normal ∧ G a a' w') a w) : (Code.cond c x y).wp P (Exit.then K Q) a w :=
  wp_mono h fun e a' w' ⟨he, hg⟩ => by subst he; exact hmid a' w' hg

set_option maxRecDepth 100000 in
set_option maxHeartbeats 8000000 in
theorem l1Reduce_any (p : Int) (n s : Nat) (a : Option Addr) (N c : Nat) (R : List (List Int)) (w : World) (h : IntsAt w a N R.flatten) (hnil : a = none → c = 0) (hR : Rows p s R) (hn : R.length = n) (hp : primeB p = true)
    (hnb : n ≤ 100000) (hsb : s ≤ 100000) (hNb : n * s ≤ 1000000) :
    Calls Try.prog 175 #[matV p n s a N c] w fun e w' => ∃ a' c' ap np cp det, e = .returned (.tuple #[matV p n s a' N c', .slice ap np cp, .int .i64 det]) ∧ OwnI w' w.heap.size a' N c' (redTo p R s).1.flatten ∧ OwnI w' w.heap.size ap np cp (redTo p R s).2 ∧ Ext w w' := by
  obtain ⟨p2, p7⟩ := prime_bounds hp
  have hNl : N = n * s := by
    have h1 := h.len
    have h2 := flat_rows hR
    rw [h2, flatL_length, hn] at h1
    exact h1.symm
  have HOK := hidP (fun k => redTo_ok (by omega : 0 < p) hR k)
  rw [hn] at HOK
  have HP := hidP hp
  have HNl := hidP hNl
  have hx0 := (Ext.alloc w (.cells #[.int .i64 p, .int .i64 (n : Int), .int .i64 (s : Int), .slice a N c] 36)).trans (Ext.alloc _ (.cells #[.int .i64 0, .int .i64 0, .int .i64 0, .slice none 0 0] 36))
  have HM := hidP (MatAt.below (MatAt.new w _ rfl p n s a N c 36) (Ext.alloc _ (.cells #[.int .i64 0, .int .i64 0, .int .i64 0, .slice none 0 0] 36)))
  have hnew := fun w1 hx j => new_cell (w' := w1) (w := w.alloc (.cells #[.int .i64 p, .int .i64 (n : Int), .int .i64 (s : Int), .slice a N c] 36)) (cs := #[.int .i64 0, .int .i64 0, .int .i64 0, .slice none 0 0]) (E := 36) (b := w.heap.size + 1) (by simp) hx j
  have HC := hidP (l1Copy_any p n s a N c R.flatten _ (h.below hx0) hnil (by omega))
  have HX0w := hidP hx0
  have hsz : ((w.alloc (.cells #[.int .i64 p, .int .i64 (n : Int), .int .i64 (s : Int), .slice a N c] 36)).alloc (.cells #[.int .i64 0, .int .i64 0, .int .i64 0, .slice none 0 0] 36)).heap.size = w.heap.size + 2 := by simp
  have HRed : Hid (∀ k, redTo p R (k + 1) = redStep p k (redTo p R k)) := fun _ => rfl
  have HAll := hidP (fun k hk hl => redTo_all (p := p) (R := R) (k := k) (s := s) hk hl)
  have H0 : Hid (redTo p R 0 = (R, [])) := rfl
  clear hx0 h hR hn hp hnil
  have hNb2 : N ≤ 1000000 := by omega
  clear hNl
  go_enter Try.func175, Try.ntmps175
  have f0 := HM.out.c0
  have f1 := HM.out.c1
  have f2 := HM.out.c2
  have f3 := HM.out.c3
  go_wp2_with fail
  clear f0 f1 f2 f3
  obtain ⟨wb, hwb⟩ : ∃ wb, wb = ((w.alloc (.cells #[.int .i64 p, .int .i64 (n : Int), .int .i64 (s : Int), .slice a N c] 36)).alloc (.cells #[.int .i64 0, .int .i64 0, .int .i64 0, .slice none 0 0] 36)) := ⟨_, rfl⟩
  rw [← hwb] at HM hnew HC HX0w hsz ⊢
  clear hwb
  have HNW := hidP hnew
  have HSZ := hidP hsz
  clear hnew hsz
  refine HC.out.mono ?_
  rintro e wc ⟨ac, cc, rfl, hoc, hxc⟩
  have HOC := hidP hoc
  have HXC := hidP hxc
  have HM1 := hidP ((HM.out.below hxc).c0)
  clear HC HM hoc hxc
  have f0 := HM1.out
  have hx1 := (Ext.alloc wc (.cells #[.int .i64 p, .int .i64 (n : Int), .int .i64 (s : Int), .slice ac N cc] 36)).trans (Ext.alloc _ (.cells #[] 3))
  have hs1 : (wc.alloc (.cells #[.int .i64 p, .int .i64 (n : Int), .int .i64 (s : Int), .slice ac N cc] 36)).heap.size = wc.heap.size + 1 := by simp
  have hm := OwnI.made (wc.alloc (.cells #[.int .i64 p, .int .i64 (n : Int), .int .i64 (s : Int), .slice ac N cc] 36)) (wc.heap.size + 1) 0 (by omega) (by unfold maxLen; omega)
  rw [show Array.replicate 0 (Value.int .i64 0) = #[] from rfl, hs1] at hm
  have HR0 : Hid (RedS ((wc.alloc (.cells #[.int .i64 p, .int .i64 (n : Int), .int .i64 (s : Int), .slice ac N cc] 36)).alloc (.cells #[] 3)) wc.heap.size wb.heap.size (wc.heap.size + 1) p n s ac N cc (redTo p R 0).1.flatten (some ⟨wc.heap.size + 1, 0, none⟩) 0 0 (redTo p R 0).2) :=
    ⟨HOC.out.below hx1, (MatB.new wc p n s ac N cc).below (Ext.alloc _ _), hm, fun b o e => by have := (HOC.out.at_base b o e).2; omega⟩
  have HX1 := hidP (HXC.out.trans hx1)
  have HPM : Hid (Int.tmod 1 p = 1) := by show _ = _; rw [Int.tmod_eq_emod_of_nonneg (by omega)]; exact Int.emod_eq_of_lt (by omega) (by omega)
  have hpm := HPM.out
  have hpz : ¬ p = 0 := by omega
  have HM2 := hidP ((Below.refl _ _ : Ext ((wc.alloc (.cells #[.int .i64 p, .int .i64 (n : Int), .int .i64 (s : Int), .slice ac N cc] 36)).alloc (.cells #[] 3)) _))
  have f1 := (hx1.cell (World.block_lt_of_cell? wc _ f0)).trans f0
  clear hx1 hm HM2 H0
  go_wp2
  clear f0 f1 hpm
  obtain ⟨w0, hw0⟩ : ∃ w0, w0 = (wc.alloc (.cells #[.int .i64 p, .int .i64 (n : Int), .int .i64 (s : Int), .slice ac N cc] 36)).alloc (.cells #[] 3) := ⟨_, rfl⟩
  rw [← hw0] at HR0 HX1 ⊢
  clear hw0 hs1
  have HBD : Hid (wb.heap.size ≤ wc.heap.size) := HXC.out.size
  obtain ⟨b5, hb5⟩ : ∃ b5, b5 = wc.heap.size := ⟨_, rfl⟩
  rw [← hb5] at HR0 HBD ⊢
  clear hb5 HOC HXC HM1
  go_loopw [6, 7, 8] (fun v6 v7 v8 wr => ∃ (k : Nat) (ap : Option Addr) (np cp : Nat) (dt : Int), k ≤ s ∧ v6 = .slice ap np cp ∧ v7 = .int .i64 dt ∧ v8 = .int .i64 k ∧ 0 ≤ dt ∧ dt < p ∧
    Hid (RedS wr b5 wb.heap.size (b5 + 1) p n s ac N cc (redTo p R k).1.flatten ap np cp (redTo p R k).2) ∧ Hid (Ext wb wr)) (fun _ _ v8 _ => s - (intOf v8).toNat)
  case atStart => exact ⟨0, _, 0, 0, 1, Nat.zero_le _, rfl, rfl, rfl, by omega, by omega, HR0, HX1⟩
  case round =>
    clear HR0 HX1
    obtain ⟨k, ap, np, cp, dt, hk, rfl, rfl, rfl, d0, d1, HR, HX⟩ := hrel
    have hok := HOK.out k
    have HRw := hidP hok.rows
    have hln := hok.len
    have hpl := HR.out.piv.len
    have hpn := hok.pn
    have HL := hidP hln
    have HPL := hidP hpl
    rw [hpl] at hpn
    have HSt := hidP (HRed.out k)
    have HAl := hidP (HAll.out k hk)
    clear hok
    obtain ⟨f0, f1, f2, f3⟩ := HR.out.cells (Below.refl _ _)
    by_cases hks : k < s
    · by_cases hpr : np < n
      · have hN0 : 0 < N := by rw [HNl.out]; exact Nat.mul_pos (by omega) (by omega)
        obtain ⟨g, rfl, hg1, -⟩ := HR.out.data.cell 0 hN0
        generalize hst : redTo p R k = st at *
        clear hst
        obtain ⟨R1, P⟩ := st
        dsimp only at HRw hln hpl HR HSt HL HPL
        obtain ⟨E, hE⟩ : ∃ E, E = entR R1 := ⟨_, rfl⟩
        have hD : R1.flatten = flatL n s E := by rw [flat_rows HRw.out, hE, HL.out]
        have HB : Hid (BndE p n s E) := by
          have := entR_bnd HRw.out
          rw [HL.out] at this
          rw [hE]
          exact this
        rw [hD] at HR
        have HD := hidP hD
        have HSt0 : Hid ((∀ i, np ≤ i → i < n → E i k = 0) → redTo p R (k + 1) = (R1, P)) := fun hz => by
          rw [HSt.out]
          exact redStep_none HL.out (by have := HPL.out; omega) (fun i h1 h2 => by have := hz i (by have := HPL.out; omega) h2; rw [hE] at this; exact this)
        have HSt1 : Hid (∀ q, np ≤ q → q < n → (∀ i, np ≤ i → i < q → E i k = 0) → E q k ≠ 0 → (redTo p R (k + 1)).2 = P ++ [(k : Int)] ∧ (redTo p R (k + 1)).1.flatten = flatL n s (clearE p (scaleE p (invP (swapE E np q s np k) p) (swapE E np q s) np s) np k n 0)) := fun q h1 h2 hz hne => by
          rw [HSt.out]
          have hh := redStep_flat (p := p) (k := k) (R := R1) (P := P) (r := q) (by omega) HRw.out HL.out hks h2 (by rw [HPL.out]; exact h1) (fun i h3 h4 => by have := hz i (by have := HPL.out; omega) h4; rw [hE] at this; exact this) (by rw [hE] at hne; exact hne)
          rw [HPL.out, ← hE] at hh
          exact hh
        clear hE hD HRw HSt HAl HL HPL hln hpl hpn
        obtain ⟨wo, rfl⟩ : ∃ wo : World, wo = wr := ⟨_, rfl⟩
        go_wp2
        go_loopw [10] (fun v wr2 => ∃ q : Nat, np ≤ q ∧ q ≤ n ∧ v = .int .i64 q ∧ Hid (∀ i, np ≤ i → i < q → E i k = 0) ∧ Hid (Ext wo wr2)) (fun v _ => n - (intOf v).toNat)
        case atStart => exact ⟨np, Nat.le_refl _, by omega, rfl, fun i h1 h2 => by omega, Below.refl _ _⟩
        case round =>
          clear f0 f1 f2 f3
          obtain ⟨q, hq1, hq2, rfl, HZ, HXq⟩ := hrel
          obtain ⟨f0, f1, f2, f3⟩ := HR.out.cells HXq.out
          by_cases hqn : q < n
          · have hix := flat_lt (L := s) hqn hks
            rw [← HNl.out] at hix
            have HAt := hidP (l1At_any p n s q k N cc _ _ wr ((HR.out.data.below HXq.out).ints) (by omega) hix)
            rw [flatL_get hqn hks] at HAt
            clear hix
            have hqb := HB.out q k hqn hks
            have hqv := flatL_get hqn hks E
            generalize hev : E q k = ev at *
            have HEv := hidP hev
            clear hev hqv
            go_wp2_with fail
            refine HAt.out.mono ?_
            rintro e w3 ⟨rfl, hx3⟩
            have HX3 := hidP (HXq.out.trans hx3)
            clear hx3 HAt f0 f1 f2 f3
            obtain ⟨f0, f1, f2, f3⟩ := HR.out.cells HX3.out
            by_cases hz : ev = 0
            · subst hz
              go_wp2
              go_roundw
              case rel => exact ⟨q + 1, by omega, by omega, by go_num, fun i h1 h2 => by
                rcases Nat.lt_succ_iff_lt_or_eq.1 h2 with h | h
                · exact HZ.out i h1 h
                · rw [h]; exact HEv.out, HX3⟩
              case measure => simp [intOf]; omega
            · have HS1 := hidP (HSt1.out q hq1 hqn HZ.out (by rw [HEv.out]; exact hz))
              obtain ⟨E1, hE1⟩ : ∃ E1, E1 = swapE E np q s := ⟨_, rfl⟩
              have HB1 : Hid (BndE p n s E1) := by show BndE _ _ _ _; rw [hE1]; exact swapE_bnd HB.out hpr hqn s
              have HE1v : Hid (E1 np k = ev) := by show _ = _; rw [hE1, swapE_row E np q hks]; exact HEv.out
              have HSW := hidP (swapE_zero n s E np q)
              have HSS := hidP (fun m (hm : m < s) => swapE_set (n := n) (r := np) (k := q) hm E)
              have HSA := hidP (fun m i => swapE_at E np q m i)
              have HSE : Hid (flatL n s (swapE E np q s) = flatL n s E1) := by show _ = _; rw [hE1]
              rw [← hE1] at HS1
              clear hE1
              have HRw3 : Hid (RedS w3 b5 wb.heap.size (b5 + 1) p n s (some ⟨g, 0, none⟩) N cc (flatL n s (swapE E np q 0)) ap np cp P) := by show RedS _ _ _ _ _ _ _ _ _ _ _ _ _ _ _; rw [HSW.out]; exact HR.out.below HX3.out
              have HXw3 := hidP (HX.out.trans HX3.out)
              have HMd := hidP (l1Mod_any (-dt) p w3 (by omega) (by omega))
              have hneg : IntKind.i64.wrap (-dt) = -dt := wrap_in (by omega) (by omega)
              have HMb : Hid (0 ≤ (-dt) % p ∧ (-dt) % p < p) := ⟨Int.emod_nonneg _ (by omega), Int.emod_lt_of_pos _ (by omega)⟩
              have HEb : Hid (0 ≤ ev ∧ ev < p) := hqb
              clear HSt0 HSt1 HR HX HXq HX3 HZ HSW HEv hq1 hq2 hqb
              generalize (-dt) % p = dtn at *
              go_wp2_with (with_reducible (refine stop_at 59 (by rfl) ?_))
              unfold Stopped
              repeat (first | (with_reducible refine cond_join (c := .tmp 59) (fun a a' w' => ∃ (d : Int) (v60 v61 v62 v63 v64 : Value), 0 ≤ d ∧ d < p ∧ a' = ((((((a.put (some 7) (.int .i64 d)).put (some 60) v60).put (some 61) v61).put (some 62) v62).put (some 63) v63).put (some 64) v64) ∧ w' = w3) ?_ ?_) | go_skip | go_step)
              rotate_left
              · go_wp2_with fail
                refine HMd.out.mono ?_
                rintro e w4 ⟨rfl, rfl⟩
                obtain ⟨m0, m1⟩ := HMb.out
                go_wp2
              rintro a' w' ⟨dt2, v60, v61, v62, v63, v64, e0, e1, rfl, rfl⟩
              (try simp only [Act.put, List.setIfInBounds_toArray, List.set_cons_zero, List.set_cons_succ])
              clear HMd HMb hneg
              go_wp2
              go_loopw [11] (fun v wr2 => ∃ m : Nat, m ≤ s ∧ v = .int .i64 m ∧ Hid (RedS wr2 b5 wb.heap.size (b5 + 1) p n s (some ⟨g, 0, none⟩) N cc (flatL n s (swapE E np q m)) ap np cp P) ∧ Hid (Ext wb wr2)) (fun v _ => s - (intOf v).toNat)
              case atStart => exact ⟨0, Nat.zero_le _, rfl, HRw3, HXw3⟩
              case round =>
                clear HRw3 HXw3 f0 f1 f2 f3
                obtain ⟨m, hm, rfl, HR, HX⟩ := hrel
                obtain ⟨f0, f1, f2, f3⟩ := HR.out.cells (Below.refl _ _)
                by_cases hms : m < s
                · obtain ⟨t1, ht1, k3, k1, k2, k4, k5, k6⟩ := idxS HNl.out hNb2 hpr hms
                  obtain ⟨t2, ht2, l3, l1, l2, l4, l5, l6⟩ := idxS HNl.out hNb2 hqn hms
                  have hv1 := flatL_get hpr hms (swapE E np q m)
                  have hv2 := flatL_get hqn hms (swapE E np q m)
                  have hs2 := HSS.out m hms
                  rw [HSA.out, ht1] at hv1
                  rw [HSA.out, ht2] at hv2
                  rw [ht1, ht2] at hs2
                  have HS2 := hidP hs2
                  have HK3 := hidP k3
                  have HL3 := hidP l3
                  have hE : Ext wr wr.drew := Ext.drew wr
                  have HF : Hid (∀ w', Ext wr w' → w'.cell? ⟨b5, 2, none⟩ = some (.int .i64 (s : Int)) ∧ w'.cell? ⟨b5, 3, none⟩ = some (.slice (some ⟨g, 0, none⟩) N cc) ∧ w'.cell? ⟨g, t2 + m, none⟩ = some (.int .i64 (E q m))) := fun w' hx => by
                    have h1 := HR.out.cells hx
                    have h2 := HR.out.num hx HL3.out
                    rw [hv2] at h2
                    exact ⟨h1.2.2.1, h1.2.2.2, h2.1⟩
                  have u1 := (HR.out.num (Below.refl _ _) k3).1
                  rw [hv1] at u1
                  have HU1 := hidP (HR.out.num hE k3)
                  have HRA := hidP ((HR.out.put k3 (E q m)).below (Ext.drew _))
                  have HRB := hidP (((HR.out.put k3 (E q m)).put HL3.out (E np m)).below (Ext.drew _))
                  have HXA := hidP (Ext.setNew HX.out g (t1 + m) hg1 (.int .i64 (E q m)))
                  have HXB := hidP ((Ext.setNew HXA.out g (t2 + m) hg1 (.int .i64 (E np m))).trans (Ext.drew _))
                  rw [hs2] at HRB
                  clear hs2 hv1 hv2 HS2 ht1 ht2
                  generalize E q m = xq at *
                  generalize E np m = xr at *
                  go_wp2
                  (refine walkR_start (fun w' => Ext wr w') 18 (by kernel_rfl) ?_; simp only [numbered, List.take_succ_cons, List.take_zero, Nat.zero_add, Nat.reduceAdd, List.length_cons, List.length_nil])
                  repeat (refine walkR_still (v := ?_) rfl (by decide +kernel) rfl (fun _ _ _ h => h) hE ?_ ?_; rotate_left; (focus (intro w' hw'; obtain ⟨y0, y1, y2⟩ := HF.out w' hw'; go_simp; all_goals (with_reducible rfl))); simp only [Act.put, List.setIfInBounds_toArray, List.set_cons_zero, List.set_cons_succ])
                  (refine walkR_tail (by rfl) (by kernel_rfl) ?_; simp only [List.drop_succ_cons, List.drop_zero])
                  obtain ⟨u2, u3⟩ := HU1.out
                  obtain ⟨g0, g1, g2, g3⟩ := HRA.out.cells (Below.refl _ _)
                  obtain ⟨u4, u5⟩ := HRA.out.num (Below.refl _ _) l3
                  clear u1 f0 f1 f2 f3
                  go_wp2
                  go_roundw
                  case rel => exact ⟨m + 1, by omega, by go_num, HRB, HXB⟩
                  case measure => simp [intOf]; omega
                · have HRs : Hid (RedS wr b5 wb.heap.size (b5 + 1) p n s (some ⟨g, 0, none⟩) N cc (flatL n s E1) ap np cp P) := by
                    have hh := HR.out
                    rw [show m = s by omega, HSE.out] at hh
                    exact hh
                  have hE : Ext wr wr.drew := Ext.drew wr
                  have hix := flat_lt (L := s) hpr hks
                  rw [← HNl.out] at hix
                  have HAt := hidP (fun w' (hx : Ext wr w') => l1At_any p n s np k N cc _ _ w' ((HRs.out.data.below hx).ints) (by omega) hix)
                  rw [flatL_get hpr hks E1, HE1v.out] at HAt
                  have HF := hidP (fun w' (hx : Ext wr w') => HRs.out.cells hx)
                  obtain ⟨v0, v1⟩ := HEb.out
                  obtain ⟨q1, q2⟩ := mul_small e0 (by omega) v0 (by omega : ev ≤ 10007)
                  have m1 : IntKind.i64.wrap (dt2 * ev) = dt2 * ev := wrap_in (by omega) (by omega)
                  have m2 : Int.tmod (dt2 * ev) p = dt2 * ev % p := Int.tmod_eq_emod_of_nonneg q1
                  have hpz : ¬ p = 0 := by omega
                  have HD3 : Hid (0 ≤ dt2 * ev % p ∧ dt2 * ev % p < p) := ⟨Int.emod_nonneg _ hpz, Int.emod_lt_of_pos _ (by omega)⟩
                  have hvp : ev % p = ev := Int.emod_eq_of_lt v0 v1
                  have HIv := hidP (fun w' => inverseOf_any ev p w' HP.out (by rw [hvp]; exact hz))
                  rw [hvp] at HIv
                  have HIb : Hid (0 ≤ invP ev p ∧ invP ev p < p) := by
                    show _ ∧ _
                    rw [← invP_powI HP.out (by omega) v1]
                    exact ⟨Int.emod_nonneg _ hpz, Int.emod_lt_of_pos _ (by omega)⟩
                  have HS2 : Hid ((redTo p R (k + 1)).2 = P ++ [(k : Int)] ∧ (redTo p R (k + 1)).1.flatten = flatL n s (clearE p (scaleE p (invP ev p) E1 np s) np k n 0)) := by
                    have hh := HS1.out
                    rw [HE1v.out] at hh
                    exact hh
                  clear HS1 HR hix hvp HSS HSA HSE hm
                  generalize invP ev p = x at *
                  go_wp2
                  (refine walkR_start (fun w' => Ext wr w') 9 (by kernel_rfl) ?_; simp only [numbered, List.take_succ_cons, List.take_zero, Nat.zero_add, Nat.reduceAdd, List.length_cons, List.length_nil])
                  (repeat (first | (refine walkR_still (v := ?_) rfl (by decide +kernel) rfl (fun _ _ _ h => h) hE ?_ ?_; rotate_left; (focus (intro w' hw'; obtain ⟨y0, y1, y2, y3⟩ := HF.out w' hw'; go_simp; all_goals (with_reducible rfl))); simp only [Act.put, List.setIfInBounds_toArray, List.set_cons_zero, List.set_cons_succ]) | (refine walkR_skip rfl (by decide +kernel) rfl (fun _ _ _ h => h) hE ?_; simp only [Act.put, List.setIfInBounds_toArray, List.set_cons_zero, List.set_cons_succ])))
                  (refine walkR_later ?_; simp only [List.cons_append, List.nil_append]); (refine walkR_later ?_; simp only [List.cons_append, List.nil_append])
                  (repeat (first | (refine walkR_still (v := ?_) rfl (by decide +kernel) rfl (fun _ _ _ h => h) hE ?_ ?_; rotate_left; (focus (intro w' hw'; obtain ⟨y0, y1, y2, y3⟩ := HF.out w' hw'; go_simp; all_goals (with_reducible rfl))); simp only [Act.put, List.setIfInBounds_toArray, List.set_cons_zero, List.set_cons_succ]) | (refine walkR_skip rfl (by decide +kernel) rfl (fun _ _ _ h => h) hE ?_; simp only [Act.put, List.setIfInBounds_toArray, List.set_cons_zero, List.set_cons_succ])))
                  (refine walkR_later ?_; simp only [List.cons_append, List.nil_append])
                  (refine walkR_only (fun w' => Ext wr w') rfl (by decide +kernel) rfl (fun _ h => h) ?_; intro K hK; go_simp; refine (HAt.out _ hE).mono ?_; rintro e w4 ⟨rfl, hx4⟩; refine hK _ _ (hE.trans hx4) ?_; clear hK K; (try simp only [Act.put, List.setIfInBounds_toArray, List.set_cons_zero, List.set_cons_succ]))
                  have hE4 := hE.trans hx4
                  (repeat (first | (refine walkR_still (v := ?_) rfl (by decide +kernel) rfl (fun _ _ _ h => h) hE4 ?_ ?_; rotate_left; (focus (intro w' hw'; obtain ⟨y0, y1, y2, y3⟩ := HF.out w' hw'; go_simp; all_goals (with_reducible rfl))); simp only [Act.put, List.setIfInBounds_toArray, List.set_cons_zero, List.set_cons_succ]) | (refine walkR_skip rfl (by decide +kernel) rfl (fun _ _ _ h => h) hE4 ?_; simp only [Act.put, List.setIfInBounds_toArray, List.set_cons_zero, List.set_cons_succ])))
                  (refine walkR_tail (by rfl) (by kernel_rfl) ?_; simp only [List.drop_succ_cons, List.drop_zero])
                  generalize dt2 * ev % p = dt3 at *
                  go_wp2
                  have hE5 := hE4.trans (Ext.drew w4)
                  (refine walkR_start (fun w' => Ext wr w') 7 (by kernel_rfl) ?_; simp only [numbered, List.take_succ_cons, List.take_zero, Nat.zero_add, Nat.reduceAdd, List.length_cons, List.length_nil])
                  (repeat (first | (refine walkR_still (v := ?_) rfl (by decide +kernel) rfl (fun _ _ _ h => h) hE5 ?_ ?_; rotate_left; (focus (intro w' hw'; obtain ⟨y0, y1, y2, y3⟩ := HF.out w' hw'; go_simp; all_goals (with_reducible rfl))); simp only [Act.put, List.setIfInBounds_toArray, List.set_cons_zero, List.set_cons_succ]) | (refine walkR_skip rfl (by decide +kernel) rfl (fun _ _ _ h => h) hE5 ?_; simp only [Act.put, List.setIfInBounds_toArray, List.set_cons_zero, List.set_cons_succ])))
                  (refine walkR_later ?_; simp only [List.cons_append, List.nil_append])
                  (repeat (first | (refine walkR_still (v := ?_) rfl (by decide +kernel) rfl (fun _ _ _ h => h) hE5 ?_ ?_; rotate_left; (focus (intro w' hw'; obtain ⟨y0, y1, y2, y3⟩ := HF.out w' hw'; go_simp; all_goals (with_reducible rfl))); simp only [Act.put, List.setIfInBounds_toArray, List.set_cons_zero, List.set_cons_succ]) | (refine walkR_skip rfl (by decide +kernel) rfl (fun _ _ _ h => h) hE5 ?_; simp only [Act.put, List.setIfInBounds_toArray, List.set_cons_zero, List.set_cons_succ])))
                  (refine walkR_later ?_; simp only [List.cons_append, List.nil_append])
                  (refine walkR_only (fun w' => Ext wr w') rfl (by decide +kernel) rfl (fun _ h => h) ?_; intro K hK; go_simp; refine (HAt.out _ hE5).mono ?_; rintro e w5 ⟨rfl, hx5⟩; refine hK _ _ (hE5.trans hx5) ?_; clear hK K; (try simp only [Act.put, List.setIfInBounds_toArray, List.set_cons_zero, List.set_cons_succ]))
                  have hE6 := hE5.trans hx5
                  (repeat (first | (refine walkR_still (v := ?_) rfl (by decide +kernel) rfl (fun _ _ _ h => h) hE6 ?_ ?_; rotate_left; (focus (intro w' hw'; obtain ⟨y0, y1, y2, y3⟩ := HF.out w' hw'; go_simp; all_goals (with_reducible rfl))); simp only [Act.put, List.setIfInBounds_toArray, List.set_cons_zero, List.set_cons_succ]) | (refine walkR_skip rfl (by decide +kernel) rfl (fun _ _ _ h => h) hE6 ?_; simp only [Act.put, List.setIfInBounds_toArray, List.set_cons_zero, List.set_cons_succ])))
                  (refine walkR_only (fun w' => Ext wr w') rfl (by decide +kernel) rfl (fun _ h => h) ?_; intro K hK; go_simp; refine (HIv.out _).mono ?_; rintro e w6 ⟨rfl, rfl⟩; refine hK _ _ (hE6) ?_; clear hK K; (try simp only [Act.put, List.setIfInBounds_toArray, List.set_cons_zero, List.set_cons_succ]))
                  (refine walkR_tail (by rfl) (by kernel_rfl) ?_; simp only [List.drop_succ_cons, List.drop_zero])
                  have HRs2 : Hid (RedS w5 b5 wb.heap.size (b5 + 1) p n s (some ⟨g, 0, none⟩) N cc (flatL n s (scaleE p x E1 np 0)) ap np cp P) := by
                    show RedS _ _ _ _ _ _ _ _ _ _ _ _ _ _ _
                    rw [scaleE_zero]
                    exact HRs.out.below hE6
                  have HXs2 := hidP (HX.out.trans hE6)
                  have HSS := hidP (fun m (hm : m < s) => scaleE_set (n := n) (r := np) hm p x E1)
                  have HSA := hidP (fun m i => scaleE_at p x E1 np m i)
                  clear HRs HX hE hE4 hE5 hE6 hx4 hx5 HAt HIv HF q1 q2 m1 m2
                  go_wp2
                  go_loopw [14] (fun v wr2 => ∃ m : Nat, m ≤ s ∧ v = .int .i64 m ∧ Hid (RedS wr2 b5 wb.heap.size (b5 + 1) p n s (some ⟨g, 0, none⟩) N cc (flatL n s (scaleE p x E1 np m)) ap np cp P) ∧ Hid (Ext wb wr2)) (fun v _ => s - (intOf v).toNat)
                  case atStart => exact ⟨0, Nat.zero_le _, rfl, HRs2, HXs2⟩
                  case round =>
                    clear HRs2 HXs2 f0 f1 f2 f3
                    obtain ⟨m, hm, rfl, HR, HX⟩ := hrel
                    obtain ⟨f0, f1, f2, f3⟩ := HR.out.cells (Below.refl _ _)
                    by_cases hms : m < s
                    · obtain ⟨t1, ht1, k3, k1, k2, k4, k5, k6⟩ := idxS HNl.out hNb2 hpr hms
                      have hv1 := flatL_get hpr hms (scaleE p x E1 np m)
                      have hs2 := HSS.out m hms
                      rw [HSA.out, ht1] at hv1
                      rw [ht1] at hs2
                      have HK3 := hidP k3
                      obtain ⟨b0, b1⟩ := HB1.out np m hpr hms
                      have hE : Ext wr wr.drew := Ext.drew wr
                      have HF : Hid (∀ w', Ext wr w' → w'.cell? ⟨b5, 0, none⟩ = some (.int .i64 p) ∧ w'.cell? ⟨b5, 2, none⟩ = some (.int .i64 (s : Int)) ∧ w'.cell? ⟨b5, 3, none⟩ = some (.slice (some ⟨g, 0, none⟩) N cc) ∧ w'.cell? ⟨g, t1 + m, none⟩ = some (.int .i64 (E1 np m))) := fun w' hx => by
                        have h1 := HR.out.cells hx
                        have h2 := HR.out.num hx HK3.out
                        rw [hv1] at h2
                        exact ⟨h1.1, h1.2.2.1, h1.2.2.2, h2.1⟩
                      have HU1 := hidP (HR.out.num hE k3)
                      have HRA := hidP ((HR.out.put k3 (E1 np m * x % p)).below (Ext.drew _))
                      rw [hs2] at HRA
                      have HXA := hidP ((Ext.setNew HX.out g (t1 + m) hg1 (.int .i64 (E1 np m * x % p))).trans (Ext.drew _))
                      clear hs2 hv1 ht1
                      generalize E1 np m = xr at *
                      obtain ⟨i0, i1⟩ := HIb.out
                      obtain ⟨q1, q2⟩ := mul_small b0 (by omega : xr ≤ 10007) i0 (by omega)
                      have m1 : IntKind.i64.wrap (xr * x) = xr * x := wrap_in (by omega) (by omega)
                      have m2 : Int.tmod (xr * x) p = xr * x % p := Int.tmod_eq_emod_of_nonneg q1
                      go_wp2
                      (refine walkR_start (fun w' => Ext wr w') 23 (by kernel_rfl) ?_; simp only [numbered, List.take_succ_cons, List.take_zero, Nat.zero_add, Nat.reduceAdd, List.length_cons, List.length_nil])
                      repeat (refine walkR_still (v := ?_) rfl (by decide +kernel) rfl (fun _ _ _ h => h) hE ?_ ?_; rotate_left; (focus (intro w' hw'; obtain ⟨y0, y1, y2, y3⟩ := HF.out w' hw'; go_simp; all_goals (with_reducible rfl))); simp only [Act.put, List.setIfInBounds_toArray, List.set_cons_zero, List.set_cons_succ])
                      (refine walkR_tail (by rfl) (by kernel_rfl) ?_; simp only [List.drop_succ_cons, List.drop_zero])
                      obtain ⟨u2, u3⟩ := HU1.out
                      clear f0 f1 f2 f3
                      go_wp2
                      go_roundw
                      case rel => exact ⟨m + 1, by omega, by go_num, HRA, HXA⟩
                      case measure => simp [intOf]; omega
                    · have HRs : Hid (RedS wr b5 wb.heap.size (b5 + 1) p n s (some ⟨g, 0, none⟩) N cc (flatL n s (clearE p (scaleE p x E1 np s) np k 0 0)) ap np cp P) := by
                        have hh := HR.out
                        rw [show m = s by omega] at hh
                        show RedS _ _ _ _ _ _ _ _ _ _ _ _ _ _ _
                        rw [clearE_zero]
                        exact hh
                      have HB2 : Hid (BndE p n s (scaleE p x E1 np s)) := scaleE_bnd (by omega) HB1.out s
                      clear HR HSS HSA hm
                      generalize scaleE p x E1 np s = E2 at *
                      go_wp2
                      go_loopw [15] (fun v wr2 => ∃ i : Nat, i ≤ n ∧ v = .int .i64 i ∧ Hid (RedS wr2 b5 wb.heap.size (b5 + 1) p n s (some ⟨g, 0, none⟩) N cc (flatL n s (clearE p E2 np k i 0)) ap np cp P) ∧ Hid (Ext wb wr2)) (fun v _ => n - (intOf v).toNat)
                      case atStart => exact ⟨0, Nat.zero_le _, rfl, HRs, HX⟩
                      case round =>
                        clear HRs HX f0 f1 f2 f3
                        obtain ⟨i, hi, rfl, HR, HX⟩ := hrel
                        obtain ⟨f0, f1, f2, f3⟩ := HR.out.cells (Below.refl _ _)
                        obtain ⟨wq, rfl⟩ : ∃ wq : World, wq = wr := ⟨_, rfl⟩
                        by_cases hin : i < n
                        · have hix := flat_lt (L := s) hin hks
                          rw [← HNl.out] at hix
                          have HAt := hidP (l1At_any p n s i k N cc _ _ wq (HR.out.data.ints) (by omega) hix)
                          rw [flatL_get hin hks, clearE_at0] at HAt
                          have HSm := hidP (fun h => clearE_same (n := n) (s := s) p E2 np k i h)
                          have HNx := hidP (clearE_next (n := n) (s := s) p E2 np k i)
                          have HSS := hidP (fun m (hm : m < s) => clearE_set (n := n) (r := np) (c := k) (a := i) hm p E2)
                          have HFb := hidP (HB2.out i k hin hks)
                          clear hix
                          generalize hfv : E2 i k = fv at *
                          clear hfv
                          go_wp2_with fail
                          refine HAt.out.mono ?_
                          rintro e w3 ⟨rfl, hx3⟩
                          have HR3 := hidP (HR.out.below hx3)
                          have HX3 := hidP (HX.out.trans hx3)
                          clear hx3 HAt HR HX f0 f1 f2 f3
                          obtain ⟨f0, f1, f2, f3⟩ := HR3.out.cells (Below.refl _ _)
                          by_cases hip : (i : Int) = (np : Int)
                          · have hipb : ((i : Int) != (np : Int)) = false := by simp [hip]
                            go_wp2
                            go_loopw [17] (fun v wr2 => v = .int .i64 0 ∧ Hid (Ext w3 wr2)) (fun _ _ => 0)
                            case atStart => exact ⟨rfl, Below.refl _ _⟩
                            case round =>
                              obtain ⟨rfl, HXr⟩ := hrel
                              obtain ⟨f0, f1, f2, f3⟩ := HR3.out.cells HXr.out
                              go_wp2
                              go_roundw
                              case rel => exact ⟨i + 1, by omega, by go_num, by rw [← HSm.out (.inl (by omega))]; exact HR3.out.below HXr.out, HX3.out.trans HXr.out⟩
                              case measure => simp [intOf]; omega
                          · have hipb : ((i : Int) != (np : Int)) = true := bne_iff_ne.2 hip
                            by_cases hf0 : fv = 0
                            · subst hf0
                              go_wp2
                              go_loopw [17] (fun v wr2 => v = .int .i64 0 ∧ Hid (Ext w3 wr2)) (fun _ _ => 0)
                              case atStart => exact ⟨rfl, Below.refl _ _⟩
                              case round =>
                                obtain ⟨rfl, HXr⟩ := hrel
                                obtain ⟨f0, f1, f2, f3⟩ := HR3.out.cells HXr.out
                                go_wp2
                                go_roundw
                                case rel => exact ⟨i + 1, by omega, by go_num, by rw [← HSm.out (.inr (by simp))]; exact HR3.out.below HXr.out, HX3.out.trans HXr.out⟩
                                case measure => simp [intOf]; omega
                            · have hf0b : (fv != 0) = true := bne_iff_ne.2 hf0
                              go_wp2
                              go_loopw [17] (fun v wr2 => ∃ m : Nat, m ≤ s ∧ v = .int .i64 m ∧ Hid (RedS wr2 b5 wb.heap.size (b5 + 1) p n s (some ⟨g, 0, none⟩) N cc (flatL n s (clearE p E2 np k i m)) ap np cp P) ∧ Hid (Ext wb wr2)) (fun v _ => s - (intOf v).toNat)
                              case atStart => exact ⟨0, Nat.zero_le _, rfl, HR3, HX3⟩
                              case round =>
                                clear HR3 HX3 f0 f1 f2 f3
                                obtain ⟨m, hm, rfl, HR, HX⟩ := hrel
                                obtain ⟨f0, f1, f2, f3⟩ := HR.out.cells (Below.refl _ _)
                                by_cases hms : m < s
                                · obtain ⟨t1, ht1, k3, k1, k2, k4, k5, k6⟩ := idxS HNl.out hNb2 hin hms
                                  obtain ⟨t2, ht2, l3, l1, l2, l4, l5, l6⟩ := idxS HNl.out hNb2 hpr hms
                                  have hv1 := flatL_get hin hms (clearE p E2 np k i m)
                                  have hv2 := flatL_get hpr hms (clearE p E2 np k i m)
                                  have hs2 := HSS.out m hms (by omega) hf0
                                  rw [clearE_at, ht1] at hv1
                                  rw [clearE_row, ht2] at hv2
                                  rw [ht1] at hs2
                                  have HK3 := hidP k3
                                  have HL3 := hidP l3
                                  obtain ⟨b0, b1⟩ := HB2.out i m hin hms
                                  obtain ⟨c0, c1⟩ := HB2.out np m hpr hms
                                  obtain ⟨a0, a1⟩ := HFb.out
                                  have hE : Ext wr wr.drew := Ext.drew wr
                                  have HF : Hid (∀ w', Ext wr w' → w'.cell? ⟨b5, 0, none⟩ = some (.int .i64 p) ∧ w'.cell? ⟨b5, 2, none⟩ = some (.int .i64 (s : Int)) ∧ w'.cell? ⟨b5, 3, none⟩ = some (.slice (some ⟨g, 0, none⟩) N cc) ∧ w'.cell? ⟨g, t1 + m, none⟩ = some (.int .i64 (E2 i m)) ∧ w'.cell? ⟨g, t2 + m, none⟩ = some (.int .i64 (E2 np m))) := fun w' hx => by
                                    have h1 := HR.out.cells hx
                                    have h2 := HR.out.num hx HK3.out
                                    have h3 := HR.out.num hx HL3.out
                                    rw [hv1] at h2
                                    rw [hv2] at h3
                                    exact ⟨h1.1, h1.2.2.1, h1.2.2.2, h2.1, h3.1⟩
                                  have HU1 := hidP (HR.out.num hE k3)
                                  have HRA := hidP ((HR.out.put k3 ((E2 i m - fv * E2 np m) % p)).below (Ext.drew _))
                                  rw [hs2] at HRA
                                  have HXA := hidP ((Ext.setNew HX.out g (t1 + m) hg1 (.int .i64 ((E2 i m - fv * E2 np m) % p))).trans (Ext.drew _))
                                  clear hs2 hv1 hv2 ht1 ht2
                                  generalize E2 i m = xi at *
                                  generalize E2 np m = xr at *
                                  obtain ⟨q1, q2⟩ := mul_small a0 (by omega : fv ≤ 10007) c0 (by omega)
                                  have m1 : IntKind.i64.wrap (fv * xr) = fv * xr := wrap_in (by omega) (by omega)
                                  have m2 : IntKind.i64.wrap (xi - fv * xr) = xi - fv * xr := wrap_in (by omega) (by omega)
                                  have HMd := hidP (fun w' => l1Mod_any (xi - fv * xr) p w' (by omega) (by omega))
                                  go_wp2
                                  (refine walkR_start (fun w' => Ext wr w') 34 (by kernel_rfl) ?_; simp only [numbered, List.take_succ_cons, List.take_zero, Nat.zero_add, Nat.reduceAdd, List.length_cons, List.length_nil])
                                  (repeat (first | (refine walkR_still (v := ?_) rfl (by decide +kernel) rfl (fun _ _ _ h => h) hE ?_ ?_; rotate_left; (focus (intro w' hw'; obtain ⟨y0, y1, y2, y3, y4⟩ := HF.out w' hw'; go_simp; all_goals (with_reducible rfl))); simp only [Act.put, List.setIfInBounds_toArray, List.set_cons_zero, List.set_cons_succ]) | (refine walkR_skip rfl (by decide +kernel) rfl (fun _ _ _ h => h) hE ?_; simp only [Act.put, List.setIfInBounds_toArray, List.set_cons_zero, List.set_cons_succ])))
                                  (refine walkR_only (fun w' => Ext wr w') rfl (by decide +kernel) rfl (fun _ h => h) ?_; intro K hK; go_simp; refine (HMd.out _).mono ?_; rintro e w4 ⟨rfl, rfl⟩; refine hK _ _ (hE) ?_; clear hK K; (try simp only [Act.put, List.setIfInBounds_toArray, List.set_cons_zero, List.set_cons_succ]))
                                  (refine walkR_tail (by rfl) (by kernel_rfl) ?_; simp only [List.drop_succ_cons, List.drop_zero])
                                  obtain ⟨u2, u3⟩ := HU1.out
                                  clear f0 f1 f2 f3
                                  go_wp2
                                  go_roundw
                                  case rel => exact ⟨m + 1, by omega, by go_num, HRA, HXA⟩
                                  case measure => simp [intOf]; omega
                                · have HRn : Hid (RedS wr b5 wb.heap.size (b5 + 1) p n s (some ⟨g, 0, none⟩) N cc (flatL n s (clearE p E2 np k (i + 1) 0)) ap np cp P) := by
                                    have hh := HR.out
                                    rw [show m = s by omega, HNx.out] at hh
                                    exact hh
                                  go_wp2
                                  go_roundw
                                  case rel => exact ⟨i + 1, by omega, by go_num, HRn, HX⟩
                                  case measure => simp [intOf]; omega
                        · have HRn : Hid (RedS wq b5 wb.heap.size (b5 + 1) p n s (some ⟨g, 0, none⟩) N cc (redTo p R (k + 1)).1.flatten ap np cp P) := by
                            show RedS _ _ _ _ _ _ _ _ _ _ _ _ _ _ _
                            rw [HS2.out.2]
                            have hh := HR.out
                            rw [show i = n by omega] at hh
                            exact hh
                          have hxa := Ext.alloc wq (.cells #[.int .i64 (k : Int)] 3)
                          have HI : Hid (IntsAt (wq.alloc (.cells #[.int .i64 (k : Int)] 3)) (some ⟨wq.heap.size, 0, none⟩) 1 [(k : Int)]) := ⟨rfl, fun q hq => ⟨wq.heap.size, 0, rfl, by
                            obtain rfl : q = 0 := by omega
                            rw [cell_top _ _ _ _ _ rfl]
                            rfl⟩⟩
                          have HRa := hidP (HRn.out.below hxa)
                          have HXa := hidP (HX.out.trans hxa)
                          have HBP : Hid (wb.heap.size ≤ b5 + 1) := Nat.le_trans HBD.out (Nat.le_succ _)
                          have HSZa : Hid (b5 + 1 ≤ (wq.alloc (.cells #[.int .i64 (k : Int)] 3)).heap.size) := HRa.out.mat.lt
                          have hpv := HRa.out.piv.len
                          have hnp2 : np ≤ 1000000 := by omega
                          clear hxa hpv
                          go_wp2_with (at_builtin; refine wpList_append_ints rfl (.tmp 216) (.tmp 218) rfl (b5 + 1) ap np cp P rfl HRa.out.piv (some ⟨wq.heap.size, 0, none⟩) 1 1 [(k : Int)] rfl HI.out (fun e => by cases e) (by omega) HSZa.out ?_; intro a2 c2 w2 ho2 hg2; have HRf := hidP (HRa.out.push hg2 ho2); have HXf := hidP (HRa.out.ext HXa.out hg2 HBP.out); clear hg2 ho2)
                          rw [← HS2.out.1] at HRf
                          go_roundw
                          case rel => exact ⟨k + 1, a2, np + 1, c2, dt3, by omega, rfl, rfl, by go_num, HD3.out.1, HD3.out.2, HRf, HXf⟩
                          case measure => simp [intOf]; omega
          · obtain rfl : q = n := by omega
            have HS0 := hidP (HSt0.out HZ.out)
            have HR2 : Hid (RedS wr b5 wb.heap.size (b5 + 1) p q s (some ⟨g, 0, none⟩) N cc (redTo p R (k + 1)).1.flatten ap np cp (redTo p R (k + 1)).2) := by
              show RedS _ _ _ _ _ _ _ _ _ _ _ _ _ _ _
              rw [HS0.out]
              exact HD.out ▸ HR.out.below HXq.out
            go_wp2
            go_roundw
            case rel => exact ⟨k + 1, ap, np, cp, dt, by omega, rfl, rfl, by go_num, d0, d1, HR2, HX.out.trans HXq.out⟩
            case measure => simp [intOf]; omega
      · have HE : Hid (redTo p R s = redTo p R k) := HAl.out (by rw [HL.out, HPL.out]; omega)
        obtain ⟨r0, y0⟩ := HNW.out wr HX.out 0
        obtain ⟨r1, y1⟩ := HNW.out wr HX.out 1
        obtain ⟨r2, y2⟩ := HNW.out wr HX.out 2
        obtain ⟨r3, y3⟩ := HNW.out wr HX.out 3
        have r0 := r0.trans (show _ = some (Value.int .i64 0) from rfl)
        have r1 := r1.trans (show _ = some (Value.int .i64 0) from rfl)
        have r2 := r2.trans (show _ = some (Value.int .i64 0) from rfl)
        have r3 := r3.trans (show _ = some (Value.slice none 0 0) from rfl)
        go_wp2
        refine bodyPost_ret (v := .tuple #[matV p n s ac N cc, .slice ap np cp, .int .i64 dt]) (by simp [results, Try.results175, go_sem, r0, r1, r2, r3]) rfl ?_
        refine ⟨ac, cc, ap, np, cp, dt, rfl, ?_, ?_, Ext.set4 (HX0w.out.trans HX.out) _ _ _ _ _ (Nat.le_succ _)⟩
        · rw [HE.out]
          exact (HR.out.data.set4 (w.heap.size + 1) _ _ _ _ (by have := HSZ.out; omega)).base (by have := HSZ.out; omega)
        · rw [HE.out]
          exact (HR.out.piv.set4 (w.heap.size + 1) _ _ _ _ (by have := HSZ.out; have := HBD.out; omega)).base (by have := HSZ.out; have := HBD.out; omega)
    · have HE : Hid (redTo p R s = redTo p R k) := by show _ = _; rw [show k = s by omega]
      obtain ⟨r0, y0⟩ := HNW.out wr HX.out 0
      obtain ⟨r1, y1⟩ := HNW.out wr HX.out 1
      obtain ⟨r2, y2⟩ := HNW.out wr HX.out 2
      obtain ⟨r3, y3⟩ := HNW.out wr HX.out 3
      have r0 := r0.trans (show _ = some (Value.int .i64 0) from rfl)
      have r1 := r1.trans (show _ = some (Value.int .i64 0) from rfl)
      have r2 := r2.trans (show _ = some (Value.int .i64 0) from rfl)
      have r3 := r3.trans (show _ = some (Value.slice none 0 0) from rfl)
      go_wp2
      refine bodyPost_ret (v := .tuple #[matV p n s ac N cc, .slice ap np cp, .int .i64 dt]) (by simp [results, Try.results175, go_sem, r0, r1, r2, r3]) rfl ?_
      refine ⟨ac, cc, ap, np, cp, dt, rfl, ?_, ?_, Ext.set4 (HX0w.out.trans HX.out) _ _ _ _ _ (Nat.le_succ _)⟩
      · rw [HE.out]
        exact (HR.out.data.set4 (w.heap.size + 1) _ _ _ _ (by have := HSZ.out; omega)).base (by have := HSZ.out; omega)
      · rw [HE.out]
        exact (HR.out.piv.set4 (w.heap.size + 1) _ _ _ _ (by have := HSZ.out; have := HBD.out; omega)).base (by have := HSZ.out; have := HBD.out; omega)
end Go.Proofs.Ytenlhfimdpcaoaa

namespace Go.Proofs.Ytenlhfimdpcaoaa
open Go.RowKit

theorem OwnI.takeN {w : World} {B : Nat} {a : Option Addr} {n c : Nat} {xs : List Int} (h : OwnI w B a n c xs) (m : Nat) (hm : m ≤ n) : OwnI w B a m c (xs.take m) := by
  refine ⟨⟨by have := h.len; simp [ivs_length]; omega, ?_⟩⟩
  rcases h.row.2 with ⟨he, h0⟩ | ⟨g, cap, cur, he, hB, hg, hnc, hcm, hcs, ht⟩
  · simp only [Value.slice.injEq] at he
    obtain ⟨rfl, _, rfl⟩ := he
    have : m = 0 := by omega
    subst this
    exact .inl ⟨rfl, rfl⟩
  · simp only [Value.slice.injEq, true_and] at he
    obtain ⟨rfl, rfl⟩ := he
    refine .inr ⟨g, c, cur, rfl, hB, hg, by omega, hcm, hcs, ?_⟩
    have e : ivs (xs.take m) = (ivs xs).take (m * 1) := by simp [ivs]
    rw [e, ← ht, List.take_take, Nat.min_eq_left (by omega)]
theorem flatten_takeR {L : Nat} : ∀ {R : List (List Int)} (m : Nat), (∀ i, i < R.length → (R.getD i []).length = L) → (R.take m).flatten = R.flatten.take (m * L)
  | R, 0, _ => by simp
  | [], m + 1, _ => by simp
  | r :: R, m + 1, h => by
    have hr : r.length = L := h 0 (by simp)
    rw [List.take_succ_cons, List.flatten_cons, List.flatten_cons, flatten_takeR m (fun i hi => h (i + 1) (by simpa using hi)), List.take_append, List.take_of_length_le (l := r) (by rw [hr, Nat.add_mul]; omega), hr]
    congr 2
    rw [Nat.add_mul]
    omega
set_option maxHeartbeats 2000000 in
theorem l1Span_any (p : Int) (n s : Nat) (a : Option Addr) (N c : Nat) (R : List (List Int)) (w : World) (h : IntsAt w a N R.flatten) (hnil : a = none → c = 0) (hR : Rows p s R) (hn : R.length = n) (hp : primeB p = true)
    (hnb : n ≤ 100000) (hsb : s ≤ 100000) (hNb : n * s ≤ 1000000) :
    Calls Try.prog 169 #[matV p n s a N c] w fun e w' => ∃ a' l' c', e = .returned (matV p (spanL p s R).length s a' l' c') ∧ OwnI w' w.heap.size a' l' c' (spanL p s R).flatten ∧ Ext w w' := by
  obtain ⟨p2, p7⟩ := prime_bounds hp
  have hok := redTo_ok (by omega : 0 < p) hR s
  have hl : (spanL p s R).length = (redTo p R s).2.length := by unfold spanL; rw [List.length_take, hok.len]; exact Nat.min_eq_left hok.pn
  have hfl : (spanL p s R).flatten = (redTo p R s).1.flatten.take ((redTo p R s).2.length * s) := flatten_takeR _ hok.rows.len
  have hpn := hok.pn
  rw [hn] at hpn
  have hNl : N = n * s := by
    have h1 := h.len
    rw [flat_rows hR, flatL_length, hn] at h1
    exact h1.symm
  have HFl := hidP hfl
  have HL := hidP hl
  have hx0 := (Ext.alloc w (.cells #[.int .i64 p, .int .i64 (n : Int), .int .i64 (s : Int), .slice a N c] 36)).trans (Ext.alloc _ (.cells #[.int .i64 0, .int .i64 0, .int .i64 0, .slice none 0 0] 36))
  have HM := hidP (MatAt.below (MatAt.new w _ rfl p n s a N c 36) (Ext.alloc _ (.cells #[.int .i64 0, .int .i64 0, .int .i64 0, .slice none 0 0] 36)))
  have hnew := fun w1 hx j => new_cell (w' := w1) (w := w.alloc (.cells #[.int .i64 p, .int .i64 (n : Int), .int .i64 (s : Int), .slice a N c] 36)) (cs := #[.int .i64 0, .int .i64 0, .int .i64 0, .slice none 0 0]) (E := 36) (b := w.heap.size + 1) (by simp) hx j
  have HC := hidP (l1Reduce_any p n s a N c R _ (h.below hx0) hnil hR hn hp hnb hsb hNb)
  have HX0w := hidP hx0
  have hsz : ((w.alloc (.cells #[.int .i64 p, .int .i64 (n : Int), .int .i64 (s : Int), .slice a N c] 36)).alloc (.cells #[.int .i64 0, .int .i64 0, .int .i64 0, .slice none 0 0] 36)).heap.size = w.heap.size + 2 := by simp
  have HNl := hidP hNl
  have hNb2 : N ≤ 1000000 := by omega
  clear hx0 h hR hnil hok hl hfl hNl hn hp
  go_enter Try.func169, Try.ntmps169
  have f0 := HM.out.c0
  have f1 := HM.out.c1
  have f2 := HM.out.c2
  have f3 := HM.out.c3
  go_wp2_with fail
  clear f0 f1 f2 f3
  obtain ⟨wb, hwb⟩ : ∃ wb, wb = ((w.alloc (.cells #[.int .i64 p, .int .i64 (n : Int), .int .i64 (s : Int), .slice a N c] 36)).alloc (.cells #[.int .i64 0, .int .i64 0, .int .i64 0, .slice none 0 0] 36)) := ⟨_, rfl⟩
  rw [← hwb] at HM hnew HC HX0w hsz ⊢
  clear hwb HM
  have HNW := hidP hnew
  have HSZ := hidP hsz
  clear hnew hsz
  refine HC.out.mono ?_
  rintro e wc ⟨ac, cc, ap, np, cp, dt, rfl, hoc, hop, hxc⟩
  have hpl := hop.len
  have hml := Nat.mul_le_mul_right s hpn
  rw [hpl] at hpn hml HFl HL
  rw [← HNl.out] at hml
  have e0 : (np : Int) * (s : Int) = ((np * s : Nat) : Int) := (Int.natCast_mul _ _).symm
  generalize np * s = t at *
  have e1 : IntKind.i64.wrap ((np : Int) * (s : Int)) = (t : Int) := by
    rw [e0]
    exact wrap_in (by omega) (by omega)
  have HOT := hidP (hoc.takeN t hml)
  have HXC := hidP hxc
  have hnc : t ≤ cc := by
    have h1 := hoc.caps
    omega
  have hcm := hoc.caps.2
  clear hoc hop hxc HC hpl
  have hx1 := Ext.alloc wc (.cells #[.int .i64 p, .int .i64 (np : Int), .int .i64 (s : Int), .slice ac t cc] 36)
  have HO2 := hidP (HOT.out.below hx1)
  have HX2 := hidP (HXC.out.trans hx1)
  obtain ⟨r0, y0⟩ := HNW.out _ HX2.out 0
  obtain ⟨r1, y1⟩ := HNW.out _ HX2.out 1
  obtain ⟨r2, y2⟩ := HNW.out _ HX2.out 2
  obtain ⟨r3, y3⟩ := HNW.out _ HX2.out 3
  have r0 := r0.trans (show _ = some (Value.int .i64 0) from rfl)
  have r1 := r1.trans (show _ = some (Value.int .i64 0) from rfl)
  have r2 := r2.trans (show _ = some (Value.int .i64 0) from rfl)
  have r3 := r3.trans (show _ = some (Value.slice none 0 0) from rfl)
  have hsp : ∀ q, ac = some q → q.spot = none := by
    intro q e
    rcases HOT.out.row.2 with ⟨he, _⟩ | ⟨g', cap, cur, he, hB, hg, _⟩
    · simp only [Value.slice.injEq] at he
      rw [e] at he
      cases he.1
    · simp only [Value.slice.injEq] at he
      rw [e] at he
      simp only [Option.some.injEq] at he
      rw [he.1]
  clear hx1 e0
  cases ac with
  | none =>
    go_wp2
    refine bodyPost_ret (v := matV p np s none t cc) (by simp [results, Try.results169, go_sem, r0, r1, r2, r3]) rfl ?_
    rw [HFl.out, HL.out]
    exact ⟨none, t, cc, rfl, (HO2.out.set4 (w.heap.size + 1) _ _ _ _ (by have := HSZ.out; omega)).base (by have := HSZ.out; omega), Ext.set4 (HX0w.out.trans HX2.out) _ _ _ _ _ (Nat.le_succ _)⟩
  | some q =>
    obtain ⟨b, o, sp⟩ := q
    obtain rfl : sp = none := hsp _ rfl
    go_wp2
    refine bodyPost_ret (v := matV p np s (some ⟨b, o, none⟩) t cc) (by simp [results, Try.results169, go_sem, r0, r1, r2, r3]) rfl ?_
    rw [HFl.out, HL.out]
    exact ⟨_, t, cc, rfl, (HO2.out.set4 (w.heap.size + 1) _ _ _ _ (by have := HSZ.out; omega)).base (by have := HSZ.out; omega), Ext.set4 (HX0w.out.trans HX2.out) _ _ _ _ _ (Nat.le_succ _)⟩
end Go.Proofs.Ytenlhfimdpcaoaa

namespace Go.Proofs.Ytenlhfimdpcaoaa
open Go.RowKit

set_option maxHeartbeats 4000000 in
theorem series_any (F : FuncId) (caps : Array Value) (f : List (List Int) → List (List Int)) (p : Int) (d B m : Nat) (a0 : Option Addr) (l0 c0 : Nat) (R : List (List Int)) (w : World)
    (h0 : OwnI w B a0 l0 c0 R.flatten) (hB : B ≤ w.heap.size) (hm : m ≤ 1000000)
    (hF : ∀ (args : Array Value) (w : World), Sem.run Try.prog (callFunc F args) w = .ok (.enter F args) w)
    (hf : ∀ i, i ≤ m → ∀ a l c w', Ext w w' → OwnI w' B a l c (iterL f R i).flatten → Calls Try.prog F (#[matV p (iterL f R i).length d a l c] ++ caps) w' (StepSays p d w'.heap.size f (iterL f R i) w'))
    (hne : ∀ i, i < m → (iterL f R (i + 1)).length ≠ (iterL f R i).length) (heq : (iterL f R (m + 1)).length = (iterL f R m).length) :
    Calls Try.prog 74 #[matV p R.length d a0 l0 c0, .func (.func F) #[] caps] w fun e w' => ∃ a' c' hs, e = .returned (.slice a' (m + 1) c') ∧ OwnK matK w' B w'.heap.size a' (m + 1) c' hs (serL p d f R m) ∧ Ext w w' := by
  have hl0 := h0.len
  have hx0 := (Ext.alloc w (.cells #[.int .i64 p, .int .i64 (R.length : Int), .int .i64 (d : Int), .slice a0 l0 c0] 36)).trans (Ext.alloc _ (.cells #[.int .i64 p, .int .i64 (R.length : Int), .int .i64 (d : Int), .slice a0 l0 c0] 36))
  have HX := hidP hx0
  have hw1 : (w.alloc (.cells #[.int .i64 p, .int .i64 (R.length : Int), .int .i64 (d : Int), .slice a0 l0 c0] 36)).heap.size = w.heap.size + 1 := by simp
  have h1 := heap_alloc_new (w.alloc (.cells #[.int .i64 p, .int .i64 (R.length : Int), .int .i64 (d : Int), .slice a0 l0 c0] 36)) (.cells #[.int .i64 p, .int .i64 (R.length : Int), .int .i64 (d : Int), .slice a0 l0 c0] 36)
  rw [hw1] at h1
  have hown : OwnK matK ((w.alloc (.cells #[.int .i64 p, .int .i64 (R.length : Int), .int .i64 (d : Int), .slice a0 l0 c0] 36)).alloc (.cells #[.int .i64 p, .int .i64 (R.length : Int), .int .i64 (d : Int), .slice a0 l0 c0] 36)) B
      ((w.alloc (.cells #[.int .i64 p, .int .i64 (R.length : Int), .int .i64 (d : Int), .slice a0 l0 c0] 36)).alloc (.cells #[.int .i64 p, .int .i64 (R.length : Int), .int .i64 (d : Int), .slice a0 l0 c0] 36)).heap.size (some ⟨w.heap.size + 1, 0, none⟩) 1 1 [(a0, c0)] (serL p d f R 0) := by
    have hb := h0.below hx0
    refine ⟨⟨rfl, .inr ⟨w.heap.size + 1, 1, _, rfl, by omega, h1, Nat.le_refl _, by unfold maxLen; omega, rfl, ?_⟩⟩, rfl, rfl, fun i hi => ?_, fun i j hi hj hij => by omega, fun i hi b o e => ?_, fun b o e => ?_⟩
    · show _ = [Value.int .i64 p, .int .i64 (R.length : Int), .int .i64 (d : Int), .slice a0 R.flatten.length c0] ++ []
      rw [hl0]
      rfl
    · obtain rfl : i = 0 := by omega
      show OwnI _ B a0 R.flatten.length c0 R.flatten
      rw [hl0]
      exact hb
    · obtain rfl : i = 0 := by omega
      exact (hb.at_base b o e).2
    · simp only [Option.some.injEq, Addr.mk.injEq, and_true] at e
      simp [← e.1]
  have HO := hidP hown
  have HH := hidP hf
  have HNE := hidP hne
  have HEQ := hidP heq
  clear h0 h1 hw1 hown hf hne heq hx0 hl0
  generalize hrl : (R.length : Int) = rl at *
  clear hrl
  go_enter Try.func74, Try.ntmps74
  go_wp2
  obtain ⟨w0, hw0⟩ : ∃ w0, w0 = (w.alloc (.cells #[.int .i64 p, .int .i64 rl, .int .i64 (d : Int), .slice a0 l0 c0] 36)).alloc (.cells #[.int .i64 p, .int .i64 rl, .int .i64 (d : Int), .slice a0 l0 c0] 36) := ⟨_, rfl⟩
  rw [← hw0] at HX HO ⊢
  clear hw0
  go_loopw [5] (fun v wr => ∃ (i : Nat) (av : Option Addr) (cv : Nat) (hv : List Hdr), i ≤ m ∧ v = .slice av (i + 1) cv ∧ Hid (OwnK matK wr B wr.heap.size av (i + 1) cv hv (serL p d f R i)) ∧ Hid (Ext w wr) ∧ Hid (∀ b o, av = some ⟨b, o, none⟩ → w.heap.size ≤ b)) (fun v _ => match v with | .slice _ n _ => m + 1 - n | _ => 0)
  case atStart => exact ⟨0, _, 1, _, Nat.zero_le _, rfl, HO, HX, fun b o e => by cases e; exact Nat.le_succ _⟩
  case round =>
    clear HO HX
    obtain ⟨i, av, cv, hv, hi, rfl, HO, HX, HA⟩ := hrel
    have hg : (serL p d f R i).getD i matK.dft = mxOf p d (iterL f R i) := serL_get p d f R i i (Nat.le_refl _)
    obtain ⟨g, rfl, q0, _⟩ := HO.out.cell i 0 (by omega) (by decide)
    obtain ⟨_, e1, q1, _⟩ := HO.out.cell i 1 (by omega) (by decide)
    obtain ⟨_, e2, q2, _⟩ := HO.out.cell i 2 (by omega) (by decide)
    obtain ⟨_, e3, q3, _⟩ := HO.out.cell i 3 (by omega) (by decide)
    cases e1; cases e2; cases e3
    rw [hg] at q0 q1 q2 q3
    have q0 : wr.cell? ⟨g, i * 4, none⟩ = some (.int .i64 p) := q0
    have q1 : wr.cell? ⟨g, i * 4 + 1, none⟩ = some (.int .i64 ((iterL f R i).length : Int)) := q1
    have q2 : wr.cell? ⟨g, i * 4 + 2, none⟩ = some (.int .i64 (d : Int)) := q2
    have q3 : wr.cell? ⟨g, i * 4 + 3, none⟩ = some (.slice (hv.getD i (none, 0)).1 (iterL f R i).flatten.length (hv.getD i (none, 0)).2) := q3
    have he := HO.out.each i (by omega)
    rw [hg] at he
    have HE : Hid (OwnI wr B (hv.getD i (none, 0)).1 (iterL f R i).flatten.length (hv.getD i (none, 0)).2 (iterL f R i).flatten) := he
    generalize hv.getD i (none, 0) = hh at *
    clear hg he
    have hcall := HH.out i hi hh.1 (iterL f R i).flatten.length hh.2 (wr.alloc (.cells #[.int .i64 p, .int .i64 ((iterL f R i).length : Int), .int .i64 (d : Int), .slice hh.1 (iterL f R i).flatten.length hh.2] 36)) (HX.out.trans (Ext.alloc _ _)) (HE.out.below (Ext.alloc _ _))
    have HCL := hidP hcall
    have HN1 := hidP (HNE.out i)
    have HQ1 : Hid (i = m → (iterL f R (i + 1)).length = (iterL f R i).length) := fun e => by rw [e]; exact HEQ.out
    have hn := fun w1 hx j => new_cell (w' := w1) (w := wr) (cs := #[.int .i64 p, .int .i64 ((iterL f R i).length : Int), .int .i64 (d : Int), .slice hh.1 (iterL f R i).flatten.length hh.2]) (E := 36) (b := wr.heap.size) rfl hx j
    have hn1 := fun w1 hx => (hn w1 hx 1).1.trans (show _ = some (Value.int .i64 ((iterL f R i).length : Int)) from rfl)
    have HNC := hidP hn1
    have HSer := hidP (serL_succ p d f R i)
    clear hcall hn hn1
    generalize hfl : (iterL f R i).flatten.length = fl at *
    have hxa := Ext.alloc wr (.cells #[.int .i64 p, .int .i64 ((iterL f R i).length : Int), .int .i64 (d : Int), .slice hh.1 fl hh.2] 36)
    have HXA := hidP hxa
    clear hfl hxa
    generalize hk0 : (iterL f R i).length = k0 at *
    clear hk0
    go_wp2_with fail
    obtain ⟨wa, hwa⟩ : ∃ wa, wa = wr.alloc (.cells #[.int .i64 p, .int .i64 (k0 : Int), .int .i64 (d : Int), .slice hh.1 fl hh.2] 36) := ⟨_, rfl⟩
    rw [← hwa] at HCL HNC HXA ⊢
    clear hwa q0 q1 q2 q3
    refine HCL.out.mono ?_
    rintro e w2 ⟨a2, l2, c2, rfl, ho2, hx2⟩
    have HO2 : Hid (OwnI w2 wa.heap.size a2 l2 c2 (iterL f R (i + 1)).flatten) := ho2
    have HX2 := hidP (HXA.out.trans hx2)
    have q6 := HNC.out w2 hx2
    have HL2 := hidP HO2.out.len
    have hke : (f (iterL f R i)).length = (iterL f R (i + 1)).length := rfl
    rw [hke]
    have hs6 : wr.heap.size < w2.heap.size := World.block_lt_of_cell? w2 _ q6
    have HOL := hidP (HO.out.below HX2.out)
    clear ho2 hx2 HCL hke
    have HMX : Hid (mxOf p d (iterL f R (i + 1)) = ⟨p, (iterL f R (i + 1)).length, d, (iterL f R (i + 1)).flatten⟩) := rfl
    generalize hk1 : (iterL f R (i + 1)).length = k1 at *
    have HK1 := hidP hk1
    clear hk1
    by_cases him : i < m
    · have hne := HN1.out him
      have hb : ((k1 : Int) == (k0 : Int)) = false := by simp; omega
      clear hne
      have hx3 := (Ext.alloc w2 (.cells #[.int .i64 p, .int .i64 (k1 : Int), .int .i64 (d : Int), .slice a2 l2 c2] 36)).trans (Ext.alloc _ (.cells #[.int .i64 p, .int .i64 (k1 : Int), .int .i64 (d : Int), .slice a2 l2 c2] 36))
      have HOL3 := hidP (HOL.out.below hx3)
      have HX3 := hidP ((HX.out.trans HX2.out).trans hx3)
      have HOI3 : Hid (OwnI ((w2.alloc (.cells #[.int .i64 p, .int .i64 (k1 : Int), .int .i64 (d : Int), .slice a2 l2 c2] 36)).alloc (.cells #[.int .i64 p, .int .i64 (k1 : Int), .int .i64 (d : Int), .slice a2 l2 c2] 36)) B a2 (matK.ints (mxOf p d (iterL f R (i + 1)))).length c2 (matK.ints (mxOf p d (iterL f R (i + 1))))) := by
        show OwnI _ B a2 (iterL f R (i + 1)).flatten.length c2 (iterL f R (i + 1)).flatten
        rw [HL2.out]
        exact (HO2.out.below hx3).base (Nat.le_trans hB (Nat.le_trans HX.out.size HXA.out.size))
      have HCe : Hid (∀ q, q < matK.size → ((w2.alloc (.cells #[.int .i64 p, .int .i64 (k1 : Int), .int .i64 (d : Int), .slice a2 l2 c2] 36)).alloc (.cells #[.int .i64 p, .int .i64 (k1 : Int), .int .i64 (d : Int), .slice a2 l2 c2] 36)).cell? ⟨w2.heap.size + 1, q, none⟩ = (matK.cells a2 c2 (mxOf p d (iterL f R (i + 1))))[q]?) := fun q hq => by
        rw [cell_top _ _ _ _ _ (by simp)]
        show _ = ([Value.int .i64 p, .int .i64 ((iterL f R (i + 1)).length : Int), .int .i64 (d : Int), .slice a2 (iterL f R (i + 1)).flatten.length c2])[q]?
        rw [HK1.out, HL2.out]
        simp
      have HAp : Hid (∀ q, q < i + 1 → Apart (hv.getD q (none, 0)).1 a2) := fun q hq b o b' o' e e' => by
        have := HO.out.lt q hq b o e
        have := (HO2.out.at_base b' o' e').1
        have := HXA.out.size
        omega
      have HFa : Hid (Apart (some ⟨g, 0, none⟩) a2) := fun b o b' o' e e' => by
        have := HO.out.olt b o e
        have := (HO2.out.at_base b' o' e').1
        have := HXA.out.size
        omega
      clear hx3
      go_wp2_with (at_builtin; refine wpList_append_elem2 matK 41 (.agg #[.int .i64 0, .int .i64 0, .int .i64 0, .slice none 0 0]) 48 rfl (.tmp 25) (.tmp 27) rfl Try.underlying41 Try.info36 rfl (by omega) B _ (some ⟨g, 0, none⟩) (i + 1) cv hv _ rfl HOL3.out (w2.heap.size + 1) 1 (a2, c2) (mxOf p d (iterL f R (i + 1))) rfl HCe.out HOI3.out HAp.out HFa.out (by omega) (Nat.le_trans hB HX3.out.size) ?_; intro a3 c3 w3 ho3 hg3 hn3; have HO3 := hidP ho3; have HG3 := hidP hg3; have HN3 := hidP hn3; clear ho3 hg3 hn3)
      have HA3 : Hid (∀ b o, a3 = some ⟨b, o, none⟩ → w.heap.size ≤ b) := fun b o e => by
        rcases HN3.out with rfl | hn
        · exact HA.out b o e
        · have := hn b o e; have := HX3.out.size; omega
      have HX4 : Hid (Ext w w3) := Below.grown HX3.out HG3.out HX3.out.size fun k hk => by
        simp [Value.ownBlock] at hk
        subst hk
        exact HA.out g 0 rfl
      go_roundw
      case rel => exact ⟨i + 1, a3, c3, hv ++ [(a2, c2)], by omega, rfl, by rw [HSer.out]; exact HO3, HX4, HA3⟩
      case measure => simp; omega
    · obtain rfl : i = m := by omega
      have hq := HQ1.out rfl
      subst hq
      have HXF := hidP ((HX.out.trans HX2.out).trans (Ext.alloc w2 (.cells #[.int .i64 p, .int .i64 (k1 : Int), .int .i64 (d : Int), .slice a2 l2 c2] 36)))
      have HOF := hidP (HOL.out.below (Ext.alloc w2 (.cells #[.int .i64 p, .int .i64 (k1 : Int), .int .i64 (d : Int), .slice a2 l2 c2] 36)))
      go_wp2
      go_ret
      exact ⟨_, _, _, rfl, HOF.out.weaken (Nat.le_refl _) (Nat.le_trans HX2.out.size (by simp)), HXF.out⟩
end Go.Proofs.Ytenlhfimdpcaoaa

namespace Go.Proofs.Ytenlhfimdpcaoaa
open Go.RowKit

theorem matRows_flat {r d : Nat} {data : List Int} (h : data.length = r * d) : (matRows r d data).flatten = data := by
  induction r generalizing data with
  | zero => simp at h; subst h; rfl
  | succ r ih =>
    unfold matRows at ih ⊢
    rw [List.range_succ_eq_map, List.map_cons, List.map_map, List.flatten_cons]
    have h1 : (data.drop d).length = r * d := by rw [List.length_drop, h, Nat.add_mul, Nat.one_mul]; omega
    have h2 := ih h1
    have e : (List.map ((fun i => List.take d (List.drop (i * d) data)) ∘ Nat.succ) (List.range r)) = (List.range r).map fun i => List.take d (List.drop (i * d) (data.drop d)) := by
      apply List.map_congr_left
      intro i _
      show List.take d (List.drop ((i + 1) * d) data) = _
      rw [List.drop_drop, Nat.add_mul, Nat.one_mul, Nat.add_comm]
    rw [e, h2]
    simp
def allL (d : Nat) : List (List Int) := matRows d d (unitTo d d)
def lowF (p : Int) (t : List Int) (d : Nat) (R : List (List Int)) : List (List Int) := prodL p t d (allL d) R
theorem prodL_ok {p : Int} (hp : 0 < p) (t : List Int) (d : Nat) (S T : List (List Int)) : Rows p d (prodL p t d S T) ∧ (prodL p t d S T).length ≤ d := by
  have hr : Rows p d (prodAll p t d S T) := prodTo_rows hp _ _ _ _ _ _
  obtain ⟨h1, h2, _⟩ := spanL_rows hp hr d
  exact ⟨h1, by unfold prodL; rw [h2]; exact (redTo_ok hp hr d).pk⟩
theorem allL_ok {p : Int} (hp : 2 ≤ p) (d : Nat) : Rows p d (allL d) ∧ (allL d).length ≤ d :=
  ⟨matRows_ok (unitTo_length d d) (unitTo_res hp d d), by unfold allL; rw [matRows_length]; exact Nat.le_refl _⟩
theorem iter_ok {p : Int} (hp : 2 ≤ p) (d : Nat) (f : List (List Int) → List (List Int)) (hf : ∀ R, Rows p d (f R) ∧ (f R).length ≤ d) (i : Nat) : Rows p d (iterL f (allL d) i) ∧ (iterL f (allL d) i).length ≤ d := by
  cases i with
  | zero => exact allL_ok hp d
  | succ i => exact hf _

/-- a chain of spaces that ends: m steps on which the numbers of rows differ, then one on which they do not -/
structure Chain (f : List (List Int) → List (List Int)) (R : List (List Int)) (m : Nat) : Prop where
  ne : ∀ i, i < m → (iterL f R (i + 1)).length ≠ (iterL f R i).length
  eq : (iterL f R (m + 1)).length = (iterL f R m).length

set_option maxHeartbeats 2000000 in
theorem lowerSeries_ok (p : Int) (d m : Nat) (a : Option Addr) (N c : Nat) (t : List Int) (w : World) (ht : IntsAt w a N t) (hnc : N ≤ c) (hc2 : c ≤ 1000000000000) (hb : algB p d t = true) (hm : m ≤ 1000) (hch : Chain (lowF p t d) (allL d) m) :
    Calls Try.prog 19 #[algV p d a N c] w fun e w' => ∃ a' c' hs, e = .returned (.slice a' (m + 1) c') ∧ OwnK matK w' w.heap.size w'.heap.size a' (m + 1) c' hs (serL p d (lowF p t d) (allL d) m) ∧ Ext w w' := by
  obtain ⟨hh, _⟩ := algB_true.1 hb
  obtain ⟨hp, hd0, hd, hl, hr⟩ := headB_true hh
  obtain ⟨p2, p7⟩ := prime_bounds hp
  have hN : N = d * d * d := by
    have : ((t.length : Nat) : Int) = ((d * d * d : Nat) : Int) := by rw [hl]; simp
    have := ht.len
    omega
  have hx0 := Ext.alloc w (.cells #[.int .i64 p, .int .i64 (d : Int), .slice a N c] 24)
  have HOK := hidP (algebraOk_any p d a N c t _ (ht.below hx0) hnc hc2)
  rw [hb] at HOK
  have HAL := hidP (AlgAt.new w _ rfl p d a N c 24)
  have HX0 := hidP hx0
  have HT := hidP ht
  have HR := hidP hr
  have HN := hidP hN
  have HP := hidP hp
  have HCH := hidP hch
  clear hb hh hl hr hN hx0 ht hch hp
  go_enter Try.func19, Try.ntmps19
  go_wp2_with fail
  refine HOK.out.mono ?_
  rintro e w1 ⟨rfl, hx1⟩
  obtain ⟨f0, f1, f2⟩ := HAL.out.below hx1
  have HAL1 := hidP (HAL.out.below hx1)
  have HX1 := hidP (HX0.out.trans hx1)
  clear hx1 HOK HAL
  go_wp2_with fail
  refine (newLie_any _ _ _ _ _ _).mono ?_
  rintro e w2 ⟨rfl, hx2⟩
  have HX2 := hidP (HX1.out.trans hx2)
  have HAL2 := hidP (HAL1.out.below hx2)
  clear f0 f1 f2 hx2 HAL1
  obtain ⟨f0, f1, f2⟩ := HAL2.out.below (Ext.alloc w2 (.cells #[.int .i64 p, .int .i64 (d : Int), .slice a N c] 91))
  have hx3 := Ext.alloc w2 (.cells #[.int .i64 p, .int .i64 (d : Int), .slice a N c] 91)
  have HL3 := hidP (AlgAt.new w2 _ rfl p d a N c 91)
  have HX3 := hidP (HX2.out.trans hx3)
  have HUM := hidP (fun w' => unitMatrix_ok p d w' HP.out (by omega))
  clear hx3
  go_wp2_with fail
  obtain ⟨w3, hw3⟩ : ∃ w3, w3 = w2.alloc (.cells #[.int .i64 p, .int .i64 (d : Int), .slice a N c] 91) := ⟨_, rfl⟩
  rw [← hw3] at HL3 HX3 f0 f1 f2 ⊢
  clear hw3 f0 f1 f2
  refine (HUM.out _).mono ?_
  rintro e w4 ⟨a4, rfl, ho4, hx4⟩
  have HO4 := hidP (ho4.base (B' := w.heap.size) HX3.out.size)
  have HX4 := hidP (HX3.out.trans hx4)
  have HL4 := hidP (HL3.out.below hx4)
  clear ho4 hx4 HUM HL3
  have hx5 := Ext.alloc w4 (.cells #[.int .i64 p, .int .i64 (d : Int), .int .i64 (d : Int), .slice a4 (d * d) (d * d)] 36)
  have HL5 := hidP (HL4.out.below hx5)
  have HM5 := hidP (MatAt.new w4 _ rfl p d d a4 (d * d) (d * d) 36)
  have HO5 := hidP (HO4.out.below hx5)
  have HX5 := hidP (HX4.out.trans hx5)
  have hdd : d * d ≤ 28 * 28 := Nat.mul_le_mul (by omega) (by omega)
  clear hx5
  have HSR := hidP (series_any 75 #[.pointer (some ⟨w2.heap.size, 0, none⟩), .pointer (some ⟨w4.heap.size, 0, none⟩)] (lowF p t d) p d w.heap.size m a4 (d * d) (d * d) (allL d) (w4.alloc (.cells #[.int .i64 p, .int .i64 (d : Int), .int .i64 (d : Int), .slice a4 (d * d) (d * d)] 36))
    (by show OwnI _ _ _ _ _ (matRows d d (unitTo d d)).flatten; rw [matRows_flat (unitTo_length d d)]; exact HO5.out) HX5.out.size (by omega) (fun args w => by kernel_rfl)
    (fun i hi al ll cl w' hx' ho' => by
      obtain ⟨hRi, hLi⟩ := iter_ok p2 d (lowF p t d) (fun R => prodL_ok (by omega) t d (allL d) R) i
      obtain ⟨hc1, hc2'⟩ := ho'.caps
      exact lowerStep_any p d (iterL (lowF p t d) (allL d) i).length w2.heap.size w4.heap.size a a4 al N c (d * d) ll cl t (iterL (lowF p t d) (allL d) i) w' (HL5.out.below hx') (HM5.out.below hx') (by omega) HN.out hnc hc2 (HT.out.below (HX5.out.trans hx'))
        (HO5.out.below hx').ints (Nat.le_refl _) (by omega) ho'.ints rfl hRi hc1 hc2' HP.out HR.out (by omega) (by omega))
    HCH.out.ne HCH.out.eq)
  have HDL : Hid (((allL d).length : Int) = (d : Int)) := by show _ = _; unfold allL; rw [matRows_length]
  rw [HDL.out] at HSR
  go_wp2_with fail
  refine HSR.out.mono ?_
  rintro e w6 ⟨a6, c6, hs6, rfl, hk6, hx6⟩
  have HK6 := hidP hk6
  have HX6 := hidP (HX5.out.trans hx6)
  clear hk6 hx6 HSR
  go_wp2
  go_ret
  exact ⟨_, _, _, rfl, HK6.out, HX6.out⟩
/-- the class of an algebra whose lower series is a chain of m steps -/
def classOf (p : Int) (t : List Int) (d m : Nat) : Int := if (iterL (lowF p t d) (allL d) m).length = 0 then m else -1
set_option maxHeartbeats 1000000 in
theorem classOf_ok (p : Int) (d m : Nat) (a : Option Addr) (N c : Nat) (t : List Int) (w : World) (ht : IntsAt w a N t) (hnc : N ≤ c) (hc2 : c ≤ 1000000000000) (hb : algB p d t = true) (hm : m ≤ 1000) (hch : Chain (lowF p t d) (allL d) m) :
    Calls Try.prog 20 #[algV p d a N c] w fun e w' => e = .returned (.int .i64 (classOf p t d m)) ∧ Ext w w' := by
  have hx0 := Ext.alloc w (.cells #[.int .i64 p, .int .i64 (d : Int), .slice a N c] 24)
  have HS := hidP (lowerSeries_ok p d m a N c t _ (ht.below hx0) hnc hc2 hb hm hch)
  have HX0 := hidP hx0
  clear hx0 ht hch
  go_enter Try.func20, Try.ntmps20
  go_wp2_with fail
  refine HS.out.mono ?_
  rintro e w1 ⟨a1, c1, hs, rfl, hk, hx1⟩
  have HX1 := hidP (HX0.out.trans hx1)
  obtain ⟨g, rfl, q1, _⟩ := hk.cell m 1 (by omega) (by decide)
  rw [serL_get p d (lowF p t d) (allL d) m m (Nat.le_refl _)] at q1
  have q1 : w1.cell? ⟨g, m * 4 + 1, none⟩ = some (.int .i64 ((iterL (lowF p t d) (allL d) m).length : Int)) := q1
  have HC : Hid (classOf p t d m = if (iterL (lowF p t d) (allL d) m).length = 0 then (m : Int) else -1) := rfl
  generalize (iterL (lowF p t d) (allL d) m).length = l at *
  have hz : (((m : Int) + 1) == 0) = false := by simp; omega
  clear hk hx1 HS
  by_cases hl : l = 0
  · have hlb : ((l : Int) != 0) = false := by simp [hl]
    have HC2 := hidP (HC.out.trans (if_pos hl))
    clear hl
    go_wp2
    go_ret
    exact ⟨ret_int HC2.out.symm, HX1.out⟩
  · have hlb : ((l : Int) != 0) = true := bne_iff_ne.2 (by omega)
    have HC2 := hidP (HC.out.trans (if_neg hl))
    clear hl
    go_wp2
    go_ret
    exact ⟨ret_int HC2.out.symm, HX1.out⟩
end Go.Proofs.Ytenlhfimdpcaoaa

namespace Go.Proofs.Ytenlhfimdpcaoaa

/-! ### steps put together -/
/-! ### gone back -/
end Go.Proofs.Ytenlhfimdpcaoaa

namespace Go.Proofs.Ytenlhfimdpcaoaa
open Go.RowKit

variable {α : Type}
theorem Knd.all_append (K : Knd α) (hs hs2 : List Hdr) (xs xs2 : List α) (h : hs.length = xs.length) : K.all (hs ++ hs2) (xs ++ xs2) = K.all hs xs ++ K.all hs2 xs2 := by
  induction hs generalizing xs with
  | nil => cases xs <;> simp_all [Knd.all]
  | cons a hs ih =>
    cases xs with
    | nil => simp at h
    | cons x xs => simp only [Knd.all, List.cons_append, List.append_assoc]; rw [ih xs (by simpa using h)]
theorem getD_left {β : Type} (l k : List β) (i : Nat) (x : β) (h : i < l.length) : (l ++ k).getD i x = l.getD i x := by simp [List.getD_eq_getElem?_getD, List.getElem?_append_left h]
theorem getD_right {β : Type} (l k : List β) (i : Nat) (x : β) (h : l.length ≤ i) : (l ++ k).getD i x = k.getD (i - l.length) x := by simp [List.getD_eq_getElem?_getD, List.getElem?_append_right h]
theorem OwnK.off_ints {K : Knd α} {w : World} {B U B' : Nat} {a a' : Option Addr} {n c n' c' : Nat} {hs : List Hdr} {xs : List α} {ys : List Int} (h : OwnK K w B U a n c hs xs) (k : OwnI w B' a' n' c' ys) : Apart a a' := by
  intro b o b' o' e e' hb
  subst hb
  obtain ⟨cur', hg'⟩ := k.block e'
  rcases h.form with ⟨rfl, _⟩ | ⟨g, cur, rfl, _, _, hg, _⟩
  · cases e
  · simp only [Option.some.injEq, Addr.mk.injEq, and_true] at e
    obtain ⟨rfl, _⟩ := e
    rw [hg] at hg'
    simp only [Option.some.injEq, Obj.cells.injEq] at hg'
    exact K.ne hg'.2.1
theorem OwnK.cat_of {K : Knd α} {w w' : World} {B U U2 : Nat} {a a2 : Option Addr} {n c m c2 : Nat} {hs hs2 : List Hdr} {xs xs2 : List α} (hown : OwnK K w B U a n c hs xs) (h2 : OwnK K w B U2 a2 m c2 hs2 xs2) {v' : Value}
    (hr : w'.ownsRow B K.E K.size v' (n + m) (K.all hs xs ++ K.all hs2 xs2)) (hg : w.grownBy w' (Value.slice a n c).ownBlock)
    (hap : ∀ i j, i < n → j < m → Apart (hs.getD i (none, 0)).1 (hs2.getD j (none, 0)).1) (hsl : ∃ a' c', v' = .slice a' (n + m) c') :
    ∃ a' c', v' = .slice a' (n + m) c' ∧ OwnK K w' B w'.heap.size a' (n + m) c' (hs ++ hs2) (xs ++ xs2) := by
  rw [← K.all_append hs hs2 xs xs2 (hown.hl.trans hown.xl.symm)] at hr
  obtain ⟨a', c', rfl⟩ := hsl
  refine ⟨a', c', rfl, ?_⟩
  have hxl := hown.xl
  have hhl := hown.hl
  have hxl2 := h2.xl
  have hhl2 := h2.hl
  have hne : ∀ {p : Option Addr} {k q : Nat} {ys : List Int}, OwnI w B p k q ys → ∀ b o, p = some ⟨b, o, none⟩ → some b ≠ (Value.slice a n c).ownBlock := fun hk b o e => by
    rcases hown.form with ⟨rfl, _⟩ | ⟨g', cur, rfl, _⟩
    · simp [Value.ownBlock]
    · have := hown.off_ints hk g' 0 b o rfl e
      simp only [Value.ownBlock, ne_eq, Option.some.injEq]
      omega
  have hev : ∀ q, q < n + m → OwnI w' B ((hs ++ hs2).getD q (none, 0)).1 (K.ints ((xs ++ xs2).getD q K.dft)).length ((hs ++ hs2).getD q (none, 0)).2 (K.ints ((xs ++ xs2).getD q K.dft)) := fun q hq => by
    by_cases h3 : q < n
    · rw [getD_left _ _ _ _ (by omega), getD_left _ _ _ _ (by omega)]
      exact (hown.each q h3).grown hg fun b o e => hne (hown.each q h3) b o e
    · rw [getD_right _ _ _ _ (by omega), getD_right _ _ _ _ (by omega), hhl, hxl]
      exact (h2.each _ (by omega)).grown hg fun b o e => hne (h2.each _ (by omega)) b o e
  refine ⟨hr, by simp [hhl, hhl2], by simp [hxl, hxl2], hev, fun q r hq hr' hqr => ?_, fun q hq b o e => ((hev q hq).at_base b o e).2, fun b o e => ?_⟩
  · by_cases h3 : q < n
    · rw [getD_left hs _ q _ (by omega)]
      by_cases h4 : r < n
      · rw [getD_left hs _ r _ (by omega)]; exact hown.apart q r h3 h4 hqr
      · rw [getD_right hs _ r _ (by omega)]; exact hap q _ h3 (by omega)
    · rw [getD_right hs _ q _ (by omega)]
      by_cases h4 : r < n
      · rw [getD_left hs _ r _ (by omega)]; exact (hap r _ h4 (by omega)).symm
      · rw [getD_right hs _ r _ (by omega)]; exact h2.apart _ _ (by omega) (by omega) (by omega)
  · rcases hr.2 with ⟨h5, h0⟩ | ⟨g', cap, cur, he, _, hg', _⟩
    · simp only [Value.slice.injEq] at h5
      rw [h5.1] at e
      cases e
    · simp only [Value.slice.injEq] at he
      rw [e] at he
      simp only [Option.some.injEq, Addr.mk.injEq, and_true] at he
      obtain ⟨⟨rfl, _⟩, _⟩ := he
      exact (Array.getElem?_eq_some_iff.1 hg').1

end Go.Proofs.Ytenlhfimdpcaoaa

namespace Go.Proofs.Ytenlhfimdpcaoaa
open Go.RowKit

variable {α : Type}
/-- append of an owned slice's elements to another one -/
theorem wp_append_elems {o : Oper} {av : Act} {Kk : Act → World → Prop} {Q : Exit → Act → World → Prop} {w : World} (K : Knd α) (T : TypeId) (z : Value) (bytes : Nat) (s x : Operand)
    (ho : o.op = .call { callee := .builtin .append, args := #[s, x], argTypes := #[T, T] }) (hT : Try.prog.underlying T = some (.slice K.E)) (hinfo : (Try.prog.info? K.E).map (fun i => (i.zero, i.size, i.bytes)) = some (some z, K.size, bytes))
    (hz : z.cells.size = K.size) (hbp : bytes ≤ 1000)
    (B U U2 : Nat) (a : Option Addr) (n c : Nat) (hs hs2 : List Hdr) (xs xs2 : List α) (hsv : av.eval s = .slice a n c) (hown : OwnK K w B U a n c hs xs)
    (g m c2 : Nat) (hx : av.eval x = .slice (some ⟨g, 0, none⟩) m c2) (h2 : OwnK K w B U2 (some ⟨g, 0, none⟩) m c2 hs2 xs2)
    (hap : ∀ i j, i < n → j < m → Apart (hs.getD i (none, 0)).1 (hs2.getD j (none, 0)).1) (hsm : n + m ≤ 1000000000) (ha : a ≠ none) (hB : B ≤ w.heap.size)
    (h : ∀ a' c' w', OwnK K w' B w'.heap.size a' (n + m) c' (hs ++ hs2) (xs ++ xs2) → w.grownBy w' (Value.slice a n c).ownBlock → OrNew w.heap.size a a' → Kk (av.put o.dst (.slice a' (n + m) c')) w') : o.wp Try.prog av w Kk Q := by
  obtain ⟨i, hi, hz0, hz1, hz2⟩ := info_parts hinfo
  have hl2 := K.all_length hs2 xs2 (h2.hl.trans h2.xl.symm)
  rw [h2.xl] at hl2
  have hcells : ∀ j u, (K.all hs2 xs2)[j]? = some u → w.cell? ((⟨g, 0, none⟩ : Addr).add j) = some u := by
    intro j u hu
    have hj : j < m * K.size := by have := (List.getElem?_eq_some_iff.1 hu).1; rwa [hl2] at this
    rw [add_none, Nat.zero_add, h2.row.cellAt j hj]
    exact hu
  by_cases hroom : n + m ≤ c
  · rcases hown.form with ⟨e0, _⟩ | ⟨g0, cur, rfl, _⟩
    · exact absurd e0 ha
    · obtain ⟨w', hrun, hr, hg⟩ := run_append_fits (P := Try.prog) w B T o.type K.E i K.size hT hi hz1 g0 n c (K.all hs xs) hown.row ⟨g, 0, none⟩ m c2 (K.all hs2 xs2) hl2 hcells (K.all_one _ _) hroom
      obtain ⟨a', c', e, hk⟩ := hown.cat_of h2 hr hg hap ⟨_, _, rfl⟩
      simp only [Value.slice.injEq] at e
      obtain ⟨rfl, _, rfl⟩ := e
      unfold Oper.wp
      simp only [execOp, ho, resolve, invoke, builtin, Sem.run_bind, Sem.run_pure, Result.andThen_ok, List.map_toArray, List.map_cons, List.map_nil, hsv, hx, hrun]
      exact h _ _ w' hk hg (.inl rfl)
  · have hlx := K.all_length hs xs (hown.hl.trans hown.xl.symm)
    rw [hown.xl] at hlx
    obtain ⟨b0, rfl⟩ : ∃ b0, a = some b0 := by
      cases a with
      | none => exact absurd rfl ha
      | some b0 => exact ⟨b0, rfl⟩
    obtain ⟨v', w', hrun, hr, hg0⟩ := run_append_arg_grows (P := Try.prog) w T o.type K.E i z K.size bytes hT hi hz0 hz1 hz2 hz K.pos b0 n c (K.all hs xs) hlx (by
      intro j u hu
      rcases hown.form with ⟨e2, _⟩ | ⟨g0, cur, e2, _⟩
      · cases e2
      · simp only [Option.some.injEq] at e2
        subst e2
        have hj : j < n * K.size := by have := (List.getElem?_eq_some_iff.1 hu).1; rwa [hlx] at this
        rw [add_none, Nat.zero_add, hown.row.cellAt j hj]
        exact hu) ⟨g, 0, none⟩ m c2 (K.all hs2 xs2) hl2 hcells (by omega) (by unfold maxLen; omega)
      (by calc (n + m) * bytes ≤ 1000000000 * 1000 := Nat.mul_le_mul (by omega) hbp
            _ ≤ _ := by omega)
    · have hg : w.grownBy w' (Value.slice (some b0) n c).ownBlock := ⟨hg0.os, hg0.tape, hg0.output, hg0.size, fun k hk _ => hg0.block k hk (by simp)⟩
      have hr2 : w'.ownsRow B K.E K.size v' (n + m) (K.all hs xs ++ K.all hs2 xs2) := by
        refine ⟨hr.1, ?_⟩
        rcases hr.2 with h2 | ⟨g', cap, cur, he, hB', r⟩
        · exact .inl h2
        · exact .inr ⟨g', cap, cur, he, Nat.le_trans hB hB', r⟩
      obtain ⟨a', c', rfl, hk⟩ := hown.cat_of h2 hr2 hg hap (by
        rcases hr.2 with ⟨e5, h0⟩ | ⟨g', cap, cur, he, hB', _⟩
        · omega
        · exact ⟨_, _, he⟩)
      unfold Oper.wp
      simp only [execOp, ho, resolve, invoke, builtin, Sem.run_bind, Sem.run_pure, Result.andThen_ok, List.map_toArray, List.map_cons, List.map_nil, hsv, hx, hrun]
      refine h a' c' w' hk hg (.inr fun b o e => ?_)
      rcases hr.2 with ⟨_, h0⟩ | ⟨g', cap, cur, he, hB', _⟩
      · omega
      · simp only [Value.slice.injEq] at he
        rw [e] at he
        simp only [Option.some.injEq, Addr.mk.injEq, and_true] at he
        obtain ⟨⟨rfl, _⟩, _⟩ := he
        exact hB'
end Go.Proofs.Ytenlhfimdpcaoaa

namespace Go.Proofs.Ytenlhfimdpcaoaa
open Go.RowKit

/-- one row in a slice of its own -/
theorem rowOne {w : World} {B : Nat} {a1 : Option Addr} {d : Nat} {row : List Int} (ho : OwnI w B a1 d d row) (hB : B ≤ w.heap.size) :
    OwnK rowK (w.alloc (.cells #[.slice a1 d d] 22)) B (w.alloc (.cells #[.slice a1 d d] 22)).heap.size (some ⟨w.heap.size, 0, none⟩) 1 1 [(a1, d)] [row] := by
  have hl := ho.len
  have hb := ho.below (Ext.alloc w (.cells #[.slice a1 d d] 22))
  have hs : w.heap.size < (w.alloc (.cells #[.slice a1 d d] 22)).heap.size := by simp
  refine ⟨⟨rfl, .inr ⟨w.heap.size, 1, _, rfl, hB, heap_alloc_new _ _, Nat.le_refl _, by unfold maxLen; omega, rfl, ?_⟩⟩, rfl, rfl, fun i hi => ?_, fun i j hi hj hij => by omega, fun i hi b o e => ?_, fun b o e => ?_⟩
  · show _ = [Value.slice a1 row.length d] ++ []
    rw [hl]
    rfl
  · obtain rfl : i = 0 := by omega
    show OwnI _ B a1 row.length d row
    rw [hl]
    exact hb
  · obtain rfl : i = 0 := by omega
    exact (hb.at_base b o e).2
  · simp only [Option.some.injEq, Addr.mk.injEq, and_true] at e
    simp [← e.1]
set_option maxHeartbeats 1000000 in
theorem l2All_any (p : Int) (d : Nat) (aT : Option Addr) (N c : Nat) (w : World) (hd : d ≤ 28) :
    Calls Try.prog 137 #[algV p d aT N c] w fun e w' => ∃ a, e = .returned (matV p d d a (d * d) (d * d)) ∧ OwnI w' w.heap.size a (d * d) (d * d) (unitTo d d) ∧ Ext w w' := by
  have hx0 := (Ext.alloc w (.cells #[.int .i64 p, .int .i64 (d : Int), .slice aT N c] 24)).trans (Ext.alloc _ (.cells #[.int .i64 0, .int .i64 0, .int .i64 0, .slice none 0 0] 36))
  have HAL := hidP ((AlgAt.new w _ rfl p d aT N c 24).below (Ext.alloc _ (.cells #[.int .i64 0, .int .i64 0, .int .i64 0, .slice none 0 0] 36)))
  have hnew := fun w1 hx j => new_cell (w' := w1) (w := w.alloc (.cells #[.int .i64 p, .int .i64 (d : Int), .slice aT N c] 24)) (cs := #[.int .i64 0, .int .i64 0, .int .i64 0, .slice none 0 0]) (E := 36) (b := w.heap.size + 1) (by simp) hx j
  have HU := hidP (fun w' => l1Unit_any p d w' (by omega))
  have HX0 := hidP hx0
  have hsz : ((w.alloc (.cells #[.int .i64 p, .int .i64 (d : Int), .slice aT N c] 24)).alloc (.cells #[.int .i64 0, .int .i64 0, .int .i64 0, .slice none 0 0] 36)).heap.size = w.heap.size + 2 := by simp
  have HSZ := hidP hsz
  have HNW := hidP hnew
  clear hx0 hnew
  obtain ⟨f0, f1, f2⟩ := HAL.out
  go_enter Try.func137, Try.ntmps137
  go_wp2_with fail
  clear f0 f1 f2 HAL
  obtain ⟨wb, hwb⟩ : ∃ wb, wb = ((w.alloc (.cells #[.int .i64 p, .int .i64 (d : Int), .slice aT N c] 24)).alloc (.cells #[.int .i64 0, .int .i64 0, .int .i64 0, .slice none 0 0] 36)) := ⟨_, rfl⟩
  rw [← hwb] at HNW HX0 HSZ hsz ⊢
  clear hwb
  refine (HU.out wb).mono ?_
  rintro e w1 ⟨a, rfl, ho, hx⟩
  have HO := hidP ho
  have HX := hidP hx
  obtain ⟨r0, y0⟩ := HNW.out w1 hx 0
  obtain ⟨r1, y1⟩ := HNW.out w1 hx 1
  obtain ⟨r2, y2⟩ := HNW.out w1 hx 2
  obtain ⟨r3, y3⟩ := HNW.out w1 hx 3
  have r0 := r0.trans (show _ = some (Value.int .i64 0) from rfl)
  have r1 := r1.trans (show _ = some (Value.int .i64 0) from rfl)
  have r2 := r2.trans (show _ = some (Value.int .i64 0) from rfl)
  have r3 := r3.trans (show _ = some (Value.slice none 0 0) from rfl)
  clear ho hx HU
  go_wp2
  refine bodyPost_ret (v := matV p d d a (d * d) (d * d)) (by simp [results, Try.results137, go_sem, r0, r1, r2, r3]) rfl ?_
  exact ⟨a, rfl, (HO.out.set4 (w.heap.size + 1) _ _ _ _ (by omega)).base (by omega), Ext.set4 (HX0.out.trans HX.out) _ _ _ _ _ (Nat.le_succ _)⟩
set_option maxHeartbeats 4000000 in
theorem l2Product_any (p : Int) (d r1 r2 : Nat) (aT aS aU : Option Addr) (N c N1 c1 N2 c2 : Nat) (t dS dU : List Int) (w : World) (hd : d ≤ 28) (hN : N = d * d * d) (_hc : N ≤ c)
    (ht : IntsAt w aT N t) (hS : IntsAt w aS N1 dS) (hU : IntsAt w aU N2 dU) (hN1 : N1 = r1 * d) (hN2 : N2 = r2 * d) (hc1 : N1 ≤ c1) (hcb1 : c1 ≤ 9223372036854775807) (hc2 : N2 ≤ c2) (hcb2 : c2 ≤ 9223372036854775807)
    (hp : primeB p = true) (hrt : Res p t) (hrS : Res p dS) (hrU : Res p dU) (h1 : r1 ≤ 28) (h2 : r2 ≤ 28) (hz1 : r1 = 0 ∨ 1 ≤ d) (hz2 : r2 = 0 ∨ 1 ≤ d) :
    Calls Try.prog 160 #[algV p d aT N c, matV p r1 d aS N1 c1, matV p r2 d aU N2 c2] w fun e w' =>
      ∃ a' l c3, e = .returned (matV p (prodL p t d (matRows r1 d dS) (matRows r2 d dU)).length d a' l c3) ∧ OwnI w' w.heap.size a' l c3 (prodL p t d (matRows r1 d dS) (matRows r2 d dU)).flatten ∧ Ext w w' := by
  obtain ⟨p2, p7⟩ := prime_bounds hp
  have hR1 := matRows_ok (p := p) (r := r1) (s := d) (data := dS) (hS.len.trans hN1) hrS
  have hR2 := matRows_ok (p := p) (r := r2) (s := d) (data := dU) (hU.len.trans hN2) hrU
  have hwA := Ext.alloc w (.cells #[.int .i64 p, .int .i64 (d : Int), .slice aT N c] 24)
  have hwB := Ext.alloc (w.alloc (.cells #[.int .i64 p, .int .i64 (d : Int), .slice aT N c] 24)) (.cells #[.int .i64 p, .int .i64 (r1 : Int), .int .i64 (d : Int), .slice aS N1 c1] 36)
  have hwC := Ext.alloc ((w.alloc (.cells #[.int .i64 p, .int .i64 (d : Int), .slice aT N c] 24)).alloc (.cells #[.int .i64 p, .int .i64 (r1 : Int), .int .i64 (d : Int), .slice aS N1 c1] 36)) (.cells #[.int .i64 p, .int .i64 (r2 : Int), .int .i64 (d : Int), .slice aU N2 c2] 36)
  have hwD := Ext.alloc (((w.alloc (.cells #[.int .i64 p, .int .i64 (d : Int), .slice aT N c] 24)).alloc (.cells #[.int .i64 p, .int .i64 (r1 : Int), .int .i64 (d : Int), .slice aS N1 c1] 36)).alloc (.cells #[.int .i64 p, .int .i64 (r2 : Int), .int .i64 (d : Int), .slice aU N2 c2] 36)) (.cells #[.int .i64 0, .int .i64 0, .int .i64 0, .slice none 0 0] 36)
  have HAL := hidP ((AlgAt.new w _ rfl p d aT N c 24).below ((hwB.trans hwC).trans hwD))
  have HM1 := hidP ((MatAt.new (w.alloc (.cells #[.int .i64 p, .int .i64 (d : Int), .slice aT N c] 24)) (w.heap.size + 1) (by simp) p r1 d aS N1 c1 36).below (hwC.trans hwD))
  have HM2 := hidP ((MatAt.new ((w.alloc (.cells #[.int .i64 p, .int .i64 (d : Int), .slice aT N c] 24)).alloc (.cells #[.int .i64 p, .int .i64 (r1 : Int), .int .i64 (d : Int), .slice aS N1 c1] 36)) (w.heap.size + 1 + 1) (by simp) p r2 d aU N2 c2 36).below hwD)
  have hnew := fun w1 hx j => new_cell (w' := w1) (w := ((w.alloc (.cells #[.int .i64 p, .int .i64 (d : Int), .slice aT N c] 24)).alloc (.cells #[.int .i64 p, .int .i64 (r1 : Int), .int .i64 (d : Int), .slice aS N1 c1] 36)).alloc (.cells #[.int .i64 p, .int .i64 (r2 : Int), .int .i64 (d : Int), .slice aU N2 c2] 36)) (cs := #[.int .i64 0, .int .i64 0, .int .i64 0, .slice none 0 0]) (E := 36) (b := w.heap.size + 1 + 1 + 1) (by simp) hx j
  have hxb := ((hwA.trans hwB).trans hwC).trans hwD
  have HXb := hidP hxb
  have HT := hidP (ht.below hxb)
  have HS := hidP (hS.below hxb)
  have HU := hidP (hU.below hxb)
  have hszb : ((((w.alloc (.cells #[.int .i64 p, .int .i64 (d : Int), .slice aT N c] 24)).alloc (.cells #[.int .i64 p, .int .i64 (r1 : Int), .int .i64 (d : Int), .slice aS N1 c1] 36)).alloc (.cells #[.int .i64 p, .int .i64 (r2 : Int), .int .i64 (d : Int), .slice aU N2 c2] 36)).alloc (.cells #[.int .i64 0, .int .i64 0, .int .i64 0, .slice none 0 0] 36)).heap.size = w.heap.size + 1 + 1 + 1 + 1 := by simp
  have HR1 := hidP hR1
  have HR2 := hidP hR2
  have HRT := hidP hrt
  have HN := hidP hN
  have HN1 := hidP hN1
  have HN2 := hidP hN2
  have HPm := hidP hp
  clear ht hS hU hR1 hR2 hwA hwB hwC hwD hrt hN hN1 hN2 hp
  go_enter Try.func160, Try.ntmps160
  go_wp2
  obtain ⟨wb, hwb⟩ : ∃ wb, wb = ((((w.alloc (.cells #[.int .i64 p, .int .i64 (d : Int), .slice aT N c] 24)).alloc (.cells #[.int .i64 p, .int .i64 (r1 : Int), .int .i64 (d : Int), .slice aS N1 c1] 36)).alloc (.cells #[.int .i64 p, .int .i64 (r2 : Int), .int .i64 (d : Int), .slice aU N2 c2] 36)).alloc (.cells #[.int .i64 0, .int .i64 0, .int .i64 0, .slice none 0 0] 36)) := ⟨_, rfl⟩
  rw [← hwb] at HAL HM1 HM2 hnew hxb HXb HT HS HU hszb ⊢
  rw [← hszb]
  have HSZ : Hid (w.heap.size + 3 < wb.heap.size) := by show _ < _; omega
  clear hwb hszb hxb
  have HNW := hidP hnew
  clear hnew
  have HF := hidP (fun w' (hx' : Ext wb w') => (⟨(HAL.out.below hx').c0, (HAL.out.below hx').c1, (HAL.out.below hx').c2, (HM1.out.below hx').c0, (HM1.out.below hx').c1, (HM1.out.below hx').c2, (HM1.out.below hx').c3, (HM2.out.below hx').c0, (HM2.out.below hx').c1, (HM2.out.below hx').c2, (HM2.out.below hx').c3⟩ : _ ∧ _ ∧ _ ∧ _ ∧ _ ∧ _ ∧ _ ∧ _ ∧ _ ∧ _ ∧ _))
  have HOL := hidP (OwnK.made0 rowK wb)
  have hE : rowK.E = 22 := rfl
  rw [hE] at HOL
  clear hE
  have hx0 := Ext.alloc wb (.cells #[] 22)
  obtain ⟨w0, hw0⟩ : ∃ w0, w0 = wb.alloc (.cells #[] 22) := ⟨_, rfl⟩
  rw [← hw0] at HOL hx0 ⊢
  clear hw0
  have HX0 := hidP hx0
  clear hx0
  have HS1L := hidP (matRows_length r1 d dS)
  have HS2L := hidP (matRows_length r2 d dU)
  have HPR := hidP (prodTo_row p t d (matRows r1 d dS) (matRows r2 d dU))
  rw [HS2L.out] at HPR
  have HPL : Hid (prodL p t d (matRows r1 d dS) (matRows r2 d dU) = spanL p d (prodTo p t d (matRows r1 d dS) (matRows r2 d dU) r1 0)) := by
    show _ = _
    unfold prodL prodAll
    rw [HS1L.out]
  have HLB := hidP (fun i j (hi' : i ≤ r1) (hj' : j ≤ r2) (hij : i = r1 → j = 0) => (by
    rw [prodTo_length _ _ _ _ _ _ _ (by rw [HS2L.out]; exact hj'), HS2L.out]
    by_cases e : i = r1
    · have := hij e
      have := Nat.mul_le_mul hi' h2
      have := Nat.mul_le_mul h1 h2
      have := Nat.mul_le_mul h1 (Nat.le_refl r2)
      omega
    · have := Nat.mul_le_mul (show i ≤ 28 by omega) h2
      omega : (prodTo p t d (matRows r1 d dS) (matRows r2 d dU) i j).length ≤ 812))
  have HPS := hidP (fun i j (hj' : j < r2) => prodTo_succ p t d (matRows r1 d dS) (matRows r2 d dU) i j (by rw [HS2L.out]; exact hj'))
  have HPO := hidP (prodTo_rows (p := p) (by omega) t d (matRows r1 d dS) (matRows r2 d dU) r1 0)
  have HRw1 : Hid (∀ i, i < r1 → ∀ w', Ext wb w' → Calls Try.prog 168 #[matV p r1 d aS N1 c1, .int .i64 (i : Int)] w' fun e w'' => ∃ a' c', e = .returned (.slice a' d c') ∧ IntsAt w'' a' d ((matRows r1 d dS).getD i []) ∧ Ext w' w'') := by
    intro i hi w' hx
    have hd0 : 1 ≤ d := by omega
    obtain ⟨b, o, e, _⟩ := HS.out.get (i * d) (by rw [HN1.out]; have := flat_lt (L := d) (j := 0) hi hd0; omega)
    have hS2 := HS.out.below hx
    rw [e] at hS2 ⊢
    exact l1Row_any p r1 d i b o N1 c1 dS w' hS2 HN1.out hc1 hcb1 (by omega) (by omega) hd0 hi
  have HRw2 : Hid (∀ i, i < r2 → ∀ w', Ext wb w' → Calls Try.prog 168 #[matV p r2 d aU N2 c2, .int .i64 (i : Int)] w' fun e w'' => ∃ a' c', e = .returned (.slice a' d c') ∧ IntsAt w'' a' d ((matRows r2 d dU).getD i []) ∧ Ext w' w'') := by
    intro i hi w' hx
    have hd0 : 1 ≤ d := by omega
    obtain ⟨b, o, e, _⟩ := HU.out.get (i * d) (by rw [HN2.out]; have := flat_lt (L := d) (j := 0) hi hd0; omega)
    have hS2 := HU.out.below hx
    rw [e] at hS2 ⊢
    exact l1Row_any p r2 d i b o N2 c2 dU w' hS2 HN2.out hc2 hcb2 (by omega) (by omega) hd0 hi
  generalize hRS : matRows r1 d dS = RS at *
  generalize hRU : matRows r2 d dU = RU at *
  have HRS1 := hidP hRS
  have HRS2 := hidP hRU
  clear hRS hRU
  go_loopw [7, 8] (fun v vi wr => ∃ (i : Nat) (av : Option Addr) (nv cv : Nat) (hv : List Hdr), i ≤ r1 ∧ vi = .int .i64 i ∧ v = .slice av nv cv ∧ Hid (OwnK rowK wr wb.heap.size wr.heap.size av nv cv hv (prodTo p t d RS RU i 0)) ∧ Hid (Ext wb wr) ∧ Hid (av ≠ none)) (fun _ vi _ => r1 - (intOf vi).toNat)
  case atStart => exact ⟨0, _, 0, 0, [], Nat.zero_le _, rfl, rfl, HOL, HX0, by show _ ≠ _; simp⟩
  case round =>
    clear HOL HX0
    obtain ⟨i, av, nv, cv, hv, hi1, rfl, rfl, HL, HX, HNn⟩ := hrel
    obtain ⟨wo, rfl⟩ : ∃ wo : World, wo = wr := ⟨_, rfl⟩
    obtain ⟨f0, f1, f2, g0, g1, g2, g3, k0, k1, k2, k3⟩ := HF.out wo HX.out
    by_cases hlt : i < r1
    · go_wp2
      go_loopw [7, 9] (fun v vj wr => ∃ (j : Nat) (av : Option Addr) (nv cv : Nat) (hv : List Hdr), j ≤ r2 ∧ vj = .int .i64 j ∧ v = .slice av nv cv ∧ Hid (OwnK rowK wr wb.heap.size wr.heap.size av nv cv hv (prodTo p t d RS RU i j)) ∧ Hid (Ext wb wr) ∧ Hid (av ≠ none)) (fun _ vj _ => r2 - (intOf vj).toNat)
      case atStart => exact ⟨0, _, _, _, _, Nat.zero_le _, rfl, rfl, HL, HX, HNn⟩
      case round =>
        clear HL HX HNn f0 f1 f2 g0 g1 g2 g3 k0 k1 k2 k3
        obtain ⟨j, av, nv, cv, hv, hj1, rfl, rfl, HL, HX, HNn⟩ := hrel
        obtain ⟨f0, f1, f2, g0, g1, g2, g3, k0, k1, k2, k3⟩ := HF.out wr HX.out
        by_cases hjl : j < r2
        · have HPSJ := hidP (HPS.out i j hjl)
          have HLBJ := hidP (HLB.out i j hi1 hj1 (by omega))
          have hnv := HL.out.xl
          have hnvb : nv ≤ 812 := by have := HLBJ.out; omega
          have hlu := HR1.out.len i (by have := HS1L.out; omega)
          have HRu := hidP (HR1.out.res i (by have := HS1L.out; omega))
          have hlv := HR2.out.len j (by have := HS2L.out; omega)
          have HRv := hidP (HR2.out.res j (by have := HS2L.out; omega))
          have HC1 := hidP (HRw1.out i hlt)
          have HC2 := hidP (HRw2.out j hjl)
          have hE : Ext wb wr.drew := HX.out.trans (Ext.drew wr)
          have HL0 := hidP ((HL.out.below (Ext.drew wr)))
          clear hnv hlu hlv f0 f1 f2 g0 g1 g2 g3 k0
          go_wp2
          clear k1 k2 k3
          (refine walkR_start (fun w' => Ext wb w') 11 (by kernel_rfl) ?_; simp only [numbered, List.take_succ_cons, List.take_zero, Nat.zero_add, Nat.reduceAdd, List.length_cons, List.length_nil])
          (repeat (first | (refine walkR_still (v := ?_) rfl (by decide +kernel) rfl (fun _ _ _ h => h) hE ?_ ?_; rotate_left; (focus (intro w' hw'; obtain ⟨f0, f1, f2, g0, g1, g2, g3, k0, k1, k2, k3⟩ := HF.out w' hw'; go_simp; all_goals (with_reducible rfl))); simp only [Act.put, List.setIfInBounds_toArray, List.set_cons_zero, List.set_cons_succ]) | (refine walkR_skip rfl (by decide +kernel) rfl (fun _ _ _ h => h) hE ?_; simp only [Act.put, List.setIfInBounds_toArray, List.set_cons_zero, List.set_cons_succ])))
          (refine walkR_later ?_; simp only [List.cons_append, List.nil_append])
          (repeat (first | (refine walkR_still (v := ?_) rfl (by decide +kernel) rfl (fun _ _ _ h => h) hE ?_ ?_; rotate_left; (focus (intro w' hw'; obtain ⟨f0, f1, f2, g0, g1, g2, g3, k0, k1, k2, k3⟩ := HF.out w' hw'; go_simp; all_goals (with_reducible rfl))); simp only [Act.put, List.setIfInBounds_toArray, List.set_cons_zero, List.set_cons_succ]) | (refine walkR_skip rfl (by decide +kernel) rfl (fun _ _ _ h => h) hE ?_; simp only [Act.put, List.setIfInBounds_toArray, List.set_cons_zero, List.set_cons_succ])))
          (refine walkR_later ?_; simp only [List.cons_append, List.nil_append]); (refine walkR_later ?_; simp only [List.cons_append, List.nil_append]); (refine walkR_later ?_; simp only [List.cons_append, List.nil_append]); (refine walkR_later ?_; simp only [List.cons_append, List.nil_append])
          (refine walkR_only (fun w' => Ext wb w') rfl (by decide +kernel) rfl (fun _ h => h) ?_; intro K hK; go_simp; refine (HC1.out _ hE).mono ?_; rintro e w1 ⟨b1, cb1, rfl, hi1', hx1⟩; refine hK _ _ (hE.trans hx1) ?_; clear hK K; (try simp only [Act.put, List.setIfInBounds_toArray, List.set_cons_zero, List.set_cons_succ]))
          have hE1 := hE.trans hx1
          (repeat (first | (refine walkR_still (v := ?_) rfl (by decide +kernel) rfl (fun _ _ _ h => h) hE1 ?_ ?_; rotate_left; (focus (intro w' hw'; obtain ⟨f0, f1, f2, g0, g1, g2, g3, k0, k1, k2, k3⟩ := HF.out w' hw'; go_simp; all_goals (with_reducible rfl))); simp only [Act.put, List.setIfInBounds_toArray, List.set_cons_zero, List.set_cons_succ]) | (refine walkR_skip rfl (by decide +kernel) rfl (fun _ _ _ h => h) hE1 ?_; simp only [Act.put, List.setIfInBounds_toArray, List.set_cons_zero, List.set_cons_succ])))
          (refine walkR_only (fun w' => Ext wb w') rfl (by decide +kernel) rfl (fun _ h => h) ?_; intro K hK; go_simp; refine (HC2.out _ hE1).mono ?_; rintro e w2 ⟨b2, cb2, rfl, hi2', hx2⟩; refine hK _ _ (hE1.trans hx2) ?_; clear hK K; (try simp only [Act.put, List.setIfInBounds_toArray, List.set_cons_zero, List.set_cons_succ]))
          have hE2 := hE1.trans hx2
          have HBr := hidP (l2Bracket_any p d N c cb1 cb2 aT b1 b2 t (RS.getD i []) (RU.getD j []) w2 hd HN.out (HT.out.below hE2) (hi1'.below hx2) hi2' (by omega) p7 HRT.out HRu.out HRv.out)
          (refine walkR_only (fun w' => Ext wb w') rfl (by decide +kernel) rfl (fun _ h => h) ?_; intro K hK; go_simp; refine (HBr.out).mono ?_; rintro e w3 ⟨b3, rfl, ho3, hx3⟩; refine hK _ _ (hE2.trans hx3) ?_; clear hK K; (try simp only [Act.put, List.setIfInBounds_toArray, List.set_cons_zero, List.set_cons_succ]))
          have hE3 := hE2.trans hx3
          have HL3 := hidP (((HL0.out.below hx1).below hx2).below hx3)
          have HO3 := hidP (ho3.base (B' := wb.heap.size) hE2.size)
          have HAp : Hid (∀ i j, i < nv → j < 1 → Apart (hv.getD i (none, 0)).1 (([(b3, d)] : List Hdr).getD j (none, 0)).1) := by
            intro i j hi hj b o b' o' e e'
            obtain rfl : j = 0 := by omega
            have h1 := HL.out.lt i hi b o e
            have h2 := (ho3.at_base b' o' e').1
            have h3 := hx1.size
            have h4 := hx2.size
            have h5 : wr.drew.heap.size = wr.heap.size := rfl
            omega
          (refine walkR_only (fun w' => Ext wb w') rfl (by decide +kernel) rfl ?_ ?_)
          · exact fun _ h => h
          intro K hK
          go_simp
          have hxa := Ext.alloc w3 (.cells #[.slice b3 d d] 22)
          have HOne := hidP (rowOne HO3.out hE3.size)
          have hE4 := hE3.trans hxa
          have HL4 := hidP (HL3.out.below hxa)
          refine hK _ _ hE4 ?_
          clear hK K
          (try simp only [Act.put, List.setIfInBounds_toArray, List.set_cons_zero, List.set_cons_succ])
          (refine walkR_only (fun w' => Ext wb w') rfl (by decide +kernel) rfl ?_ ?_)
          · exact fun _ h => h
          intro K hK
          refine wp_append_elems rowK 73 (.slice none 0 0) 24 (.tmp 23) (.tmp 32) rfl Try.underlying73 Try.info22 rfl (by omega) wb.heap.size _ _ av nv cv hv [(b3, d)] _ [brL p t d (RS.getD i []) (RU.getD j [])] rfl HL4.out w3.heap.size 1 1 rfl HOne.out HAp.out (by omega) HNn.out hE4.size ?_
          intro a6 c6 w6 ho6 hg6 hn6
          have hE6 : Ext wb w6 := grown_ext hg6 hE4 hE4.size (fun q e => by
            rcases HL4.out.form with ⟨h, _⟩ | ⟨g, cur, h, h2, _⟩
            · rw [h] at e; cases e
            · rw [h] at e; cases e; exact h2)
          rw [← HPSJ.out] at ho6
          have HO6 := hidP ho6
          have HE6 := hidP hE6
          have HN6 : Hid (a6 ≠ none) := by
            rintro rfl
            rcases ho6.form with ⟨_, h, _⟩ | ⟨g, cur, h, _⟩
            · omega
            · cases h
          refine hK _ _ hE6 ?_
          clear hK K ho6 hg6 hn6 hE6 hE hE1 hE2 hE3 hE4 hx1 hx2 hx3 hxa hi1' hi2' ho3
          (try simp only [Act.put, List.setIfInBounds_toArray, List.set_cons_zero, List.set_cons_succ])
          (refine walkR_tail (by rfl) (by kernel_rfl) ?_; simp only [List.drop_succ_cons, List.drop_zero])
          go_wp2
          go_roundw
          case rel => exact ⟨j + 1, a6, nv + 1, c6, hv ++ [(b3, d)], by omega, by go_num, rfl, HO6, HE6, HN6⟩
          case measure => simp [intOf]; omega
        · have HL2 : Hid (OwnK rowK wr wb.heap.size wr.heap.size av nv cv hv (prodTo p t d RS RU (i + 1) 0)) := by
            have hh := HL.out
            rw [show j = r2 by omega, HPR.out] at hh
            exact hh
          go_wp2
          go_roundw
          case rel => exact ⟨i + 1, av, nv, cv, hv, by omega, by go_num, rfl, HL2, HX, HNn⟩
          case measure => simp [intOf]; omega
    · have HL2 : Hid (OwnK rowK wo wb.heap.size wo.heap.size av nv cv hv (prodTo p t d RS RU r1 0)) := by
        have hh := HL.out
        rw [show i = r1 by omega] at hh
        exact hh
      have hnv := HL2.out.xl
      have hnb := HLB.out r1 0 (Nat.le_refl _) (Nat.zero_le _) (fun _ => rfl)
      have HPL2 := hidP HPL.out
      have hfl : (prodTo p t d RS RU r1 0).flatten.length = nv * d := by rw [flat_rows HPO.out, flatL_length, hnv]
      have hnd : nv * d ≤ 812 * 28 := Nat.mul_le_mul (by omega) hd
      have HRW := hidP (l1Rows_any p d av nv cv _ wo HL2.out.rowsI (by omega) (by omega) (fun i hi => by
        rw [HPO.out.len i (by omega)]
        rcases hz1 with h | h
        · subst h
          have := prodTo_length p t d RS RU 0 0 (Nat.zero_le _)
          omega
        · exact h))
      have HSpn := hidP (fun a l c' w' (hi : IntsAt w' a l (prodTo p t d RS RU r1 0).flatten) (hnil : a = none → c' = 0) => l1Span_any p nv d a l c' _ w' hi hnil HPO.out hnv HPm.out (by omega) (by omega) (by omega))
      clear hnv hnb hfl hnd HPL
      generalize prodTo p t d RS RU r1 0 = PT at *
      go_wp2_with fail
      refine HRW.out.mono ?_
      rintro e w3 ⟨a3, l3, c3, rfl, ho3, hx3⟩
      have HX3 := hidP (HX.out.trans hx3)
      have HS3 := hidP (HSpn.out a3 l3 c3 w3 ho3.ints ho3.nil_cap)
      clear ho3 hx3 HRW f0 f1 f2 g0 g1 g2 g3 k0 k1 k2 k3
      go_wp2_with fail
      refine HS3.out.mono ?_
      rintro e w4 ⟨a4, l4, c4, rfl, ho4, hx4⟩
      have HX4 := hidP (HX3.out.trans hx4)
      have HO4 := hidP (ho4.base (B' := wb.heap.size) HX3.out.size)
      clear ho4 hx4 HS3
      rw [← HPL2.out] at HO4 ⊢
      obtain ⟨r0, y0⟩ := HNW.out w4 HX4.out 0
      obtain ⟨r1', y1⟩ := HNW.out w4 HX4.out 1
      obtain ⟨r2', y2⟩ := HNW.out w4 HX4.out 2
      obtain ⟨r3, y3⟩ := HNW.out w4 HX4.out 3
      have r0 := r0.trans (show _ = some (Value.int .i64 0) from rfl)
      have r1' := r1'.trans (show _ = some (Value.int .i64 0) from rfl)
      have r2' := r2'.trans (show _ = some (Value.int .i64 0) from rfl)
      have r3 := r3.trans (show _ = some (Value.slice none 0 0) from rfl)
      have hsz := HSZ.out
      generalize hm : (prodL p t d RS RU).length = m at *
      have HM := hidP hm
      clear hm
      go_wp2
      refine bodyPost_ret (v := matV p m d a4 l4 c4) (by simp [results, Try.results160, go_sem, r0, r1', r2', r3]) rfl ?_
      rw [HRS1.out, HRS2.out, HM.out]
      exact ⟨a4, l4, c4, rfl, (HO4.out.set4 (w.heap.size + 1 + 1 + 1) _ _ _ _ (by omega)).base (by omega), Ext.set4 (HXb.out.trans HX4.out) _ _ _ _ _ (by omega)⟩
end Go.Proofs.Ytenlhfimdpcaoaa

namespace Go.Proofs.Ytenlhfimdpcaoaa
open Go.RowKit

variable {α : Type}
/-- a block that holds a matrix -/
def BlkM (w : World) (b : Nat) : Prop := ∃ cs, w.heap[b]? = some (.cells cs 36)
theorem BlkM.set {w : World} {b : Nat} (h : BlkM w b) (i : Nat) (v : Value) : BlkM (w.setCell ⟨b, i, none⟩ v) b := by
  obtain ⟨cs, h⟩ := h
  exact ⟨_, heap_setCell_at w b i cs _ _ v h⟩
theorem MatB.blk {w : World} {b : Nat} {p r s : Int} {a : Option Addr} {n c : Nat} (h : MatB w b p r s a n c) : BlkM w b := ⟨_, h⟩
theorem BlkM.ne {w : World} {b B : Nat} {av : Option Addr} {m cv : Nat} {xs : List Int} (h : BlkM w b) (k : OwnI w B av m cv xs) {g o : Nat} (e : av = some ⟨g, o, none⟩) : g ≠ b := by
  rintro rfl
  obtain ⟨cur, hc⟩ := k.block e
  obtain ⟨cs, h⟩ := h
  rw [h] at hc
  simp at hc
theorem OwnK.offM {K : Knd α} {w : World} {B U b : Nat} {a : Option Addr} {n c : Nat} {hs : List Hdr} {xs : List α} (h : OwnK K w B U a n c hs xs) (hb : BlkM w b) (hne : ∀ g o, a = some ⟨g, o, none⟩ → g ≠ b) (i : Nat) (v : Value) :
    OwnK K (w.setCell ⟨b, i, none⟩ v) B U a n c hs xs :=
  h.kept (row := some b) ⟨rfl, rfl, rfl, by simp [World.setCell], fun k _ hk => Below.heap_setCell _ _ _ _ (fun e => hk (by rw [e]))⟩ (fun g o e e2 => hne g o e (Option.some.inj e2)) (fun i hi g o e e2 => hb.ne (h.each i hi) e (Option.some.inj e2))
theorem OwnK.set4M {K : Knd α} {w : World} {B U b : Nat} {a : Option Addr} {n c : Nat} {hs : List Hdr} {xs : List α} (h : OwnK K w B U a n c hs xs) (hb : BlkM w b) (hne : ∀ g o, a = some ⟨g, o, none⟩ → g ≠ b) (v0 v1 v2 v3 : Value) :
    OwnK K (Go.Proofs.Ytenlhfimdpcaoaa.set4 w b v0 v1 v2 v3) B U a n c hs xs :=
  (((h.offM hb hne 0 v0).offM (hb.set 0 v0) hne 1 v1).offM ((hb.set 0 v0).set 1 v1) hne 2 v2).offM (((hb.set 0 v0).set 1 v1).set 2 v2) hne 3 v3
theorem OwnI.offM {w : World} {B m cv b : Nat} {av : Option Addr} {xs : List Int} (k : OwnI w B av m cv xs) (h : BlkM w b) (i : Nat) (v : Value) : OwnI (w.setCell ⟨b, i, none⟩ v) B av m cv xs :=
  k.grown (row := some b) ⟨rfl, rfl, rfl, by simp [World.setCell], fun k _ hk => Below.heap_setCell _ _ _ _ (fun e => hk (by rw [e]))⟩ (fun g' o e => by simpa using h.ne k e)
theorem OwnI.set4M {w : World} {B m cv b : Nat} {av : Option Addr} {xs : List Int} (k : OwnI w B av m cv xs) (h : BlkM w b) (v0 v1 v2 v3 : Value) : OwnI (Go.Proofs.Ytenlhfimdpcaoaa.set4 w b v0 v1 v2 v3) B av m cv xs :=
  (((k.offM h 0 v0).offM (h.set 0 v0) 1 v1).offM ((h.set 0 v0).set 1 v1) 2 v2).offM (((h.set 0 v0).set 1 v1).set 2 v2) 3 v3
theorem MatB.set4 {w : World} {b : Nat} {p r s : Int} {a : Option Addr} {n c : Nat} (h : MatB w b p r s a n c) (p' r' s' : Int) (a' : Option Addr) (n' c' : Nat) : MatB (Go.Proofs.Ytenlhfimdpcaoaa.set4 w b (.int .i64 p') (.int .i64 r') (.int .i64 s') (.slice a' n' c')) b p' r' s' a' n' c' :=
  heap_setCell_at _ b 3 _ _ _ _ (heap_setCell_at _ b 2 _ _ _ _ (heap_setCell_at _ b 1 _ _ _ _ (heap_setCell_at w b 0 _ _ _ _ h)))
theorem MatB.set4o {w : World} {b b' : Nat} {p r s : Int} {a : Option Addr} {n c : Nat} (h : MatB w b p r s a n c) (hne : b' ≠ b) (v0 v1 v2 v3 : Value) : MatB (Go.Proofs.Ytenlhfimdpcaoaa.set4 w b' v0 v1 v2 v3) b p r s a n c :=
  (((h.other v0 hne).other v1 hne).other v2 hne).other v3 hne
theorem set4_size (w : World) (b : Nat) (v0 v1 v2 v3 : Value) : (Go.Proofs.Ytenlhfimdpcaoaa.set4 w b v0 v1 v2 v3).heap.size = w.heap.size := by simp [Go.Proofs.Ytenlhfimdpcaoaa.set4, World.setCell]
theorem MatB.grownK {w w' : World} {b : Nat} {p r s : Int} {a : Option Addr} {n c : Nat} (h : MatB w b p r s a n c) {av : Option Addr} {m cv : Nat} (hg : w.grownBy w' (Value.slice av m cv).ownBlock) (hne : ∀ g o, av = some ⟨g, o, none⟩ → g ≠ b) (hsp : ∀ q, av = some q → q.spot = none) : MatB w' b p r s a n c := by
  refine h.same (hg.block b h.lt fun e => ?_)
  cases av with
  | none => simp [Value.ownBlock] at e
  | some q =>
    simp only [Value.ownBlock, Option.some.injEq] at e
    obtain ⟨qb, qo, qs⟩ := q
    have hs := hsp _ rfl
    simp only at hs e
    subst hs
    exact hne qb qo rfl e.symm
set_option maxHeartbeats 4000000 in
theorem l3Series_any (p : Int) (d B m N c : Nat) (aT a0 : Option Addr) (l0 c0 : Nat) (t : List Int) (w : World) (hd : d ≤ 28) (hN : N = d * d * d) (hc : N ≤ c)
    (ht : IntsAt w aT N t) (hp : primeB p = true) (hrt : Res p t)
    (h0 : OwnI w B a0 l0 c0 (allL d).flatten) (hB : B ≤ w.heap.size) (hm : m ≤ 1000) (hch : Chain (lowF p t d) (allL d) m) :
    Calls Try.prog 136 #[algV p d aT N c, matV p (allL d).length d a0 l0 c0, .int .i64 1] w fun e w' => ∃ a' c' hs, e = .returned (.slice a' (m + 1) c') ∧ OwnK matK w' B w'.heap.size a' (m + 1) c' hs (serL p d (lowF p t d) (allL d) m) ∧ Ext w w' := by
  obtain ⟨p2, p7⟩ := prime_bounds hp
  have hl0 := h0.len
  have hAl := hidP (allL_ok p2 d)
  have hIt := hidP (fun i => iter_ok p2 d (lowF p t d) (fun R => prodL_ok (by omega) t d (allL d) R) i)
  have hx0 := Ext.alloc w (.cells #[.int .i64 p, .int .i64 (d : Int), .slice aT N c] 24)
  have HAL := hidP (AlgAt.new w _ rfl p d aT N c 24)
  have hsa : (w.alloc (.cells #[.int .i64 p, .int .i64 (d : Int), .slice aT N c] 24)).heap.size = w.heap.size + 1 := by simp
  have HT := hidP (ht.below hx0)
  have hb0 := h0.below hx0
  have HN := hidP hN
  have HPm := hidP hp
  have HRT := hidP hrt
  have HCh := hidP hch
  have HXw := hidP hx0
  go_enter Try.func136, Try.ntmps136
  clear h0 ht hp hrt hN hch hx0
  generalize hL : (allL d).length = L0 at *
  have HL := hidP hL
  clear hL
  go_wp2
  obtain ⟨wa, hwa⟩ : ∃ wa, wa = w.alloc (.cells #[.int .i64 p, .int .i64 (d : Int), .slice aT N c] 24) := ⟨_, rfl⟩
  rw [← hwa] at HAL hsa HT hb0 HXw ⊢
  clear hwa
  have hxA := Ext.alloc wa (.cells #[.int .i64 p, .int .i64 (L0 : Int), .int .i64 (d : Int), .slice a0 l0 c0] 36)
  have hmb := MatB.new wa p (L0 : Int) d a0 l0 c0
  have hs1 : (wa.alloc (.cells #[.int .i64 p, .int .i64 (L0 : Int), .int .i64 (d : Int), .slice a0 l0 c0] 36)).heap.size = w.heap.size + 1 + 1 := by simp [hsa]
  rw [hsa] at hmb
  have hb1 := hb0.below hxA
  clear hb0
  obtain ⟨wb, hwb⟩ : ∃ wb, wb = wa.alloc (.cells #[.int .i64 p, .int .i64 (L0 : Int), .int .i64 (d : Int), .slice a0 l0 c0] 36) := ⟨_, rfl⟩
  rw [← hwb] at hmb hs1 hb1 hxA ⊢
  clear hwb
  have hx1 := Ext.alloc wb (.cells #[.int .i64 p, .int .i64 (L0 : Int), .int .i64 (d : Int), .slice a0 l0 c0] 36)
  have h1 := heap_alloc_new wb (.cells #[.int .i64 p, .int .i64 (L0 : Int), .int .i64 (d : Int), .slice a0 l0 c0] 36)
  rw [hs1] at h1
  have hsz1 : (wb.alloc (.cells #[.int .i64 p, .int .i64 (L0 : Int), .int .i64 (d : Int), .slice a0 l0 c0] 36)).heap.size = w.heap.size + 1 + 1 + 1 := by simp [hs1]
  have HO : Hid (OwnK matK (wb.alloc (.cells #[.int .i64 p, .int .i64 (L0 : Int), .int .i64 (d : Int), .slice a0 l0 c0] 36)) B
      (wb.alloc (.cells #[.int .i64 p, .int .i64 (L0 : Int), .int .i64 (d : Int), .slice a0 l0 c0] 36)).heap.size (some ⟨w.heap.size + 1 + 1, 0, none⟩) 1 1 [(a0, c0)] (serL p d (lowF p t d) (allL d) 0)) := by
    have hb := hb1.below hx1
    refine ⟨⟨rfl, .inr ⟨w.heap.size + 1 + 1, 1, _, rfl, by omega, h1, Nat.le_refl _, by unfold maxLen; omega, rfl, ?_⟩⟩, rfl, rfl, fun i hi => ?_, fun i j hi hj hij => by omega, fun i hi b o e => ?_, fun b o e => ?_⟩
    · show _ = [Value.int .i64 p, .int .i64 ((allL d).length : Int), .int .i64 (d : Int), .slice a0 (allL d).flatten.length c0] ++ []
      rw [hl0, HL.out]
      rfl
    · obtain rfl : i = 0 := by omega
      show OwnI _ B a0 (allL d).flatten.length c0 (allL d).flatten
      rw [hl0]
      exact hb
    · obtain rfl : i = 0 := by omega
      exact (hb.at_base b o e).2
    · simp only [Option.some.injEq, Addr.mk.injEq, and_true] at e
      rw [hsz1]
      omega
  have HMB : Hid (MatB (wb.alloc (.cells #[.int .i64 p, .int .i64 (L0 : Int), .int .i64 (d : Int), .slice a0 l0 c0] 36)) (w.heap.size + 1) p ((iterL (lowF p t d) (allL d) 0).length : Int) d a0 (iterL (lowF p t d) (allL d) 0).flatten.length c0) := by
    show MatB _ _ _ _ _ _ _ _
    have e1 : (iterL (lowF p t d) (allL d) 0).length = L0 := HL.out
    have e2 : (iterL (lowF p t d) (allL d) 0).flatten.length = l0 := hl0
    rw [e1, e2]
    exact hmb.below hx1
  have HX := hidP (hxA.trans hx1)
  have HS1 := hidP hsa
  clear hx1 h1 hsz1 hmb hb1 hl0 hs1 hxA hsa
  obtain ⟨w0, hw0⟩ : ∃ w0, w0 = wb.alloc (.cells #[.int .i64 p, .int .i64 (L0 : Int), .int .i64 (d : Int), .slice a0 l0 c0] 36) := ⟨_, rfl⟩
  rw [← hw0] at HO HMB HX ⊢
  clear hw0
  have HF := hidP (fun w' (hx' : Ext wa w') => (⟨(HAL.out.below hx').c0, (HAL.out.below hx').c1, (HAL.out.below hx').c2⟩ : _ ∧ _ ∧ _))
  have HAlw := hidP (fun w' => l2All_any p d aT N c w' hd)
  have HPr := hidP (fun i aS l1 c1 aU l2 c2 w' (hx : Ext wa w') (hS : IntsAt w' aS (d * d) (unitTo d d)) (hc1 : d * d ≤ c1) (hcb1 : c1 ≤ 9223372036854775807) (hU : IntsAt w' aU l2 (iterL (lowF p t d) (allL d) i).flatten) (hc2 : l2 ≤ c2) (hcb2 : c2 ≤ 9223372036854775807) (_ : l1 = d * d) => by
    obtain ⟨hr, hl⟩ := hIt.out i
    have hu := hU.len
    rw [flat_rows hr, flatL_length] at hu
    have := l2Product_any p d d (iterL (lowF p t d) (allL d) i).length aT aS aU N c (d * d) c1 l2 c2 t (unitTo d d) (iterL (lowF p t d) (allL d) i).flatten w' hd HN.out hc (HT.out.below hx) hS hU rfl hu.symm hc1 hcb1 hc2 hcb2 HPm.out HRT.out (unitTo_res p2 d d) hr.flat_res hd (by omega) (by omega) (by omega)
    rw [matRows_flatten hr] at this
    exact this)
  go_loopw [7] (fun v wr => ∃ (i : Nat) (av : Option Addr) (cv : Nat) (hv : List Hdr), i ≤ m ∧ v = .slice av (i + 1) cv ∧ Hid (OwnK matK wr B wr.heap.size av (i + 1) cv hv (serL p d (lowF p t d) (allL d) i)) ∧
    Hid (MatB wr (w.heap.size + 1) p ((iterL (lowF p t d) (allL d) i).length : Int) d (hv.getD i (none, 0)).1 (iterL (lowF p t d) (allL d) i).flatten.length (hv.getD i (none, 0)).2) ∧ Hid (Ext wa wr) ∧ Hid (∀ b o, av = some ⟨b, o, none⟩ → w.heap.size + 2 ≤ b)) (fun v _ => match v with | .slice _ n _ => m + 1 - n | _ => 0)
  case atStart => exact ⟨0, _, 1, _, Nat.zero_le _, rfl, HO, HMB, HX, fun b o e => by cases e; exact Nat.le_refl _⟩
  case round =>
    clear HO HMB HX
    obtain ⟨i, av, cv, hv, hi, rfl, HO, HMB, HX, HA⟩ := hrel
    obtain ⟨hr0, hl0⟩ := hIt.out i
    have HSer := hidP (serL_succ p d (lowF p t d) (allL d) i)
    have HN1 : Hid (i < m → (iterL (lowF p t d) (allL d) (i + 1)).length ≠ (iterL (lowF p t d) (allL d) i).length) := HCh.out.ne i
    have HQ1 : Hid (i = m → (iterL (lowF p t d) (allL d) (i + 1)).length = (iterL (lowF p t d) (allL d) i).length) := fun e => by rw [e]; exact HCh.out.eq
    have hg : (serL p d (lowF p t d) (allL d) i).getD i matK.dft = mxOf p d (iterL (lowF p t d) (allL d) i) := serL_get p d _ _ i i (Nat.le_refl _)
    have he := HO.out.each i (by omega)
    rw [hg] at he
    have HE0 : Hid (OwnI wr B (hv.getD i (none, 0)).1 (iterL (lowF p t d) (allL d) i).flatten.length (hv.getD i (none, 0)).2 (iterL (lowF p t d) (allL d) i).flatten) := he
    have HMX : Hid (mxOf p d (iterL (lowF p t d) (allL d) (i + 1)) = ⟨p, (iterL (lowF p t d) (allL d) (i + 1)).length, d, (iterL (lowF p t d) (allL d) (i + 1)).flatten⟩) := rfl
    have HGl : Hid (∀ q, q < i + 1 → ∀ b o, (hv.getD q (none, 0)).1 = some ⟨b, o, none⟩ → b < wr.heap.size) := fun q hq b o e => HO.out.lt q hq b o e
    have HHl := hidP HO.out.hl
    have HPr2 := hidP (HPr.out i)
    have HSg : Hid (∀ h : Hdr, (hv ++ [h]).getD (i + 1) (none, 0) = h) := fun h => by
      have := HHl.out
      simp [List.getD_eq_getElem?_getD, this]
    clear hg he hr0 hl0
    generalize hh0 : hv.getD i (none, 0) = hh at *
    clear hh0
    generalize hfl : (iterL (lowF p t d) (allL d) i).flatten.length = fl at *
    generalize hk0 : (iterL (lowF p t d) (allL d) i).length = k0 at *
    clear hfl hk0
    obtain ⟨wo, rfl⟩ : ∃ wo : World, wo = wr := ⟨_, rfl⟩
    obtain ⟨c0, c1, c2, c3⟩ := HMB.out.at'
    go_wp2
    clear c0 c1 c2 c3
    have hxn := Ext.alloc wo (.cells #[.int .i64 p, .int .i64 (k0 : Int), .int .i64 (d : Int), .slice hh.1 fl hh.2] 36)
    have HB8 := hidP (MatB.new wo p k0 d hh.1 fl hh.2)
    have HXn := hidP hxn
    clear hxn
    obtain ⟨wn, hwn⟩ : ∃ wn, wn = wo.alloc (.cells #[.int .i64 p, .int .i64 (k0 : Int), .int .i64 (d : Int), .slice hh.1 fl hh.2] 36) := ⟨_, rfl⟩
    rw [← hwn] at HB8 HXn ⊢
    clear hwn
    obtain ⟨b8, hb8⟩ : ∃ b8, b8 = wo.heap.size := ⟨_, rfl⟩
    rw [← hb8] at HB8 ⊢
    have HBE := hidP hb8
    clear hb8
    have hE : Ext wn wn.drew := Ext.drew wn
    have HMn := hidP (HMB.out.below HXn.out)
    have HFm := hidP (fun w' (hx : Ext wn w') => (⟨(HF.out w' ((HX.out.trans HXn.out).trans hx)), (HMn.out.below hx).at'.c0, (HMn.out.below hx).at'.c1, (HMn.out.below hx).at'.c2, (HMn.out.below hx).at'.c3⟩ : _ ∧ _ ∧ _ ∧ _ ∧ _))
    have hcp := HE0.out.caps
    (refine walkR_start (fun w' => Ext wn w') 5 (by kernel_rfl) ?_; simp only [numbered, List.take_succ_cons, List.take_zero, Nat.zero_add, Nat.reduceAdd, List.length_cons, List.length_nil])
    (repeat (first | (refine walkR_still (v := ?_) rfl (by decide +kernel) rfl (fun _ _ _ h => h) hE ?_ ?_; rotate_left; (focus (intro w' hw'; obtain ⟨⟨f0, f1, f2⟩, g0, g1, g2, g3⟩ := HFm.out w' hw'; go_simp; all_goals (with_reducible rfl))); simp only [Act.put, List.setIfInBounds_toArray, List.set_cons_zero, List.set_cons_succ]) | (refine walkR_skip rfl (by decide +kernel) rfl (fun _ _ _ h => h) hE ?_; simp only [Act.put, List.setIfInBounds_toArray, List.set_cons_zero, List.set_cons_succ])))
    (refine walkR_later ?_; simp only [List.cons_append, List.nil_append])
    (repeat (first | (refine walkR_still (v := ?_) rfl (by decide +kernel) rfl (fun _ _ _ h => h) hE ?_ ?_; rotate_left; (focus (intro w' hw'; obtain ⟨⟨f0, f1, f2⟩, g0, g1, g2, g3⟩ := HFm.out w' hw'; go_simp; all_goals (with_reducible rfl))); simp only [Act.put, List.setIfInBounds_toArray, List.set_cons_zero, List.set_cons_succ]) | (refine walkR_skip rfl (by decide +kernel) rfl (fun _ _ _ h => h) hE ?_; simp only [Act.put, List.setIfInBounds_toArray, List.set_cons_zero, List.set_cons_succ])))
    (refine walkR_later ?_; simp only [List.cons_append, List.nil_append])
    (refine walkR_only (fun w' => Ext wn w') rfl (by decide +kernel) rfl (fun _ h => h) ?_; intro K hK; go_simp; refine (HAlw.out _).mono ?_; rintro e w1 ⟨a1, rfl, ho1, hx1⟩; refine hK _ _ (hE.trans hx1) ?_; clear hK K; (try simp only [Act.put, List.setIfInBounds_toArray, List.set_cons_zero, List.set_cons_succ]))
    have hE1 := hE.trans hx1
    have HPc := hidP (HPr2.out a1 (d * d) (d * d) hh.1 fl hh.2 w1 ((HX.out.trans HXn.out).trans hE1) ho1.ints (Nat.le_refl _) (by have := Nat.mul_le_mul hd hd; omega) ((HE0.out.below (HXn.out.trans hE1)).ints) hcp.1 hcp.2 rfl)
    (refine walkR_only (fun w' => Ext wn w') rfl (by decide +kernel) rfl (fun _ h => h) ?_; intro K hK; go_simp; refine (HPc.out).mono ?_; rintro e w2 ⟨a2, l2, c2, rfl, ho2, hx2⟩; refine hK _ _ (hE1.trans hx2) ?_; clear hK K; (try simp only [Act.put, List.setIfInBounds_toArray, List.set_cons_zero, List.set_cons_succ]))
    have hE2 := hE1.trans hx2
    have HO2 : Hid (OwnI w2 wn.heap.size a2 l2 c2 (iterL (lowF p t d) (allL d) (i + 1)).flatten) := ho2.base hE1.size
    have HXE2 := hidP hE2
    have hke : (prodL p t d (matRows d d (unitTo d d)) (iterL (lowF p t d) (allL d) i)).length = (iterL (lowF p t d) (allL d) (i + 1)).length := rfl
    rw [hke]
    clear hke ho1 ho2 hx1 hx2 hE hE1 hE2 HPc
    have HL2 := hidP HO2.out.len
    generalize hk1 : (iterL (lowF p t d) (allL d) (i + 1)).length = k1 at *
    have HK1 := hidP hk1
    clear hk1
    (refine walkR_tail (by rfl) (by kernel_rfl) ?_; simp only [List.drop_succ_cons, List.drop_zero])
    have HB2 := hidP (HB8.out.below HXE2.out)
    have z0 := HB2.out.fz 0
    have z1 := HB2.out.fz 1
    have z2 := HB2.out.fz 2
    have z3 := HB2.out.fz 3
    obtain ⟨q0, q1, q2, q3⟩ := HB2.out.at'
    have HB4 := hidP (HB2.out.set4 p k1 d a2 l2 c2)
    have hne8 : b8 ≠ w.heap.size + 1 := by rw [HBE.out]; have := HMB.out.lt; omega
    have HM4 := hidP ((HMn.out.below HXE2.out).set4o (b' := b8) hne8 (.int .i64 p) (.int .i64 (k1 : Int)) (.int .i64 (d : Int)) (.slice a2 l2 c2))
    have HOL4 : Hid (OwnK matK (set4 w2 b8 (.int .i64 p) (.int .i64 (k1 : Int)) (.int .i64 (d : Int)) (.slice a2 l2 c2)) B wo.heap.size av (i + 1) cv hv (serL p d (lowF p t d) (allL d) i)) :=
      (HO.out.below (HXn.out.trans HXE2.out)).set4M HB2.out.blk (fun g o e => by have := (HO.out.base_lt g o e).2; have := HBE.out; omega) _ _ _ _
    have HO4 := hidP (HO2.out.set4M HB2.out.blk (.int .i64 p) (.int .i64 (k1 : Int)) (.int .i64 (d : Int)) (.slice a2 l2 c2))
    have HX4 : Hid (Ext wa (set4 w2 b8 (.int .i64 p) (.int .i64 (k1 : Int)) (.int .i64 (d : Int)) (.slice a2 l2 c2))) := Ext.set4 ((HX.out.trans HXn.out).trans HXE2.out) _ _ _ _ _ (by rw [HBE.out]; exact HX.out.size)
    obtain ⟨w4, hw4⟩ : ∃ w4, w4 = set4 w2 b8 (.int .i64 p) (.int .i64 (k1 : Int)) (.int .i64 (d : Int)) (.slice a2 l2 c2) := ⟨_, rfl⟩
    rw [← hw4] at HB4 HM4 HOL4 HO4 HX4
    have hw4' : ((((w2.setCell ⟨b8, 0, none⟩ (.int .i64 p)).setCell ⟨b8, 1, none⟩ (.int .i64 (k1 : Int))).setCell ⟨b8, 2, none⟩ (.int .i64 (d : Int))).setCell ⟨b8, 3, none⟩ (.slice a2 l2 c2)) = w4 := by rw [hw4]; rfl
    have HSz4 : Hid (w2.heap.size = w4.heap.size) := by
      show _ = _
      rw [hw4, set4_size]
    clear hw4
    go_wp2_with (with_reducible (refine stop_at 31 (by rfl) ?_))
    unfold Stopped
    try rw [hw4']
    clear hw4' z0 z1 z2 z3 q0 q1 q2 q3
    obtain ⟨g0, g1, g2, g3⟩ := HB4.out.at'
    obtain ⟨k0', k1', k2', k3'⟩ := HM4.out.at'
    by_cases him : i < m
    · have hne := HN1.out him
      have hb : ((k1 : Int) == (k0 : Int)) = false := by simp; omega
      clear hne
      have hx3 := Ext.alloc w4 (.cells #[.int .i64 p, .int .i64 (k1 : Int), .int .i64 (d : Int), .slice a2 l2 c2] 36)
      have HOL3 := hidP ((HOL4.out.below hx3).weaken (Nat.le_refl _) (show wo.heap.size ≤ (w4.alloc (.cells #[.int .i64 p, .int .i64 (k1 : Int), .int .i64 (d : Int), .slice a2 l2 c2] 36)).heap.size from by have := HXn.out.size; have := HXE2.out.size; have := HSz4.out; have := hx3.size; omega))
      have HX3 := hidP (HX4.out.trans hx3)
      have HB3 := hidP (HB4.out.below hx3)
      have HM3 := hidP (HM4.out.below hx3)
      have HOI3 : Hid (OwnI (w4.alloc (.cells #[.int .i64 p, .int .i64 (k1 : Int), .int .i64 (d : Int), .slice a2 l2 c2] 36)) B a2 (matK.ints (mxOf p d (iterL (lowF p t d) (allL d) (i + 1)))).length c2 (matK.ints (mxOf p d (iterL (lowF p t d) (allL d) (i + 1))))) := by
        show OwnI _ B a2 (iterL (lowF p t d) (allL d) (i + 1)).flatten.length c2 (iterL (lowF p t d) (allL d) (i + 1)).flatten
        rw [HL2.out]
        refine (HO4.out.below hx3).base ?_
        have := HXn.out.size; have := HX.out.size; have := HXw.out.size
        omega
      have HCe : Hid (∀ q, q < matK.size → (w4.alloc (.cells #[.int .i64 p, .int .i64 (k1 : Int), .int .i64 (d : Int), .slice a2 l2 c2] 36)).cell? ⟨w4.heap.size, q, none⟩ = (matK.cells a2 c2 (mxOf p d (iterL (lowF p t d) (allL d) (i + 1))))[q]?) := fun q hq => by
        rw [cell_top _ _ _ _ _ rfl]
        show _ = ([Value.int .i64 p, .int .i64 ((iterL (lowF p t d) (allL d) (i + 1)).length : Int), .int .i64 (d : Int), .slice a2 (iterL (lowF p t d) (allL d) (i + 1)).flatten.length c2])[q]?
        rw [HK1.out, HL2.out]
        simp
      have HAp : Hid (∀ q, q < i + 1 → Apart (hv.getD q (none, 0)).1 a2) := fun q hq b o b' o' e e' => by
        have := HGl.out q hq b o e
        have := (HO2.out.at_base b' o' e').1
        have := HXn.out.size
        omega
      have HFa : Hid (Apart av a2) := fun b o b' o' e e' => by
        have := (HO.out.base_lt b o e).2
        have := (HO2.out.at_base b' o' e').1
        have := HXn.out.size
        omega
      have HSpt := hidP HOL3.out.spot
      clear hx3
      go_wp2_with (first | (with_reducible (refine stop_at 41 (by rfl) ?_)) | (at_builtin; refine wpList_append_elem2 matK 41 (.agg #[.int .i64 0, .int .i64 0, .int .i64 0, .slice none 0 0]) 48 rfl (.tmp 37) (.tmp 39) rfl Try.underlying41 Try.info36 rfl (by omega) B _ av (i + 1) cv hv _ rfl HOL3.out w4.heap.size 1 (a2, c2) (mxOf p d (iterL (lowF p t d) (allL d) (i + 1))) rfl HCe.out HOI3.out HAp.out HFa.out (by omega) (by have := HXw.out.size; have := HX3.out.size; omega) ?_; intro a3 c3 w3 ho3 hg3 hn3; have HO3 := hidP ho3; have HG3 := hidP hg3; have HN3 := hidP hn3; clear ho3 hg3 hn3))
      unfold Stopped
      clear g0 g1 g2 g3 k0' k1' k2' k3'
      have HB5 := hidP (HB3.out.grownK HG3.out (fun g o e => by have := (HO.out.base_lt g o e).2; have := HBE.out; omega) HSpt.out)
      have HM5 := hidP (HM3.out.grownK HG3.out (fun g o e => by have := HA.out g o e; omega) HSpt.out)
      obtain ⟨g0, g1, g2, g3⟩ := HB5.out.at'
      obtain ⟨m0, m1, m2, m3⟩ := HM5.out.at'
      have z0 := HM5.out.fz 0
      have z1 := HM5.out.fz 1
      have z2 := HM5.out.fz 2
      have z3 := HM5.out.fz 3
      have HA3 : Hid (∀ b o, a3 = some ⟨b, o, none⟩ → w.heap.size + 2 ≤ b) := fun b o e => by
        rcases HN3.out with rfl | hn
        · exact HA.out b o e
        · have h1 := hn b o e
          have h2 := HM3.out.lt
          omega
      have HX5 : Hid (Ext wa w3) := grown_ext HG3.out HX3.out HX3.out.size fun q e => by
        obtain ⟨qb, qo, qs⟩ := q
        have hs := HSpt.out _ e
        simp only at hs
        subst hs
        have h1 := HA.out qb qo e
        have h2 := HS1.out
        show wa.heap.size ≤ qb
        omega
      have HM6 := hidP (HM5.out.set4 p k1 d a2 l2 c2)
      have HO6 := hidP (HO3.out.set4M HM5.out.blk (fun g o e => by have := HA3.out g o e; omega) (.int .i64 p) (.int .i64 (k1 : Int)) (.int .i64 (d : Int)) (.slice a2 l2 c2))
      have HX6 : Hid (Ext wa (set4 w3 (w.heap.size + 1) (.int .i64 p) (.int .i64 (k1 : Int)) (.int .i64 (d : Int)) (.slice a2 l2 c2))) := Ext.set4 HX5.out _ _ _ _ _ (Nat.le_of_eq HS1.out)
      go_wp2
      go_roundw
      case rel => exact ⟨i + 1, a3, c3, hv ++ [(a2, c2)], by omega, rfl, by rw [HSer.out]; exact HO6.out.weaken (Nat.le_refl _) (Nat.le_of_eq (set4_size _ _ _ _ _ _).symm), by rw [HSg.out, HK1.out, HL2.out]; exact HM6, HX6, HA3⟩
      case measure => simp; omega
    · have him2 : i = m := by omega
      have hq := HQ1.out him2
      have hb : ((k1 : Int) == (k0 : Int)) = true := by simp [hq]
      have HOF : Hid (OwnK matK w4 B w4.heap.size av (m + 1) cv hv (serL p d (lowF p t d) (allL d) m)) := by
        have hh := HOL4.out.weaken (Nat.le_refl _) (show wo.heap.size ≤ w4.heap.size from by have := HXn.out.size; have := HXE2.out.size; have := HSz4.out; omega)
        rw [him2] at hh
        exact hh
      have hret : (Value.slice av (i + 1) cv) = .slice av (m + 1) cv := by rw [him2]
      rw [hret]
      clear him2 hq hret
      go_wp2
      go_ret
      exact ⟨_, _, _, rfl, HOF.out, HXw.out.trans HX4.out⟩
end Go.Proofs.Ytenlhfimdpcaoaa

namespace Go.Proofs.Ytenlhfimdpcaoaa
open Go.RowKit

set_option maxHeartbeats 2000000 in
theorem sClassOf_ok (p : Int) (d m : Nat) (a : Option Addr) (N c : Nat) (t : List Int) (w : World) (ht : IntsAt w a N t) (hnc : N ≤ c) (hc2 : c ≤ 1000000000000) (hb : algB p d t = true) (hm : m ≤ 1000) (hch : Chain (lowF p t d) (allL d) m) :
    Calls Try.prog 88 #[algV p d a N c] w fun e w' => e = .returned (.int .i64 (classOf p t d m)) ∧ Ext w w' := by
  obtain ⟨hh, _⟩ := algB_true.1 hb
  obtain ⟨hp, hd0, hd, hl, hr⟩ := headB_true hh
  obtain ⟨p2, p7⟩ := prime_bounds hp
  have hlN : t.length = N := ht.len
  have hN : N = d * d * d := by
    rw [hlN] at hl
    have : (N : Int) = ((d * d * d : Nat) : Int) := by rw [hl]; simp
    omega
  have hx0 := Ext.alloc w (.cells #[.int .i64 p, .int .i64 (d : Int), .slice a N c] 24)
  have HAL := hidP (AlgAt.new w _ rfl p d a N c 24)
  have HOk := hidP (sAlgebraOk_any p d a N c t _ (ht.below hx0) hnc hc2)
  rw [hb] at HOk
  have HAll := hidP (fun w' => l2All_any p d a N c w' (by omega))
  have hfl : (allL d).flatten = unitTo d d := matRows_flat (unitTo_length d d)
  have hal : (allL d).length = d := matRows_length d d _
  have HSe := hidP (fun a0 l0 c0 w' (hx : Ext (w.alloc (.cells #[.int .i64 p, .int .i64 (d : Int), .slice a N c] 24)) w') (h0 : OwnI w' (w.heap.size + 1) a0 l0 c0 (unitTo d d)) => by
    have h3 := l3Series_any p d (w.heap.size + 1) m N c a a0 l0 c0 t w' (by omega) hN hnc ((ht.below hx0).below hx) hp hr (by rw [hfl]; exact h0) (by have := hx.size; simpa using this) hm hch
    rw [hal] at h3
    exact h3)
  have HX0 := hidP hx0
  have hsz : (w.alloc (.cells #[.int .i64 p, .int .i64 (d : Int), .slice a N c] 24)).heap.size = w.heap.size + 1 := by simp
  have HSL : Hid ((serL p d (lowF p t d) (allL d) m).getD m matK.dft = mxOf p d (iterL (lowF p t d) (allL d) m)) := serL_get p d _ _ m m (Nat.le_refl _)
  have hNb : N ≤ 100000 := by have := Nat.mul_le_mul (Nat.mul_le_mul (show d ≤ 28 by omega) (show d ≤ 28 by omega)) (show d ≤ 28 by omega); omega
  clear hx0 ht hb hch hh hl hr hfl hal hlN hN
  obtain ⟨f0, f1, f2⟩ := HAL.out
  go_enter Try.func88, Try.ntmps88
  go_wp2_with fail
  clear f0 f1 f2
  obtain ⟨wb, hwb⟩ : ∃ wb, wb = (w.alloc (.cells #[.int .i64 p, .int .i64 (d : Int), .slice a N c] 24)) := ⟨_, rfl⟩
  rw [← hwb] at HAL HOk HSe HX0 hsz ⊢
  clear hwb
  refine HOk.out.mono ?_
  rintro e w1 ⟨rfl, hx1⟩
  have HX1 := hidP hx1
  have HF := hidP (fun w' (hx' : Ext wb w') => (⟨(HAL.out.below hx').c0, (HAL.out.below hx').c1, (HAL.out.below hx').c2⟩ : _ ∧ _ ∧ _))
  clear hx1 HOk
  go_wp2
  have hE : Ext wb w1.drew := HX1.out.trans (Ext.drew w1)
  (refine walkR_start (fun w' => Ext wb w') 4 (by kernel_rfl) ?_; simp only [numbered, List.take_succ_cons, List.take_zero, Nat.zero_add, Nat.reduceAdd, List.length_cons, List.length_nil])
  (repeat (first | (refine walkR_still (v := ?_) rfl (by decide +kernel) rfl (fun _ _ _ h => h) hE ?_ ?_; rotate_left; (focus (intro w' hw'; obtain ⟨f0, f1, f2⟩ := HF.out w' hw'; go_simp; all_goals (with_reducible rfl))); simp only [Act.put, List.setIfInBounds_toArray, List.set_cons_zero, List.set_cons_succ]) | (refine walkR_skip rfl (by decide +kernel) rfl (fun _ _ _ h => h) hE ?_; simp only [Act.put, List.setIfInBounds_toArray, List.set_cons_zero, List.set_cons_succ])))
  (refine walkR_only (fun w' => Ext wb w') rfl (by decide +kernel) rfl (fun _ h => h) ?_; intro K hK; go_simp; refine (HAll.out _).mono ?_; rintro e w2 ⟨a2, rfl, ho2, hx2⟩; refine hK _ _ (hE.trans hx2) ?_; clear hK K; (try simp only [Act.put, List.setIfInBounds_toArray, List.set_cons_zero, List.set_cons_succ]))
  have hE2 := hE.trans hx2
  have HS2 := hidP (HSe.out a2 (d * d) (d * d) w2 hE2 (ho2.base (by have := hE.size; omega)))
  (refine walkR_only (fun w' => Ext wb w') rfl (by decide +kernel) rfl (fun _ h => h) ?_; intro K hK; go_simp; refine (HS2.out).mono ?_; rintro e w3 ⟨a3, c3, hs3, rfl, ho3, hx3⟩; refine hK _ _ (hE2.trans hx3) ?_; clear hK K; (try simp only [Act.put, List.setIfInBounds_toArray, List.set_cons_zero, List.set_cons_succ]))
  have HX3 := hidP (hE2.trans hx3)
  have HO3 := hidP ho3
  clear ho2 ho3 hx2 hx3 hE hE2 HS2
  (refine walkR_tail (by rfl) (by kernel_rfl) ?_; simp only [List.drop_succ_cons, List.drop_zero])
  obtain ⟨g, rfl, q1, _⟩ := HO3.out.cell m 1 (by omega) (by decide)
  rw [HSL.out] at q1
  have q1 : w3.cell? ⟨g, m * 4 + 1, none⟩ = some (.int .i64 ((iterL (lowF p t d) (allL d) m).length : Int)) := q1
  have HCl : Hid (classOf p t d m = if (iterL (lowF p t d) (allL d) m).length = 0 then (m : Int) else -1) := rfl
  generalize (iterL (lowF p t d) (allL d) m).length = k at *
  clear HSL
  by_cases hk : k = 0
  · have HC2 := hidP (HCl.out.trans (if_pos hk))
    have hkb : ¬ (0 : Int) < (k : Int) := by omega
    clear HCl hk
    go_wp2
    go_ret
    exact ⟨ret_int HC2.out.symm, HX0.out.trans HX3.out⟩
  · have hkb : (0 : Int) < (k : Int) := by omega
    have HC2 := hidP (HCl.out.trans (if_neg hk))
    clear HCl hk
    go_wp2
    go_ret
    exact ⟨ret_int HC2.out.symm, HX0.out.trans HX3.out⟩
set_option maxHeartbeats 1000000 in
theorem l7Times_any (a a' : Option Addr) (n c c' : Nat) (xs ys : List Int) (k p : Int) (w : World) (h : IntsAt w a n xs) (h' : IntsAt w a' n ys) (hn : n ≤ 1000000)
    (hx : Res p xs) (hy : Res p ys) (hp0 : 1 ≤ p) (hp1 : p ≤ 10007) (hk0 : -10007 ≤ k) (hk1 : k ≤ 10007) :
    Calls Try.prog 138 #[.int .i64 p, .slice a n c, .int .i64 k, .slice a' n c'] w fun e w' => ∃ b, e = .returned (.slice b n n) ∧ OwnI w' w.heap.size b n n (addL p xs k ys) ∧ Ext w w' := by
  have hm := OwnI.made w w.heap.size n (Nat.le_refl _) (by unfold maxLen; omega)
  have hst := UpdI.start hm.ints
  have HX := hidP hx
  have HY := hidP hy
  have HG := hidP h
  have HG' := hidP h'
  have L := hidP h.len
  have L' := hidP h'.len
  have LA := hidP ((addL_length p xs k ys).trans h.len)
  have hmk := make_ints (n : Int) (by omega) (by omega)
  simp only [Int.toNat_natCast] at hmk
  have hx0 := Ext.alloc w (.cells (Array.replicate n (.int .i64 0)) 3)
  have hsz : w.heap.size < (w.alloc (.cells (Array.replicate n (.int .i64 0)) 3)).heap.size := by simp
  clear h h' hx hy
  go_enter Try.func138, Try.ntmps138
  go_wp2
  obtain ⟨w1, hw1⟩ : ∃ w1, w1 = w.alloc (.cells (Array.replicate n (.int .i64 0)) 3) := ⟨_, rfl⟩
  rw [← hw1] at hm hst hx0 hsz ⊢
  have HM := hidP hm
  have HST := hidP hst
  have HX0 := hidP hx0
  clear hw1 hm hst hmk hx0
  go_loopw [10] (fun i wr => ∃ j : Nat, j ≤ n ∧ Hid (UpdI w1 wr (some ⟨w.heap.size, 0, none⟩) n (partly (List.replicate n 0) (addL p xs k ys) j)) ∧ i = .int .i64 j) (fun i _ => n - (intOf i).toNat)
  case atStart => exact ⟨0, Nat.zero_le _, by rw [partly_zero]; exact HST, rfl⟩
  case round =>
    obtain ⟨j, hj, HU, rfl⟩ := hrel
    by_cases hlt : j < n
    · have hB : Ext w wr := HU.out.below HX0.out (by omega) (fun b o e _ => by cases e; exact Nat.le_refl _)
      obtain ⟨b, o, rfl, q⟩ := (HG.out.below (hB.trans (Ext.drew wr))).get j hlt
      obtain ⟨b', o', rfl, q'⟩ := (HG'.out.below (hB.trans (Ext.drew wr))).get j hlt
      have hu := HU.out.drew
      have hz : wr.drew.frozen? ⟨w.heap.size, 0 + j, none⟩ = false := (hu.own HM.out).unfrozen j _ _ hlt rfl
      obtain ⟨qd, _⟩ := hu.cellInt j hlt
      obtain ⟨x0, x1⟩ := HX.out j (by have := L.out; omega)
      obtain ⟨y0, y1⟩ := HY.out j (by have := L'.out; omega)
      have hs := hu.store j hlt ((xs.getD j 0 + k * ys.getD j 0) % p)
      have hg := addL_get p xs k ys j (by have := L.out; omega)
      rw [← hg, partly_succ (List.replicate n 0) _ n j hlt (by simp) LA.out, hg] at hs
      generalize xs.getD j 0 = x at *
      generalize ys.getD j 0 = y at *
      have kb : -100140049 ≤ k * y ∧ k * y ≤ 100140049 := by
        rcases Int.le_total 0 k with h | h
        · have := mul_small h hk1 y0 (by omega : y ≤ 10007)
          omega
        · have := mul_small (show 0 ≤ -k by omega) (by omega) y0 (by omega : y ≤ 10007)
          rw [Int.neg_mul] at this
          omega
      have e0 : IntKind.i64.wrap (k * y) = k * y := wrap_in (by omega) (by omega)
      have e1 : IntKind.i64.wrap (x + k * y) = x + k * y := wrap_in (by omega) (by omega)
      have HMd := hidP (l1Mod_any (x + k * y) p wr.drew (by omega) (by omega))
      rw [Nat.zero_add] at hs hz qd
      generalize (partly (List.replicate n 0) (addL p xs k ys) j).getD j 0 = v0 at qd
      have HS := hidP hs
      clear hs hg hu hB kb
      go_wp2
      have hE : wr.drew = wr.drew := rfl
      (refine walkR_start (fun w' => w' = wr.drew) 15 (by kernel_rfl) ?_; simp only [numbered, List.take_succ_cons, List.take_zero, Nat.zero_add, Nat.reduceAdd, List.length_cons, List.length_nil])
      (repeat (first | (refine walkR_still (v := ?_) rfl (by decide +kernel) rfl (fun _ _ _ h => h) hE ?_ ?_; rotate_left; (focus (intro w' hw'; subst hw'; go_simp; all_goals (with_reducible rfl))); simp only [Act.put, List.setIfInBounds_toArray, List.set_cons_zero, List.set_cons_succ]) | (refine walkR_skip rfl (by decide +kernel) rfl (fun _ _ _ h => h) hE ?_; simp only [Act.put, List.setIfInBounds_toArray, List.set_cons_zero, List.set_cons_succ])))
      (refine walkR_only (fun w' => w' = wr.drew) rfl (by decide +kernel) rfl (fun _ h => h) ?_; intro K hK; go_simp; refine (HMd.out).mono ?_; rintro e w4 ⟨rfl, rfl⟩; refine hK _ _ (hE) ?_; clear hK K; (try simp only [Act.put, List.setIfInBounds_toArray, List.set_cons_zero, List.set_cons_succ]))
      (refine walkR_tail (by rfl) (by kernel_rfl) ?_; simp only [List.drop_succ_cons, List.drop_zero])
      go_wp2
      go_roundw
      case rel => exact ⟨j + 1, by omega, HS.out, by go_num⟩
      case measure => simp [intOf]; omega
    · have hu := HU.out
      obtain rfl : j = n := by omega
      rw [partly_all _ _ _ (by simp) LA.out] at hu
      have ho := hidP (hu.own HM.out)
      have hx := hidP (hu.below HX0.out (by omega) (fun b o e _ => by cases e; exact Nat.le_refl _))
      clear hu
      go_wp2
      go_ret
      exact ⟨_, rfl, ho.out, hx.out⟩
theorem l7Multiple_any (a' : Option Addr) (n c' : Nat) (ys : List Int) (k p : Int) (w : World) (h' : IntsAt w a' n ys) (hn : n ≤ 1000000)
    (hy : Res p ys) (hp0 : 1 ≤ p) (hp1 : p ≤ 10007) (hk0 : -10007 ≤ k) (hk1 : k ≤ 10007) :
    Calls Try.prog 91 #[.int .i64 p, .int .i64 k, .slice a' n c'] w fun e w' => ∃ b, e = .returned (.slice b n n) ∧ OwnI w' w.heap.size b n n (timesZ p k ys) ∧ Ext w w' := by
  have hm := OwnI.made w w.heap.size n (Nat.le_refl _) (by unfold maxLen; omega)
  have hmk := make_ints (n : Int) (by omega) (by omega)
  simp only [Int.toNat_natCast] at hmk
  have hx0 := Ext.alloc w (.cells (Array.replicate n (.int .i64 0)) 3)
  have HT := hidP (l7Times_any (some ⟨w.heap.size, 0, none⟩) a' n n c' (List.replicate n 0) ys k p _ hm.ints (h'.below hx0) hn (Res.zeros (by omega) n) hy hp0 hp1 hk0 hk1)
  have HL := hidP h'.len
  have HX0 := hidP hx0
  have hsz : w.heap.size ≤ (w.alloc (.cells (Array.replicate n (.int .i64 0)) 3)).heap.size := by simp
  clear hm hx0 h' hy
  go_enter Try.func91, Try.ntmps91
  go_wp2_with fail
  refine HT.out.mono ?_
  rintro e w1 ⟨b, rfl, ho, hx⟩
  have HO := hidP (ho.base hsz)
  have HX := hidP (HX0.out.trans hx)
  clear ho hx HT
  go_wp2
  go_ret
  refine ⟨_, rfl, ?_, HX.out⟩
  unfold timesZ
  rw [HL.out]
  exact HO.out
end Go.Proofs.Ytenlhfimdpcaoaa

namespace Go.Proofs.Ytenlhfimdpcaoaa
open Go.RowKit

def elB (p : Int) (d : Int) (xs : List Int) : Bool := decide ((xs.length : Int) = d) && resB p xs
set_option maxHeartbeats 2000000 in
theorem isElement_any (p d : Int) (ta : Option Addr) (tn tc : Nat) (a : Option Addr) (n c : Nat) (xs : List Int) (w : World) (h : IntsAt w a n xs) (hn : n ≤ 1000000000000) (hp : -1000000 ≤ p) (hp2 : p ≤ 1000000000000) :
    Calls Try.prog 81 #[algV p d ta tn tc, .slice a n c] w fun e w' => e = .returned (.bool (elB p d xs)) ∧ Ext w w' := by
  have hx0 := Ext.alloc w (.cells #[.int .i64 p, .int .i64 d, .slice ta tn tc] 24)
  have HAL := hidP (AlgAt.new w _ rfl p d ta tn tc 24)
  have HR := hidP (residues_any a n c xs p _ (h.below hx0) hn hp hp2)
  have HX := hidP hx0
  obtain rfl : xs.length = n := h.len
  clear h hx0
  obtain ⟨f0, f1, f2⟩ := HAL.out
  by_cases hd : (xs.length : Int) = d
  · have HE : Hid (elB p d xs = resB p xs) := by show _ = _; unfold elB; rw [decide_eq_true hd, Bool.true_and]
    rw [HE.out]
    go_enter Try.func81, Try.ntmps81
    go_wp2_with fail
    refine HR.out.mono ?_
    rintro e w1 ⟨rfl, hx1⟩
    go_wp2
    go_ret
    exact ⟨rfl, HX.out.trans hx1⟩
  · have HE : Hid (elB p d xs = false) := by show _ = _; unfold elB; rw [decide_eq_false hd, Bool.false_and]
    rw [HE.out]
    go_enter Try.func81, Try.ntmps81
    go_wp2
    go_ret
    exact ⟨rfl, HX.out⟩
set_option maxHeartbeats 2000000 in
theorem l2Vector_any (p d : Int) (ta : Option Addr) (tn tc : Nat) (a : Option Addr) (n c : Nat) (xs : List Int) (w : World) (h : IntsAt w a n xs) (hn : n ≤ 1000000000000) (_hp : 1 ≤ p) (_hp2 : p ≤ 1000000) :
    Calls Try.prog 87 #[algV p d ta tn tc, .slice a n c] w fun e w' => e = .returned (.bool (elB p d xs)) ∧ Ext w w' := by
  have hx0 := Ext.alloc w (.cells #[.int .i64 p, .int .i64 d, .slice ta tn tc] 24)
  have HAL := hidP (AlgAt.new w _ rfl p d ta tn tc 24)
  have HR := hidP (l1Residues_any a n c xs p _ (h.below hx0) hn)
  have HX := hidP hx0
  obtain rfl : xs.length = n := h.len
  clear h hx0
  obtain ⟨f0, f1, f2⟩ := HAL.out
  by_cases hd : (xs.length : Int) = d
  · have HE : Hid (elB p d xs = resB p xs) := by show _ = _; unfold elB; rw [decide_eq_true hd, Bool.true_and]
    rw [HE.out]
    go_enter Try.func87, Try.ntmps87
    go_wp2_with fail
    refine HR.out.mono ?_
    rintro e w1 ⟨rfl, rfl⟩
    go_wp2
    go_ret
    exact ⟨rfl, HX.out⟩
  · have HE : Hid (elB p d xs = false) := by show _ = _; unfold elB; rw [decide_eq_false hd, Bool.false_and]
    rw [HE.out]
    go_enter Try.func87, Try.ntmps87
    go_wp2
    go_ret
    exact ⟨rfl, HX.out⟩
end Go.Proofs.Ytenlhfimdpcaoaa

namespace Go.Proofs.Ytenlhfimdpcaoaa
open Go.RowKit

def InRows (p : Int) (d : Nat) (A B : List (List Int)) : Prop := ∀ x ∈ A, InSp p d B (rowF x)
theorem inRows_at {p : Int} {d : Nat} {A B : List (List Int)} : InRows p d A B ↔ ∀ i, i < A.length → InSp p d B (rowF (A.getD i [])) := by
  constructor
  · intro h i hi
    refine h _ ?_
    rw [List.getD_eq_getElem?_getD, List.getElem?_eq_getElem hi]
    exact List.getElem_mem hi
  · intro h x hx
    obtain ⟨i, hi, rfl⟩ := List.mem_iff_getElem.1 hx
    have := h i hi
    rwa [List.getD_eq_getElem?_getD, List.getElem?_eq_getElem hi] at this
theorem InSp.mem {p : Int} {d : Nat} {A : List (List Int)} {x : List Int} (h : x ∈ A) : InSp p d A (rowF x) := inRows_at.2 (fun _ hi => InSp.row hi) x h
theorem InRows.trans {p : Int} {d : Nat} {A B C : List (List Int)} (h : InRows p d A B) (k : InRows p d B C) : InRows p d A C := fun x hx => (h x hx).trans (inRows_at.1 k)
/-- sums that end early -/
theorem sumTo_cut {n r : Nat} (hr : r ≤ n) {f : Nat → Int} (h : ∀ i, r ≤ i → i < n → f i = 0) : sumTo n f = sumTo r f := by
  induction n with
  | zero =>
    obtain rfl : r = 0 := by omega
    rfl
  | succ n ih =>
    by_cases e : r = n + 1
    · rw [e]
    · simp only [sumTo]
      rw [ih (by omega) fun i h1 h2 => h i h1 (by omega), h n (by omega) (by omega), Int.add_zero]
theorem span_sp {p : Int} (hp : primeB p = true) {d : Nat} {A : List (List Int)} (hA : Rows p d A) : InRows p d (spanL p d A) A ∧ InRows p d A (spanL p d A) := by
  obtain ⟨a1, a2⟩ := red_all hp hA d (Nat.le_refl _)
  have hp0 : 0 < p := by have := (prime_bounds hp).1; omega
  have hok := redTo_ok hp0 hA d
  have hpn := hok.pn
  have hln := hok.len
  constructor
  · intro x hx
    exact (InSp.mem (List.mem_of_mem_take hx)).trans a2.right
  · intro x hx
    have h1 := (InSp.mem (p := p) (d := d) hx).trans a2.left
    obtain ⟨c, hc⟩ := h1
    refine ⟨c, fun j hj => ?_⟩
    rw [hc j hj, sumTo_cut (r := (redTo p A d).2.length) (by omega) fun i h1 h2 => by
      have := a1.rest i h1 h2 j hj
      unfold entN at this
      rw [this, Int.mul_zero]]
    have e : (spanL p d A).length = (redTo p A d).2.length := by unfold spanL; rw [List.length_take]; omega
    rw [e]
    congr 1
    refine sumTo_congr fun i hi => ?_
    congr 2
    unfold spanL
    simp only [List.getD_eq_getElem?_getD, List.getElem?_take]
    rw [if_pos hi]
theorem sumTo_swap3 (n m k : Nat) (f : Nat → Nat → Nat → Int) : sumTo n (fun i => sumTo m fun j => sumTo k fun l => f i j l) = sumTo k fun l => sumTo n fun i => sumTo m fun j => f i j l := by
  rw [sumTo_congr (g := fun i => sumTo k fun l => sumTo m fun j => f i j l) fun i _ => sumTo_swap m k _, sumTo_swap]
/-- the bracket with a combination is a combination of brackets -/
theorem br_sp {p : Int} {t : List Int} {d : Nat} {B : List (List Int)} (x : List Int) {v : List Int} (h : InSp p d B (rowF v)) : InSp p d (B.map (brL p t d x)) (rowF (brL p t d x v)) := by
  obtain ⟨c, hc⟩ := h
  refine ⟨c, fun m hm => ?_⟩
  unfold rowF brL at *
  rw [modL_get _ _ _ _ hm, Int.emod_emod, List.length_map]
  have e1 : (sumTo d fun i => sumTo d fun j => x.getD i 0 * v.getD j 0 * tab t d i j m) % p = (sumTo d fun i => sumTo d fun j => sumTo B.length fun l => c l * (x.getD i 0 * (B.getD l []).getD j 0 * tab t d i j m)) % p := by
    refine sumTo_modC fun i _ => sumTo_modC fun j hj => ?_
    have e2 : x.getD i 0 * v.getD j 0 * tab t d i j m = (x.getD i 0 * tab t d i j m) * v.getD j 0 := by
      rw [Int.mul_assoc, Int.mul_assoc, Int.mul_comm (v.getD j 0)]
    rw [e2, Int.mul_emod, hc j hj, ← Int.mul_emod, sumTo_mulL]
    congr 1
    refine sumTo_congr fun l _ => ?_
    simp only [Int.mul_assoc, Int.mul_left_comm, Int.mul_comm]
  rw [e1, sumTo_swap3]
  refine sumTo_modC fun l hl => ?_
  have e3 : ((B.map fun y => modL p d fun k => sumTo d fun i' => sumTo d fun j' => x.getD i' 0 * y.getD j' 0 * tab t d i' j' k).getD l []).getD m 0 = (sumTo d fun i => sumTo d fun j => x.getD i 0 * (B.getD l []).getD j 0 * tab t d i j m) % p := by
    have e4 : (B.map fun y => modL p d fun k => sumTo d fun i' => sumTo d fun j' => x.getD i' 0 * y.getD j' 0 * tab t d i' j' k).getD l [] = modL p d fun k => sumTo d fun i' => sumTo d fun j' => x.getD i' 0 * (B.getD l []).getD j' 0 * tab t d i' j' k := by
      simp [List.getD_eq_getElem?_getD, hl]
    rw [e4, modL_get _ _ _ _ hm]
  rw [e3, mul_emod_r]
  congr 1
  rw [sumTo_mulL]
  exact sumTo_congr fun i _ => (sumTo_mulL d _ _).symm
theorem prodTo_mem {p : Int} {t : List Int} {d : Nat} {S T : List (List Int)} {x : List Int} : ∀ i, x ∈ prodTo p t d S T i T.length ↔ ∃ k, k ≤ i ∧ ∃ u ∈ T, x = brL p t d (S.getD k []) u
  | 0 => by
    simp only [prodTo, List.take_length, List.mem_map]
    constructor
    · rintro ⟨u, hu, rfl⟩
      exact ⟨0, Nat.le_refl _, u, hu, rfl⟩
    · rintro ⟨k, hk, u, hu, rfl⟩
      obtain rfl : k = 0 := by omega
      exact ⟨u, hu, rfl⟩
  | i + 1 => by
    simp only [prodTo, List.take_length, List.mem_append, List.mem_map]
    rw [prodTo_mem i]
    constructor
    · rintro (⟨k, hk, u, hu, rfl⟩ | ⟨u, hu, rfl⟩)
      · exact ⟨k, by omega, u, hu, rfl⟩
      · exact ⟨i + 1, Nat.le_refl _, u, hu, rfl⟩
    · rintro ⟨k, hk, u, hu, rfl⟩
      by_cases e : k = i + 1
      · subst e
        exact .inr ⟨u, hu, rfl⟩
      · exact .inl ⟨k, by omega, u, hu, rfl⟩
theorem prodAll_mem {p : Int} {t : List Int} {d : Nat} {S T : List (List Int)} {x : List Int} : x ∈ prodAll p t d S T ↔ ∃ k, k < S.length ∧ ∃ u ∈ T, x = brL p t d (S.getD k []) u := by
  unfold prodAll
  cases h : S.length with
  | zero =>
    constructor
    · intro h1
      simp [prodTo] at h1
    · rintro ⟨k, hk, _⟩
      omega
  | succ n =>
    rw [← prodTo_row, prodTo_mem]
    constructor
    · rintro ⟨k, hk, r⟩
      exact ⟨k, by omega, r⟩
    · rintro ⟨k, hk, r⟩
      exact ⟨k, by omega, r⟩
/-- products with a smaller space are a smaller space -/
theorem prod_sp {p : Int} {t : List Int} {d : Nat} {S A B : List (List Int)} (h : InRows p d A B) : InRows p d (prodAll p t d S A) (prodAll p t d S B) := by
  intro x hx
  obtain ⟨k, hk, u, hu, rfl⟩ := prodAll_mem.1 hx
  refine (br_sp (S.getD k []) (h u hu)).trans (inRows_at.1 fun y hy => ?_)
  obtain ⟨w, hw, rfl⟩ := List.mem_map.1 hy
  exact InSp.mem (prodAll_mem.2 ⟨k, hk, w, hw, rfl⟩)
theorem unitTo_get (n : Nat) : ∀ k, k ≤ n → ∀ i j, i < n → j < n → (unitTo n k).getD (i * n + j) 0 = if i < k ∧ i = j then 1 else 0
  | 0, _, i, j, hi, hj => by
    rw [if_neg (by omega)]
    unfold unitTo
    simp [List.getD_eq_getElem?_getD, place_lt hi hj]
  | k + 1, hk, i, j, hi, hj => by
    have ih := unitTo_get n k (by omega) i j hi hj
    have hlt : k * n + k < (unitTo n k).length := by rw [unitTo_length]; exact place_lt (by omega) (by omega)
    unfold unitTo
    rw [getD_setL _ _ _ _ _ hlt]
    by_cases e : k * n + k = i * n + j
    · have e1 : i = k := by
        have h1 := place_div (n := n) (i := k) (j := k) (by omega)
        have h2 := place_div (n := n) (i := i) (j := j) hj
        rw [e] at h1
        omega
      subst e1
      have e2 : i = j := by omega
      rw [if_pos e, if_pos ⟨by omega, e2⟩]
    · rw [if_neg e, ih]
      have : (i < k ∧ i = j) ↔ (i < k + 1 ∧ i = j) := by
        constructor
        · rintro ⟨a, b⟩; exact ⟨by omega, b⟩
        · rintro ⟨a, b⟩
          refine ⟨?_, b⟩
          subst b
          rcases Nat.lt_or_ge i k with h | h
          · exact h
          · obtain rfl : i = k := by omega
            exact absurd rfl e
      simp only [this]
theorem all_sp (p : Int) (d : Nat) (v : Nat → Int) : InSp p d (allL d) v := by
  refine ⟨v, fun j hj => ?_⟩
  have hl : (allL d).length = d := matRows_length _ _ _
  rw [hl, sumTo_congr (g := fun i => (if j = i then 1 else 0) * v i) fun i hi => by
    have e : ((allL d).getD i []).getD j 0 = if i = j then 1 else 0 := by
      unfold allL
      rw [matRows_get _ _ _ _ hi]
      have h1 := unitTo_get d d (Nat.le_refl _) i j hi hj
      simp only [List.getD_eq_getElem?_getD, List.getElem?_take, List.getElem?_drop, hj, if_true] at h1 ⊢
      rw [h1]
      by_cases e : i = j
      · rw [if_pos ⟨hi, e⟩, if_pos e]
      · rw [if_neg (fun h => e h.2), if_neg e]
    rw [e, Int.mul_comm]
    by_cases e2 : i = j
    · rw [if_pos e2, if_pos e2.symm]
    · rw [if_neg e2, if_neg (Ne.symm e2)], sumTo_only hj]
/-- a sequence that does not grow ends its fall -/
theorem fall_ends (a : Nat → Nat) (h : ∀ i, a (i + 1) ≤ a i) : ∃ m, m ≤ a 0 ∧ (∀ i, i < m → a (i + 1) ≠ a i) ∧ a (m + 1) = a m := by
  have key : ∀ n, (∃ m, m < n ∧ m ≤ a 0 ∧ (∀ i, i < m → a (i + 1) ≠ a i) ∧ a (m + 1) = a m) ∨ ((∀ i, i < n → a (i + 1) ≠ a i) ∧ a n + n ≤ a 0) := fun n => by
    induction n with
    | zero => exact .inr ⟨fun i hi => by omega, by omega⟩
    | succ n ih =>
      rcases ih with ⟨m, h1, h2⟩ | ⟨h1, h2⟩
      · exact .inl ⟨m, by omega, h2⟩
      · by_cases e : a (n + 1) = a n
        · exact .inl ⟨n, by omega, by omega, h1, e⟩
        · refine .inr ⟨fun i hi => ?_, by have := h n; omega⟩
          by_cases e2 : i = n
          · rw [e2]; exact e
          · exact h1 i (by omega)
  rcases key (a 0 + 1) with ⟨m, _, h2⟩ | ⟨_, h2⟩
  · exact ⟨m, h2⟩
  · omega
theorem low_in {p : Int} (hp : primeB p = true) (t : List Int) (d : Nat) : ∀ i, InRows p d (iterL (lowF p t d) (allL d) (i + 1)) (iterL (lowF p t d) (allL d) i)
  | 0 => fun x _ => all_sp p d _
  | i + 1 => by
    have hp0 : 0 < p := by have := (prime_bounds hp).1; omega
    have ih := low_in hp t d i
    have h1 : ∀ R, Rows p d (prodAll p t d (allL d) R) := fun R => prodTo_rows hp0 _ _ _ _ _ _
    have h2 := prod_sp (t := t) (S := allL d) ih
    exact ((span_sp hp (h1 _)).1.trans h2).trans (span_sp hp (h1 _)).2
/-- THE LAW: the lower series ends -/
theorem low_chain {p : Int} (hp : primeB p = true) (t : List Int) (d : Nat) : ∃ m, m ≤ d ∧ Chain (lowF p t d) (allL d) m := by
  have hp0 : 0 < p := by have := (prime_bounds hp).1; omega
  have h1 : ∀ R, Rows p d (prodAll p t d (allL d) R) := fun R => prodTo_rows hp0 _ _ _ _ _ _
  have hlen : ∀ R, (lowF p t d R).length = (redTo p (prodAll p t d (allL d) R) d).2.length := fun R => (spanL_rows hp0 (h1 R) d).2.1
  obtain ⟨m, h2, h3, h4⟩ := fall_ends (fun i => (iterL (lowF p t d) (allL d) i).length) fun i => by
    cases i with
    | zero =>
      show (lowF p t d (allL d)).length ≤ (allL d).length
      have := (prodL_ok hp0 t d (allL d) (allL d)).2
      have e : (allL d).length = d := matRows_length _ _ _
      rw [e]
      exact this
    | succ i =>
      show (lowF p t d (iterL (lowF p t d) (allL d) (i + 1))).length ≤ (lowF p t d (iterL (lowF p t d) (allL d) i)).length
      rw [hlen, hlen]
      exact rank_le hp (h1 _) (h1 _) (inRows_at.1 (prod_sp (low_in hp t d i)))
  refine ⟨m, ?_, h3, h4⟩
  have e : (allL d).length = d := matRows_length _ _ _
  have : m ≤ (allL d).length := h2
  omega
/-! ### the derived series -/
end Go.Proofs.Ytenlhfimdpcaoaa
