/-
  The reference's reduction: l1Reduce.
  What l1Reduce keeps: the numbers row by row, the matrix's block, the pivots. No walk yet.
  The reference's powers and inverses modulo a prime: l1Power, l1Inverse, InverseOf.
  Matrices in one list, number by number: the steps of the reference's reduction. No program in sight.
  The product of nilpotent elements: both sides' sums are the same; a matrix row by row in one list. No program in sight.
  The reference's matrix of some rows: l1Rows.
  A matrix in a block of its own: what stays when something else is written, what it holds when a field is set.
  Drawn plainest algebras are valid: closed facts. No program in sight.
  The example algebras, known by their series: a finite check.
  ExampleAlgebra of both packages, whole.
  IsUnimodular of the program.
  Adjoints and traces: (lie).adjoint, MatrixOk, TraceOf, IsUnimodular.
  The reference's matrix of a type of one part.
  The names of the types of one part: size and digit.
  The reference's free algebra: FreeAlgebra.
-/
import Derived.Test.YtenlhfimdpcaoaaGreatMb9
namespace Go.Proofs.YtenlhfimdpcaoaaGreat
open Go.RowKit

theorem freeRes_no {p L n : Int} (h : (primeB p && insB L 1 4 && insB n 1 8 && fitsF L.toNat n.toNat) = false) : freeRes p L n = (false, (0, 0, [])) := by
  unfold freeRes
  rw [h]
  rfl
theorem fits_less {M k : Nat} (h : fitsF M (k + 1) = true) : fitsF M k = true := by
  unfold fitsF at h ⊢
  rw [decide_eq_true_iff] at h ⊢
  omega
theorem fits_none {M k q : Nat} (h : fitsF M k = false) (hq : k ≤ q) : fitsF M q = false := by
  cases hh : fitsF M q with
  | false => rfl
  | true =>
    have : ∀ d, fitsF M (k + d) = true → fitsF M k = true := by
      intro d
      induction d with
      | zero => exact id
      | succ d ih => exact fun h => ih (fits_less h)
    rw [this (q - k) (by rw [show k + (q - k) = q by omega]; exact hh)] at h
    cases h
theorem fits_zero {M : Nat} (h1 : 1 ≤ M) (h4 : M ≤ 4) : fitsF M 0 = true := by
  unfold fitsF
  rw [decide_eq_true_iff]
  omega
theorem words_one : ∀ M : Nat, M < 5 → 1 ≤ M → 0 < (wordsZ M 1).length := by decide +kernel
theorem words_pos {M : Nat} (h1 : 1 ≤ M) (h4 : M ≤ 4) : ∀ k, 0 < (wordsZ M (k + 1)).length
  | 0 => words_one M (by omega) h1
  | k + 1 => by
    have := words_pos h1 h4 k
    show 0 < (wordsZ M (k + 1) ++ _).length
    rw [List.length_append]
    omega
theorem duv_few (L n : Nat) : ∀ i, (duvS L n i).1.length ≤ i
  | 0 => Nat.le_refl _
  | i + 1 => by
    have h1 := duv_few L n i
    by_cases h : (duvS L n i).2.length = 0
    · show ((if (duvS L n i).2.length = 0 then duvS L n i else _) : _ × _).1.length ≤ _
      rw [if_pos h]
      omega
    · rw [duvS_step h]
      show (if _ then _ else _ : List (List Int)).length ≤ _
      split
      · rw [List.length_append, List.length_singleton]; omega
      · omega
theorem duv_fits {M k : Nat} (h1 : 1 ≤ M) (h4 : M ≤ 4) (hk : k + 1 ≤ 8) (hf : fitsF M k = true) : (duvS M (k + 1) 60).2.length = 0 ∧ (duvS M (k + 1) 60).1 = lynTo M (k + 1) (M ^ (k + 1)) := by
  unfold fitsF at hf
  rw [decide_eq_true_iff] at hf
  exact duv_ok (by omega) (by omega)
set_option maxRecDepth 100000 in
set_option maxHeartbeats 8000000 in
theorem sFreeAlgebra_any (p L n : Int) (w : World) :
    Calls Tryz.prog 124 #[.int .i64 p, .int .i64 L, .int .i64 n] w fun e w' => ∃ a N c, e = .returned (.tuple #[algV (freeRes p L n).2.1 (freeRes p L n).2.2.1 a N c, .bool (freeRes p L n).1]) ∧ OwnI w' w.heap.size a N c (freeRes p L n).2.2.2 ∧ Ext w w' := by
  have hnew := fun w1 hx j => new_cell (w' := w1) (w := w) (cs := #[.int .i64 0, .int .i64 0, .slice none 0 0]) (E := 26) (b := w.heap.size) rfl hx j
  have hx0 := Ext.alloc w (.cells #[.int .i64 0, .int .i64 0, .slice none 0 0] 26)
  have HP := hidP (fun w' => sIsPrime_any p w')
  have HL := hidP (fun w' => l1In_any L 1 4 w')
  have HNn := hidP (fun w' => l1In_any n 1 8 w')
  have HNW := hidP hnew
  have HX0 := hidP hx0
  clear hnew hx0
  go_enter Tryz.func124, Tryz.ntmps124
  go_wp2_with fail
  obtain ⟨w0, hw0⟩ : ∃ w0, w0 = w.alloc (.cells #[.int .i64 0, .int .i64 0, .slice none 0 0] 26) := ⟨_, rfl⟩
  rw [← hw0] at HNW HX0 ⊢
  clear hw0
  refine (HP.out w0).mono ?_
  rintro e w1 ⟨rfl, rfl⟩
  cases hp : primeB p with
  | false =>
    have HR := hidP (freeRes_no (p := p) (L := L) (n := n) (by rw [hp]; rfl))
    obtain ⟨r0, y0⟩ := HNW.out w0 (Ext.refl _) 0
    obtain ⟨r1, y1⟩ := HNW.out w0 (Ext.refl _) 1
    obtain ⟨r2, y2⟩ := HNW.out w0 (Ext.refl _) 2
    have r0 := r0.trans (show _ = some (Value.int .i64 0) from rfl)
    have r1 := r1.trans (show _ = some (Value.int .i64 0) from rfl)
    have r2 := r2.trans (show _ = some (Value.slice none 0 0) from rfl)
    go_wp2
    refine bodyPost_ret (v := .tuple #[algV 0 0 none 0 0, .bool false]) (by simp [results, Tryz.results124, go_sem, r0, r1, r2]) rfl ?_
    rw [HR.out]
    exact ⟨none, 0, 0, rfl, OwnI.nil _ _, Ext.setNew (Ext.setNew (Ext.setNew HX0.out _ _ (Nat.le_refl _) _) _ _ (Nat.le_refl _) _) _ _ (Nat.le_refl _) _⟩
  | true =>
    have HPt := hidP hp
    go_wp2_with fail
    refine (HL.out w0).mono ?_
    rintro e w1 ⟨rfl, rfl⟩
    cases hl : insB L 1 4 with
    | false =>
      have HR := hidP (freeRes_no (p := p) (L := L) (n := n) (by rw [hl, Bool.and_false]; rfl))
      obtain ⟨r0, y0⟩ := HNW.out w0 (Ext.refl _) 0
      obtain ⟨r1, y1⟩ := HNW.out w0 (Ext.refl _) 1
      obtain ⟨r2, y2⟩ := HNW.out w0 (Ext.refl _) 2
      have r0 := r0.trans (show _ = some (Value.int .i64 0) from rfl)
      have r1 := r1.trans (show _ = some (Value.int .i64 0) from rfl)
      have r2 := r2.trans (show _ = some (Value.slice none 0 0) from rfl)
      go_wp2
      refine bodyPost_ret (v := .tuple #[algV 0 0 none 0 0, .bool false]) (by simp [results, Tryz.results124, go_sem, r0, r1, r2]) rfl ?_
      rw [HR.out]
      exact ⟨none, 0, 0, rfl, OwnI.nil _ _, Ext.setNew (Ext.setNew (Ext.setNew HX0.out _ _ (Nat.le_refl _) _) _ _ (Nat.le_refl _) _) _ _ (Nat.le_refl _) _⟩
    | true =>
      have HLt := hidP hl
      go_wp2_with fail
      refine (HNn.out w0).mono ?_
      rintro e w1 ⟨rfl, rfl⟩
      cases hnn : insB n 1 8 with
      | false =>
        have HR := hidP (freeRes_no (p := p) (L := L) (n := n) (by rw [hnn, Bool.and_false]; rfl))
        obtain ⟨r0, y0⟩ := HNW.out w0 (Ext.refl _) 0
        obtain ⟨r1, y1⟩ := HNW.out w0 (Ext.refl _) 1
        obtain ⟨r2, y2⟩ := HNW.out w0 (Ext.refl _) 2
        have r0 := r0.trans (show _ = some (Value.int .i64 0) from rfl)
        have r1 := r1.trans (show _ = some (Value.int .i64 0) from rfl)
        have r2 := r2.trans (show _ = some (Value.slice none 0 0) from rfl)
        go_wp2
        refine bodyPost_ret (v := .tuple #[algV 0 0 none 0 0, .bool false]) (by simp [results, Tryz.results124, go_sem, r0, r1, r2]) rfl ?_
        rw [HR.out]
        exact ⟨none, 0, 0, rfl, OwnI.nil _ _, Ext.setNew (Ext.setNew (Ext.setNew HX0.out _ _ (Nat.le_refl _) _) _ _ (Nat.le_refl _) _) _ _ (Nat.le_refl _) _⟩
      | true =>
        have HNt := hidP hnn
        obtain ⟨l1, l4⟩ := insB_true.1 hl
        obtain ⟨n1, n8⟩ := insB_true.1 hnn
        obtain ⟨M, rfl⟩ := Int.eq_ofNat_of_zero_le (show 0 ≤ L by omega)
        obtain ⟨q, rfl⟩ := Int.eq_ofNat_of_zero_le (show 0 ≤ n by omega)
        have HO := hidP (OwnK.made0 rowK w0)
        have hE : rowK.E = 24 := rfl
        rw [hE] at HO
        have HX := hidP (Ext.alloc w0 (.cells #[] 24))
        clear hE hp hl hnn HP HL HNn
        have HF0 := hidP (fits_zero (M := M) (by omega) (by omega))
        go_wp2
        go_loopw [8, 9] (fun v8 v9 wr => ∃ (k : Nat) (av : Option Addr) (nv cv : Nat) (hv : List Hdr), k ≤ q ∧ v9 = .int .i64 ((k + 1 : Nat) : Int) ∧ v8 = .slice av nv cv ∧ Hid (fitsF M k = true) ∧ Hid (OwnK rowK wr w0.heap.size wr.heap.size av nv cv hv (wordsZ M k)) ∧ Hid (Ext w0 wr) ∧ Hid (av ≠ none)) (fun _ v9 _ => q + 1 - (intOf v9).toNat)
        case atStart => exact ⟨0, _, 0, 0, [], Nat.zero_le _, rfl, rfl, HF0, HO, HX, by show _ ≠ _; simp⟩
        case round =>
          clear HO HX HF0
          obtain ⟨k, av, nv, cv, hv, hk, rfl, rfl, HFt, HO, HX, HNn⟩ := hrel
          by_cases hkq : k < q
          · obtain ⟨hd1, hd2⟩ := duv_fits (M := M) (k := k) (by omega) (by omega) (by omega) HFt.out
            have HWs := hidP (l11LyndonWords_any 60 M (k + 1) wr (by omega) (by omega) (by omega) (by omega) (by omega) hd1)
            rw [hd2] at HWs
            have hd3 := duv_few M (k + 1) 60
            rw [hd2] at hd3
            have hw28 := words_len (L := M) (n := k) (by omega) (by omega) (by omega) HFt.out
            have hxl := HO.out.xl
            have HWz : Hid (wordsZ M (k + 1) = wordsZ M k ++ lynTo M (k + 1) (M ^ (k + 1))) := rfl
            have HW28 := hidP hw28
            have hle : ((k + 1 : Nat) : Int) ≤ (q : Int) := by omega
            clear hd1 hd2 hw28
            generalize lynTo M (k + 1) (M ^ (k + 1)) = lw at *
            go_wp2_with fail
            refine HWs.out.mono ?_
            rintro e w4 ⟨g4, m4, c4, hs4, rfl, ho4, hx4⟩
            have hm4 := ho4.xl
            have hm60 : m4 ≤ 60 := by omega
            have hnv28 : nv ≤ 28 := by have := HW28.out.1; omega
            have HO4 := hidP (HO.out.below hx4)
            have HL4 := hidP (ho4.weaken (B' := w0.heap.size) HX.out.size (Nat.le_refl _))
            have HX4 := hidP (HX.out.trans hx4)
            have HAp : Hid (∀ i j, i < nv → j < m4 → Apart (hv.getD i (none, 0)).1 (hs4.getD j (none, 0)).1) := by
              intro i j hi hj b o b' o' e e'
              have h1 := HO.out.lt i hi b o e
              have h2 := ((ho4.each j hj).at_base b' o' e').1
              omega
            clear ho4 hx4 HWs hd3
            have hpos : 0 < nv + m4 := by
              have h1 := words_pos (M := M) (by omega) (by omega) k
              rw [HWz.out, List.length_append] at h1
              omega
            have hwl : (wordsZ M (k + 1)).length = nv + m4 := by rw [HWz.out, List.length_append]; omega
            clear hm4 hxl
            cases hfk : fitsF M (k + 1) with
            | true =>
              have hw2 := words_len (L := M) (n := k + 1) (by omega) (by omega) (by omega) hfk
              have hgt : ¬ (28 < (nv + m4 : Nat)) := by omega
              have hgtI : ¬ ((28 : Int) < (nv : Int) + (m4 : Int)) := by omega
              have HFt2 := hidP hfk
              clear hw2 hwl hfk
              go_wp2_with (at_builtin; refine wpList_append_elems rowK 74 (.slice none 0 0) 24 rfl (.tmp 37) (.tmp 40) rfl Tryz.underlying74 Tryz.info24 rfl (by omega) w0.heap.size _ _ av nv cv hv hs4 _ lw rfl HO4.out g4 m4 c4 rfl HL4.out HAp.out (by omega) HNn.out HX4.out.size ?_; intro a5 c5 w5 ho5 hg5 hn5; have HX5 : Hid (Ext w0 w5) := HO4.out.below_grown hg5 HX4.out HX4.out.size; have HN6 : Hid (a5 ≠ none) := ho5.someOf hpos; have HO5 := hidP ho5; clear ho5 hg5 hn5)
              have HO6 : Hid (OwnK rowK w5 w0.heap.size w5.heap.size a5 (nv + m4) c5 (hv ++ hs4) (wordsZ M (k + 1))) := by
                show OwnK _ _ _ _ _ _ _ _ _
                rw [HWz.out]
                exact HO5.out
              go_roundw
              case rel => exact ⟨k + 1, a5, nv + m4, c5, hv ++ hs4, by omega, by go_num, rfl, HFt2, HO6, HX5, HN6⟩
              case measure => simp [intOf]; omega
            | false =>
              have hw2 := HW28.out.2 hfk (by omega)
              have hgt : 28 < nv + m4 := by omega
              have hgtI : (28 : Int) < (nv : Int) + (m4 : Int) := by omega
              have HR := hidP (freeRes_no (p := p) (L := M) (n := q) (by
                have := fits_none hfk (show k + 1 ≤ q by omega)
                show (primeB p && insB (M : Int) 1 4 && insB (q : Int) 1 8 && fitsF M q) = false
                rw [this, Bool.and_false]))
              clear hw2 hwl hfk
              go_wp2_with (at_builtin; refine wpList_append_elems rowK 74 (.slice none 0 0) 24 rfl (.tmp 37) (.tmp 40) rfl Tryz.underlying74 Tryz.info24 rfl (by omega) w0.heap.size _ _ av nv cv hv hs4 _ lw rfl HO4.out g4 m4 c4 rfl HL4.out HAp.out (by omega) HNn.out HX4.out.size ?_; intro a5 c5 w5 ho5 hg5 hn5; have HX5 : Hid (Ext w0 w5) := HO4.out.below_grown hg5 HX4.out HX4.out.size; have HN6 : Hid (a5 ≠ none) := ho5.someOf hpos; have HO5 := hidP ho5; obtain ⟨r0, y0⟩ := HNW.out w5 HX5.out 0; obtain ⟨r1, y1⟩ := HNW.out w5 HX5.out 1; obtain ⟨r2, y2⟩ := HNW.out w5 HX5.out 2; have r0 := r0.trans (show _ = some (Value.int .i64 0) from rfl); have r1 := r1.trans (show _ = some (Value.int .i64 0) from rfl); have r2 := r2.trans (show _ = some (Value.slice none 0 0) from rfl); clear ho5 hg5 hn5)
              refine bodyPost_ret (v := .tuple #[algV 0 0 none 0 0, .bool false]) (by simp [results, Tryz.results124, go_sem, r0, r1, r2]) rfl ?_
              rw [HR.out]
              exact ⟨none, 0, 0, rfl, OwnI.nil _ _, Ext.setNew (Ext.setNew (Ext.setNew (HX0.out.trans HX5.out) _ _ (Nat.le_refl _) _) _ _ (Nat.le_refl _) _) _ _ (Nat.le_refl _) _⟩
          · obtain rfl : k = q := by omega
            have HFr := hidP (free_ok (free_fits HFt.out))
            have HRs : Hid (freeRes p (M : Int) (k : Int) = (true, (p, ((wordsZ M k).length : Int), frTab p M k))) := by
              show _ = _
              unfold freeRes
              rw [if_pos]
              · rfl
              · show (primeB p && insB (M : Int) 1 4 && insB (k : Int) 1 8 && fitsF M k) = true
                rw [HPt.out, HLt.out, HNt.out, HFt.out]
                rfl
            have hpb := prime_bounds HPt.out
            have hxl := HO.out.xl
            have hw28 : nv ≤ 28 := by have := (words_len (L := M) (n := k) (by omega) (by omega) (by omega) HFt.out).1; omega
            have HWd := hidP (fun w' (hx : Ext wr w') => HO.out.rowsI.below hx)
            have HWo := hidP (fun w' (hx : Ext wr w') => HO.out.below hx)
            have HWl := hidP (fun s (hs : s < nv) => words_at (L := M) (n := k) (k := s) (by omega) (by omega))
            have HNw : Hid ((wordsZ M k).length = nv) := hxl
            obtain ⟨wo, rfl⟩ : ∃ wo : World, wo = wr := ⟨_, rfl⟩
            have HS0 := hidP (OwnPs.made wo)
            have HXs := hidP (Ext.alloc wo (.cells #[] 136))
            have HXo := hidP HX.out
            have hknot : ¬ ((k + 1 : Nat) : Int) ≤ (k : Int) := by omega
            clear hxl HX HNn HFt HO hkq
            go_wp2
            go_loopw [10, 11] (fun v10 v11 wr => ∃ (s : Nat) (sa : Option Addr) (sc : Nat) (ps : List PEl), s ≤ nv ∧ v10 = .slice sa s sc ∧ v11 = .int .i64 s ∧ Hid (OwnPs wr wo.heap.size sa s sc ps) ∧ Hid (ps.map PEl.q = (frM p M k).take s) ∧ Hid (Ext wo wr)) (fun _ v11 _ => nv - (intOf v11).toNat)
            case atStart => exact ⟨0, _, 0, [], Nat.zero_le _, rfl, rfl, HS0, rfl, HXs⟩
            case round =>
              clear HS0 HXs
              obtain ⟨s, sa, sc, ps, hs, rfl, rfl, HS, HPq, HX2⟩ := hrel
              by_cases hsn : s < nv
              · obtain ⟨l1, l2⟩ := HWl.out s hsn
                obtain ⟨gv, bv, cw, rfl, hoW, hc1, hc2, hcW⟩ := (HWo.out wr HX2.out).rowAtF s hsn (by omega)
                have hFm := frM_at p (L := M) (n := k) (k := s) (by rw [HNw.out]; exact hsn)
                generalize hWd : (wordsZ M k).getD s [] = W at *
                have HFm := hidP hFm
                have hSm := l11Sum_any p hpb.1 hpb.2 8 bv 0 W.length cw W wr hoW.ints hc1 hc2 l1 (by omega) (by omega)
                have HSm := hidP hSm
                have hsI : (s : Int) < (nv : Int) := by omega
                have HTop := hidP (fun f (hf : f ∈ ps) => (HS.out.each f hf).top)
                have HGl : Hid (∀ b o, sa = some ⟨b, o, none⟩ → b < wr.heap.size) := by
                  intro b o e
                  obtain ⟨g', e', _, h, _⟩ := HS.out.form
                  rw [e] at e'
                  cases e'
                  exact h
                clear hSm hoW hWd hFm
                go_wp2_with fail
                refine HSm.out.mono ?_
                rintro e w3 ⟨g3, q3, c3, hs3, rfl, ho3, hx3⟩
                have hxl := ho3.xl
                have hxa := Ext.alloc w3 (.cells #[.slice (some ⟨g3, 0, none⟩) q3 c3] 136)
                have HX4 := hidP (HX2.out.trans (hx3.trans hxa))
                have HS4 := hidP (HS.out.below (hx3.trans hxa))
                have HEl : Hid (PEl.Ok (w3.alloc (.cells #[.slice (some ⟨g3, 0, none⟩) q3 c3] 136)) wo.heap.size ⟨wr.heap.size, w3.heap.size, some ⟨g3, 0, none⟩, c3, hs3, sumF p 8 W⟩) :=
                  ⟨by show OwnK _ _ _ _ _ (sumF p 8 W).length _ _ _; rw [hxl]; exact ho3.below hxa, HX2.out.size, hx3.size, hxa.size⟩
                have HCe : Hid ((w3.alloc (.cells #[.slice (some ⟨g3, 0, none⟩) q3 c3] 136)).cell? ⟨w3.heap.size, 0, none⟩ = some (PEl.val ⟨wr.heap.size, w3.heap.size, some ⟨g3, 0, none⟩, c3, hs3, sumF p 8 W⟩)) := by
                  refine (cell_top _ _ _ _ _ rfl).trans ?_
                  show _ = some (Value.slice _ (sumF p 8 W).length _)
                  rw [hxl]
                  rfl
                clear hx3 ho3 hxa hxl HSm
                go_wp2_with (at_builtin; refine wpList_append_path rfl (.tmp 53) (.tmp 60) rfl wo.heap.size _ s sc ps rfl HS4.out w3.heap.size 1 _ rfl HCe.out HEl.out (fun f hf => HTop.out f hf) (fun b o e => .inl (HGl.out b o e)) (by omega) HX4.out.size ?_; intro a7 c7 w7 ho7 hg7 hn7; have HO7 := hidP ho7; have HX7 := hidP (HS4.out.ext hg7 HX4.out (Nat.le_refl _)); clear ho7 hg7 hn7)
                have HP7 : Hid ((ps ++ [PEl.mk wr.heap.size w3.heap.size (some ⟨g3, 0, none⟩) c3 hs3 (sumF p 8 W)]).map PEl.q = (frM p M k).take (s + 1)) := by
                  show _ = _
                  have hl : s < (frM p M k).length := by rw [frM_length, HNw.out]; exact hsn
                  rw [List.map_append, HPq.out, List.take_succ_eq_append_getElem hl]
                  congr 1
                  have := HFm.out
                  rw [List.getD_eq_getElem?_getD, List.getElem?_eq_getElem hl] at this
                  simp only [Option.getD_some] at this
                  rw [this]
                  rfl
                go_roundw
                case rel => exact ⟨s + 1, a7, c7, _, by omega, rfl, by go_num, HO7, HP7, HX7⟩
                case measure => simp [intOf]; omega
              · obtain rfl : s = nv := by omega
                have hsum : SumsAt wr sa s (frM p M k) := by
                  refine HS.out.sums ?_
                  rw [HPq.out, List.take_of_length_le (by rw [frM_length, HNw.out]; exact Nat.le_refl _)]
                have HSum := hidP (fun w' (hx : Ext wr w') => hsum.below hx)
                obtain ⟨w2, rfl⟩ : ∃ w2 : World, w2 = wr := ⟨_, rfl⟩
                have HAb := hidP (sAbelian_ok p (s : Int) w2 HPt.out (by omega) (by omega))
                obtain ⟨N3, hN3⟩ : ∃ N3, N3 = ((s : Int) * s * s).toNat := ⟨_, rfl⟩
                rw [← hN3] at HAb
                have HN3 : Hid (N3 = s * s * s) := by
                  show _ = _
                  rw [hN3, ← Int.natCast_mul, ← Int.natCast_mul, Int.toNat_natCast]
                have hssn : ¬ (s : Int) < (s : Int) := by omega
                clear hsum HS HPq hN3
                go_wp2_with fail
                refine HAb.out.mono ?_
                rintro e w3 ⟨a2, rfl, ho3, hx3⟩
                have hxa := Ext.alloc w3 (.cells #[.int .i64 p, .int .i64 (s : Int), .slice a2 N3 N3] 26)
                have HT0 : Hid (FreT w2 (w3.alloc (.cells #[.int .i64 p, .int .i64 (s : Int), .slice a2 N3 N3] 26)) w3.heap.size p s N3 a2 (tabF s (byTo p (frRow p M k) 0 0 0))) := by
                  refine ⟨AlgAt.new w3 _ rfl _ _ _ _ _ _, ?_, hx3.trans hxa, fun b o e => ?_⟩
                  · rw [byTo_start, ← HN3.out]
                    exact ho3.below hxa
                  · have := (ho3.at_base b o e).2
                    omega
                have HA2 := hidP (fun b o (e : a2 = some ⟨b, o, none⟩) => (ho3.at_base b o e).2)
                obtain ⟨bA, hbA⟩ : ∃ b, b = w3.heap.size := ⟨_, rfl⟩
                rw [← hbA] at HT0 HA2
                have HBA := hidP hbA
                clear ho3 hx3 hxa hbA HAb
                go_wp2
                try rw [← HBA.out]
                go_loopw [13] (fun v13 wr => ∃ (i : Nat), i ≤ s ∧ v13 = .int .i64 i ∧ Hid (FreT w2 wr bA p s N3 a2 (tabF s (byTo p (frRow p M k) i 0 0)))) (fun v13 _ => s - (intOf v13).toNat)
                case atStart => exact ⟨0, Nat.zero_le _, rfl, HT0⟩
                case round =>
                  clear HT0
                  obtain ⟨i, hi, rfl, HT⟩ := hrel
                  by_cases his : i < s
                  · go_wp2
                    go_loopw [14] (fun v14 wr => ∃ (j : Nat), j ≤ i ∧ v14 = .int .i64 j ∧ Hid (FreT w2 wr bA p s N3 a2 (tabF s (byTo p (frRow p M k) i j 0)))) (fun v14 _ => i - (intOf v14).toNat)
                    case atStart => exact ⟨0, Nat.zero_le _, rfl, HT⟩
                    case round =>
                      clear HT
                      obtain ⟨j, hj, rfl, HT⟩ := hrel
                      by_cases hji : j < i
                      · obtain ⟨li1, li2⟩ := HWl.out i his
                        obtain ⟨lj1, lj2⟩ := HWl.out j (by omega)
                        have hxw := HX2.out.trans HT.out.ext
                        obtain ⟨gv, bi, ci, rfl, hoi, _, _, hci⟩ := (HWo.out wr hxw).rowAtF i his (by omega)
                        obtain ⟨gv', bj, cj, hgv, hoj, _, _, hcj⟩ := (HWo.out wr hxw).rowAtF j (by omega) (by omega)
                        cases hgv
                        obtain ⟨gs, ai, qi, rfl, hsi, hti⟩ := (HSum.out wr HT.out.ext).get i his
                        obtain ⟨gs', aj, qj, hgs, hsj, htj⟩ := (HSum.out wr HT.out.ext).get j (by omega)
                        cases hgs
                        have hb1 := World.block_lt_of_cell? wr _ hci
                        have hb2 := World.block_lt_of_cell? wr _ hsi
                        have HF := hidP (fun w' (hx : Ext wr w') => (⟨(hx.cell (p := ⟨gv, i, none⟩) hb1).trans hci, (hx.cell (p := ⟨gv, j, none⟩) hb1).trans hcj, (hx.cell (p := ⟨gs, i, none⟩) hb2).trans hsi, (hx.cell (p := ⟨gs, j, none⟩) hb2).trans hsj⟩ : _ ∧ _ ∧ _ ∧ _))
                        have HPd : Hid (∀ w', Ext wr w' → Calls Tryz.prog 162 #[.int .i64 p, .slice ai ((frM p M k).getD i []).length qi, .slice aj ((frM p M k).getD j []).length qj] w' fun e w'' => ∃ g q c' hs, e = .returned (.slice (some ⟨g, 0, none⟩) q c') ∧ OwnK stepK w'' w'.heap.size w''.heap.size (some ⟨g, 0, none⟩) q c' hs (prodM p ((frM p M k).getD i []) ((frM p M k).getD j [])) ∧ Ext w' w'') := fun w' hx =>
                          l11Product_any p ai _ qi _ aj _ qj _ w' (hti.below hx) (htj.below hx) (by
                            have h8 := sum_few8 p li1 (by omega)
                            rw [← frM_at p (by rw [HNw.out]; exact his)] at h8
                            omega) (by
                            have h8 := sum_few8 p lj1 (by omega)
                            rw [← frM_at p (by rw [HNw.out]; omega)] at h8
                            omega) hpb.1 hpb.2 (fun q hq => by have := frM_num hpb.1 (L := M) (n := k) (m := i) (by omega) (by omega) (by rw [HNw.out]; exact his) hq; omega) (fun q hq => by have := frM_num hpb.1 (L := M) (n := k) (m := j) (by omega) (by omega) (by rw [HNw.out]; omega) hq; omega)
                        have HSt : Hid (((wordsZ M k).getD i []).length + ((wordsZ M k).getD j []).length ≤ k → ElimR p M k i j 0 (prodM p ((frM p M k).getD i []) ((frM p M k).getD j []))) := fun hl => elim_start hpb.1 (by omega) (by omega) HFr.out (by rw [HNw.out]; exact his) hji hl
                        have HNo : Hid (¬ ((wordsZ M k).getD i []).length + ((wordsZ M k).getD j []).length ≤ k → tabF s (byTo p (frRow p M k) i j 0) = tabF s (byTo p (frRow p M k) i (j + 1) 0)) := fun hl => byTo_past p s (frRow p M k) i j (elim_none p hl)
                        clear hoi hoj hci hcj hsi hsj hti htj hb1 hb2 hxw
                        generalize ((wordsZ M k).getD i []).length = li at *
                        generalize ((wordsZ M k).getD j []).length = lj at *
                        have e1 : IntKind.i64.wrap ((li : Int) + lj) = (li : Int) + lj := wrap_in (by omega) (by omega)
                        have hE : Ext wr wr.drew := Ext.drew wr
                        have q1 : (i : Int) < (s : Int) := by omega
                        have q2 : (j : Int) < (s : Int) := by omega
                        have q3 : (j : Int) < (i : Int) := by omega
                        by_cases hl : li + lj ≤ k
                        · have HS0 := hidP (HSt.out hl)
                          have q4 : (li : Int) + lj ≤ (k : Int) := by omega
                          clear hl HSt HNo
                          go_wp2
                          (refine walkR_start (fun w' => Ext wr w') 12 (by kernel_rfl) ?_; simp only [numbered, List.take_succ_cons, List.take_zero, Nat.zero_add, Nat.reduceAdd, List.length_cons, List.length_nil])
                          (repeat (first | (refine walkR_still (v := ?_) rfl (by decide +kernel) rfl (fun _ _ _ h => h) hE ?_ ?_; rotate_left; (focus (intro w' hw'; obtain ⟨f0, f1, f2, f3⟩ := HF.out w' hw'; go_simp; all_goals (with_reducible rfl))); simp only [Act.put, List.setIfInBounds_toArray, List.set_cons_zero, List.set_cons_succ]) | (refine walkR_skip rfl (by decide +kernel) rfl (fun _ _ _ h => h) hE ?_; simp only [Act.put, List.setIfInBounds_toArray, List.set_cons_zero, List.set_cons_succ])))
                          (refine walkR_tail (by rfl) (by kernel_rfl) ?_; simp only [List.drop_succ_cons, List.drop_zero])
                          have HFi : Hid (∀ w', Ext wr w' → w'.cell? ⟨gs, i, none⟩ = some (.slice ai ((frM p M k).getD i []).length qi) ∧ w'.cell? ⟨gs, j, none⟩ = some (.slice aj ((frM p M k).getD j []).length qj)) := fun w' hx => ⟨(HF.out w' hx).2.2.1, (HF.out w' hx).2.2.2⟩
                          have hE2 : Ext wr wr.drew.drew := hE.trans (Ext.drew _)
                          clear HF
                          go_wp2
                          (refine walkR_start (fun w' => Ext wr w') 10 (by kernel_rfl) ?_; simp only [numbered, List.take_succ_cons, List.take_zero, Nat.zero_add, Nat.reduceAdd, List.length_cons, List.length_nil])
                          (repeat (first | (refine walkR_still (v := ?_) rfl (by decide +kernel) rfl (fun _ _ _ h => h) hE2 ?_ ?_; rotate_left; (focus (intro w' hw'; obtain ⟨f2, f3⟩ := HFi.out w' hw'; go_simp; all_goals (with_reducible rfl))); simp only [Act.put, List.setIfInBounds_toArray, List.set_cons_zero, List.set_cons_succ]) | (refine walkR_skip rfl (by decide +kernel) rfl (fun _ _ _ h => h) hE2 ?_; simp only [Act.put, List.setIfInBounds_toArray, List.set_cons_zero, List.set_cons_succ])))
                          (refine walkR_only (fun w' => Ext wr w') rfl (by decide +kernel) rfl (fun _ h => h) ?_; intro K hK; go_simp; refine (HPd.out _ hE2).mono ?_; rintro e w4 ⟨g4, n4, c4, hs4, rfl, ho4, hx4⟩; refine hK _ _ (hE2.trans hx4) ?_; clear hK K; (try simp only [Act.put, List.setIfInBounds_toArray, List.set_cons_zero, List.set_cons_succ]))
                          have hE4 := hE2.trans hx4
                          (repeat (first | (refine walkR_still (v := ?_) rfl (by decide +kernel) rfl (fun _ _ _ h => h) hE4 ?_ ?_; rotate_left; (focus (intro w' hw'; skip; go_simp; all_goals (with_reducible rfl))); simp only [Act.put, List.setIfInBounds_toArray, List.set_cons_zero, List.set_cons_succ]) | (refine walkR_skip rfl (by decide +kernel) rfl (fun _ _ _ h => h) hE4 ?_; simp only [Act.put, List.setIfInBounds_toArray, List.set_cons_zero, List.set_cons_succ])))
                          (refine walkR_tail (by rfl) (by kernel_rfl) ?_; simp only [List.drop_succ_cons, List.drop_zero])
                          have hJ0 : FreJ p M k i j w2 wr bA s N3 a2 0 (.slice (some ⟨g4, 0, none⟩) n4 c4) w4 := ⟨Nat.zero_le _, _, _, _, hs4, _, rfl, ho4.weaken hE2.size (Nat.le_refl _), HS0.out, HT.out.below hE4, hE4.size⟩
                          have HJ0 := hidP hJ0
                          have HAt := hidP HT.out.own.at_base
                          have HTx := hidP HT.out.ext
                          clear hJ0 ho4 hx4 hE4 hE2 hE HPd HFi HS0 HT
                          obtain ⟨wj, rfl⟩ : ∃ wj : World, wj = wr := ⟨_, rfl⟩
                          go_wp2
                          go_loopw [15] (fun v15 wr => ∃ k0, FreJ p M k i j w2 wj bA s N3 a2 k0 v15 wr) (fun v15 wr => s - topN (fun k0 => FreJ p M k i j w2 wj bA s N3 a2 k0 v15 wr) s)
                          case atStart => exact ⟨0, HJ0.out⟩
                          case round =>
                            clear HJ0
                            obtain ⟨k0, hti, hJ⟩ := topJ (N := s) hrel (fun i h => h.le)
                            clear hrel
                            obtain ⟨hk0, ar, nr, cr, hsr, R, rfl, hoR, hel, hft, hsz⟩ := hJ
                            have HTi := hidP hti
                            have HOR := hidP hoR
                            have HEl := hidP hel
                            have HFt := hidP hft
                            have HSz := hidP hsz
                            have hRl := hoR.xl
                            clear hti hoR hel hft hsz
                            by_cases hnr : 0 < nr
                            · cases R with
                              | nil => simp at hRl; omega
                              | cons qq lr =>
                                obtain ⟨m, h0, hm, hw, hc, hbe, hz, hnx⟩ := elim_step hpb.1 (L := M) (by omega) (by omega) HFr.out HEl.out
                                have hnum := elim_num HEl.out (k := 0) (by simp)
                                have hTf := HFt.out.as (byTo_skip p s (frRow p M k) i j h0 hz)
                                rw [HNw.out] at hm
                                obtain ⟨bR, oR, aw, cw, W, L, rfl, HWy, HL, hwl, HNl, hq⟩ := HOR.out.stepsAt.way 0 hnr
                                have hw1 : qq.1 = W := HWy.out
                                have hL1 : qq.2 = L := HL.out
                                rw [HWy.out, HL.out] at hnum
                                rw [hw1] at hw hbe
                                rw [hL1] at hc hnx
                                obtain ⟨hw16, hL0, hLp⟩ := hnum
                                have HQ : Hid (∀ w', Ext wr w' → w'.cell? ⟨bR, oR, none⟩ = some (.slice aw W.length cw) ∧ w'.cell? ⟨bR, oR + 1, none⟩ = some (.int .i64 L)) := fun w' hx => ⟨by simpa using (hq w' hx).1, by simpa using (hq w' hx).2.1⟩
                                have HPl := hidP (l5Place_at _ s cv (wordsZ M k) aw W.length cw W wr (HWd.out wr (HX2.out.trans hTf.ext)) (hq wr (Ext.refl _)).2.2 (by omega) (by omega) (fun i hi => by have := HWl.out i hi; omega) m hm hw.symm hbe)
                                have hnx' : ElimR p M k i j (m + 1) (putsM p [] (joinE p (-L) (qq :: lr) ((frM p M k).getD m []))) := by rw [← Int.zero_sub]; exact hnx
                                have HNx := hidP hnx'
                                have HTf := hidP hTf
                                have HCc := hidP hc
                                have HH0 := hidP h0
                                have HEl2 : Hid (nr ≤ 100000) := by
                                  have h1 := HEl.out.few
                                  show nr ≤ 100000
                                  omega
                                have HEl3 : Hid (∀ q, q < nr → (wayAt (qq :: lr) q).length ≤ 1000000 ∧ 0 ≤ lenAt (qq :: lr) q ∧ lenAt (qq :: lr) q ≤ 10007) := by
                                  intro q hq
                                  have := elim_num HEl.out (k := q) (by omega)
                                  omega
                                have HL1 := hidP hL1
                                clear hq hw1 hL1 hw hbe hz hnx hnx' hTf hc h0 HFt HEl HWy HL HNl hwl
                                obtain ⟨qc0, qc1⟩ := HQ.out wr (Ext.refl _)
                                have hnrI : (0 : Int) < (nr : Int) := by omega
                                go_wp2_with fail
                                refine HPl.out.mono ?_
                                rintro e w5 ⟨rfl, hx5⟩
                                have HT5 := hidP (HTf.out.below hx5)
                                have HO5 := hidP (HOR.out.below hx5)
                                have HZ5 := hidP (Nat.le_trans HSz.out hx5.size)
                                have HQ5 := hidP (fun w' (hx : Ext w5 w') => HQ.out w' (hx5.trans hx))
                                have HAl5 := hidP (fun w' (hx : Ext w5 w') => (HT5.out.alg.below hx))
                                have hE : Ext w5 w5.drew := Ext.drew w5
                                have q5 : (m : Int) < (s : Int) := by omega
                                have hLb : L ≤ 10007 := by omega
                                have HS7 : Hid (∀ w', Ext w5 w' → Calls Tryz.prog 141 #[.agg #[.int .i64 p, .int .i64 (s : Int), .slice a2 N3 N3], .int .i64 i, .int .i64 j, .int .i64 m, .int .i64 L] w' fun e w'' => e = .returned (.tuple #[]) ∧ UpdI w' w'' a2 N3 (tabF s (byTo p (frRow p M k) i j (m + 1)))) := by
                                  intro w' hx
                                  have hb := (HT5.out.below hx)
                                  have h7 := l7Set_any p (s : Int) i j m L a2 N3 N3 _ w' hb.own.ints (by omega) (by omega) (by rw [HN3.out]; rw [Int.natCast_mul, Int.natCast_mul]) (by omega) (by omega) (by omega) (by omega) (by omega) (by omega) (by omega) (by omega) (by omega) (by omega) hb.own.unfrozen
                                  have t1 : (((i : Int) * s + j) * s + m).toNat = (i * s + j) * s + m := by
                                    rw [← Int.natCast_mul, ← Int.natCast_add, ← Int.natCast_mul, ← Int.natCast_add, Int.toNat_natCast]
                                  have t2 : (((j : Int) * s + i) * s + m).toNat = (j * s + i) * s + m := by
                                    rw [← Int.natCast_mul, ← Int.natCast_add, ← Int.natCast_mul, ← Int.natCast_add, Int.toNat_natCast]
                                  have hset := byTo_set p (n := s) (frRow p M k) (i := i) (j := j) (m := m) his hji hm
                                  rw [← HCc.out, Int.zero_sub] at hset
                                  rw [t1, t2, Int.emod_eq_of_lt (by omega) hLp, hset] at h7
                                  exact h7
                                clear hx5 HPl HTf HOR HSz HQ qc0 qc1
                                go_wp2
                                (refine walkR_start (fun w' => Ext w5 w') 8 (by kernel_rfl) ?_; simp only [numbered, List.take_succ_cons, List.take_zero, Nat.zero_add, Nat.reduceAdd, List.length_cons, List.length_nil])
                                (repeat (first | (refine walkR_still (v := ?_) rfl (by decide +kernel) rfl (fun _ _ _ h => h) hE ?_ ?_; rotate_left; (focus (intro w' hw'; obtain ⟨⟨f0, f1, f2⟩, ⟨f3, f4⟩⟩ := And.intro (HAl5.out w' hw') (HQ5.out w' hw'); go_simp; all_goals (with_reducible rfl))); simp only [Act.put, List.setIfInBounds_toArray, List.set_cons_zero, List.set_cons_succ]) | (refine walkR_skip rfl (by decide +kernel) rfl (fun _ _ _ h => h) hE ?_; simp only [Act.put, List.setIfInBounds_toArray, List.set_cons_zero, List.set_cons_succ])))
                                (refine walkR_tail (by rfl) (by kernel_rfl) ?_; simp only [List.drop_succ_cons, List.drop_zero])
                                have HO6 := hidP (HO5.out.below hE)
                                have HT6 := hidP (HT5.out.below hE)
                                have HZ6 : Hid (wj.heap.size ≤ w5.drew.heap.size) := Nat.le_trans HZ5.out hE.size
                                have HQ6 := hidP (HQ5.out _ hE)
                                have HC7 := hidP (HS7.out _ hE)
                                clear HO5 HT5 HZ5 HQ5 HAl5 HS7 hE
                                obtain ⟨w6, hw6⟩ : ∃ w6, w6 = w5.drew := ⟨_, rfl⟩
                                rw [← hw6] at HO6 HT6 HZ6 HQ6 HC7 ⊢
                                clear hw6
                                go_wp2_with fail
                                refine HC7.out.mono ?_
                                rintro e w7 ⟨rfl, hu7⟩
                                have HT7 := hidP (HT6.out.upd hu7)
                                have hO7 := HO6.out.others hu7 (fun b o b' o' e e' hbb => by
                                  have x1 := (HAt.out b o e).2
                                  have x2 := (HO6.out.base_lt b' o' e').1
                                  omega) (fun i hi b o b' o' e e' hbb => by
                                  have x1 := (HAt.out b o e).2
                                  have x2 := ((HO6.out.each i hi).at_base b' o' e').1
                                  omega)
                                have HO7 := hidP hO7
                                obtain ⟨b7, o7, aw7, cw7, e7, _, h72, _⟩ := hO7.stepsAt.get 0 hnr
                                cases e7
                                have h72 : w7.cell? ⟨bR, oR + 1, none⟩ = some (.int .i64 L) := by
                                  rw [Nat.zero_mul, Nat.add_zero] at h72
                                  rw [h72]
                                  exact congrArg (fun x => some (Value.int .i64 x)) HL1.out
                                obtain ⟨gs', am, qm, hgs, hsm, htm⟩ := (HSum.out w7 HT7.out.ext).get m hm
                                cases hgs
                                have hb3 := World.block_lt_of_cell? w7 _ h72
                                have hb4 := World.block_lt_of_cell? w7 _ hsm
                                have HF7 : Hid (∀ w', Ext w7 w' → w'.cell? ⟨bR, oR + 1, none⟩ = some (.int .i64 L) ∧ w'.cell? ⟨gs, m, none⟩ = some (.slice am ((frM p M k).getD m []).length qm)) := fun w' hx => ⟨(hx.cell (p := ⟨bR, oR + 1, none⟩) hb3).trans h72, (hx.cell (p := ⟨gs, m, none⟩) hb4).trans hsm⟩
                                have HZ7 : Hid (wj.heap.size ≤ w7.heap.size) := Nat.le_trans HZ6.out hu7.size
                                have hfew := HEl2.out
                                have HJn : Hid (∀ w', Ext w7 w' → Calls Tryz.prog 164 #[.int .i64 p, .slice (some ⟨bR, oR, none⟩) nr cr, .int .i64 (-L), .slice am ((frM p M k).getD m []).length qm] w' fun e w'' => ∃ g q c' hs, e = .returned (.slice (some ⟨g, 0, none⟩) q c') ∧ OwnK stepK w'' w'.heap.size w''.heap.size (some ⟨g, 0, none⟩) q c' hs (putsM p [] (joinE p (-L) (qq :: lr) ((frM p M k).getD m []))) ∧ Ext w' w'') := fun w' hx =>
                                  l11Join_any p _ nr cr (qq :: lr) (-L) am _ qm _ w' (hO7.stepsAt.below hx) (htm.below hx) hfew (by
                                    have h8 := sum_few8 p (HWl.out m hm).1 (by have := (HWl.out m hm).2; omega)
                                    rw [← frM_at p (by rw [HNw.out]; exact hm)] at h8
                                    omega) hpb.1 hpb.2 (fun q hq => HEl3.out q hq) (fun q hq => by have := frM_num hpb.1 (L := M) (n := k) (m := m) (by omega) (by omega) (by rw [HNw.out]; exact hm) hq; omega)
                                have e9 : IntKind.i64.wrap (0 - L) = -L := by rw [Int.zero_sub]; exact wrap_in (by omega) (by omega)
                                have e9' : IntKind.i64.wrap (-L) = -L := wrap_in (by omega) (by omega)
                                have hE : Ext w7 w7.drew := Ext.drew w7
                                clear hu7 hO7 h72 hsm htm hb3 hb4 HO6 HT6 HZ6 HQ6 HC7 hfew
                                go_wp2
                                (refine walkR_start (fun w' => Ext w7 w') 12 (by kernel_rfl) ?_; simp only [numbered, List.take_succ_cons, List.take_zero, Nat.zero_add, Nat.reduceAdd, List.length_cons, List.length_nil])
                                (repeat (first | (refine walkR_still (v := ?_) rfl (by decide +kernel) rfl (fun _ _ _ h => h) hE ?_ ?_; rotate_left; (focus (intro w' hw'; obtain ⟨f0, f1⟩ := HF7.out w' hw'; go_simp; all_goals (with_reducible rfl))); simp only [Act.put, List.setIfInBounds_toArray, List.set_cons_zero, List.set_cons_succ]) | (refine walkR_skip rfl (by decide +kernel) rfl (fun _ _ _ h => h) hE ?_; simp only [Act.put, List.setIfInBounds_toArray, List.set_cons_zero, List.set_cons_succ])))
                                (refine walkR_only (fun w' => Ext w7 w') rfl (by decide +kernel) rfl (fun _ h => h) ?_; intro K hK; go_simp; refine (HJn.out _ hE).mono ?_; rintro e w8 ⟨g8, n8, c8, hs8, rfl, ho8, hx8⟩; refine hK _ _ (hE.trans hx8) ?_; clear hK K; (try simp only [Act.put, List.setIfInBounds_toArray, List.set_cons_zero, List.set_cons_succ]))
                                have hE8 := hE.trans hx8
                                (repeat (first | (refine walkR_still (v := ?_) rfl (by decide +kernel) rfl (fun _ _ _ h => h) hE8 ?_ ?_; rotate_left; (focus (intro w' hw'; skip; go_simp; all_goals (with_reducible rfl))); simp only [Act.put, List.setIfInBounds_toArray, List.set_cons_zero, List.set_cons_succ]) | (refine walkR_skip rfl (by decide +kernel) rfl (fun _ _ _ h => h) hE8 ?_; simp only [Act.put, List.setIfInBounds_toArray, List.set_cons_zero, List.set_cons_succ])))
                                (refine walkR_tail (by rfl) (by kernel_rfl) ?_; simp only [List.drop_succ_cons, List.drop_zero])
                                have HJ8 : Hid (FreJ p M k i j w2 wj bA s N3 a2 (m + 1) (.slice (some ⟨g8, 0, none⟩) n8 c8) w8) := ⟨hm, _, _, _, hs8, _, rfl, ho8.weaken (Nat.le_trans HZ7.out hE.size) (Nat.le_refl _), HNx.out, HT7.out.below hE8, Nat.le_trans HZ7.out hE8.size⟩
                                clear ho8 hx8 hE8 hE HJn HF7 HNx HT7
                                go_wp2
                                go_roundw
                                case rel => exact ⟨m + 1, HJ8.out⟩
                                case measure =>
                                  have h1 := topN_ge (J := fun k0 => FreJ p M k i j w2 wj bA s N3 a2 k0 (.slice (some ⟨g8, 0, none⟩) n8 c8) w8) (i := m + 1) (n := s) HJ8.out hm
                                  have h2 := HTi.out
                                  have h3 := HH0.out
                                  have h4 := hm
                                  show _ - topN _ _ < _ - topN _ _
                                  omega
                            · obtain rfl : nr = 0 := by omega
                              have hR0 : R = [] := List.length_eq_zero_iff.1 hRl
                              subst hR0
                              have HT2 := hidP (HFt.out.as (byTo_past p s (frRow p M k) i j (elim_end HFr.out HEl.out)))
                              clear hRl HFt HEl HOR HTi
                              go_wp2
                              go_roundw
                              case rel => exact ⟨j + 1, by omega, by go_num, HT2⟩
                              case measure => simp [intOf]; omega
                        · have HT2 := hidP (HT.out.as (HNo.out hl))
                          have q4 : (k : Int) < (li : Int) + lj := by omega
                          clear hl HSt HPd HNo HT
                          go_wp2
                          (refine walkR_start (fun w' => Ext wr w') 12 (by kernel_rfl) ?_; simp only [numbered, List.take_succ_cons, List.take_zero, Nat.zero_add, Nat.reduceAdd, List.length_cons, List.length_nil])
                          (repeat (first | (refine walkR_still (v := ?_) rfl (by decide +kernel) rfl (fun _ _ _ h => h) hE ?_ ?_; rotate_left; (focus (intro w' hw'; obtain ⟨f0, f1, f2, f3⟩ := HF.out w' hw'; go_simp; all_goals (with_reducible rfl))); simp only [Act.put, List.setIfInBounds_toArray, List.set_cons_zero, List.set_cons_succ]) | (refine walkR_skip rfl (by decide +kernel) rfl (fun _ _ _ h => h) hE ?_; simp only [Act.put, List.setIfInBounds_toArray, List.set_cons_zero, List.set_cons_succ])))
                          (refine walkR_tail (by rfl) (by kernel_rfl) ?_; simp only [List.drop_succ_cons, List.drop_zero])
                          have HT3 := hidP (HT2.out.below hE)
                          clear HT2 hE
                          go_wp2
                          go_roundw
                          case rel => exact ⟨j + 1, by omega, by go_num, HT3⟩
                          case measure => simp [intOf]; omega
                      · obtain rfl : j = i := by omega
                        have HT2 := hidP (HT.out.as (byTo_row p s (frRow p M k) j))
                        clear HT
                        go_wp2
                        go_roundw
                        case rel => exact ⟨j + 1, by omega, by go_num, HT2⟩
                        case measure => simp [intOf]; omega
                  · obtain rfl : i = s := by omega
                    have hfin := HT.out.as (byTo_all p i (frRow p M k))
                    have hfi : byL p i (frRow p M k) = frTab p M k := by rw [← HNw.out]; rfl
                    rw [hfi] at hfin
                    have HFi := hidP hfin.own
                    have HEx := hidP (HXo.out.trans (HX2.out.trans hfin.ext))
                    obtain ⟨f0, f1, f2⟩ := hfin.alg
                    obtain ⟨r0, y0⟩ := HNW.out wr HEx.out 0
                    obtain ⟨r1, y1⟩ := HNW.out wr HEx.out 1
                    obtain ⟨r2, y2⟩ := HNW.out wr HEx.out 2
                    have r0 := r0.trans (show _ = some (Value.int .i64 0) from rfl)
                    have r1 := r1.trans (show _ = some (Value.int .i64 0) from rfl)
                    have r2 := r2.trans (show _ = some (Value.slice none 0 0) from rfl)
                    have HLw : Hid (w.heap.size < w2.heap.size) := by
                      have h1 := World.block_lt_of_cell? w0 _ (HNW.out w0 (Ext.refl _) 0).1
                      have h2 := HXo.out.size
                      have h3 := HX2.out.size
                      have h1 : w.heap.size < w0.heap.size := h1
                      show _ < _
                      omega
                    have hiiI : ¬ (i : Int) < (i : Int) := by omega
                    clear hfin HT hfi
                    go_wp2
                    refine bodyPost_ret (v := .tuple #[algV p (i : Int) a2 N3 N3, .bool true]) (by simp [results, Tryz.results124, go_sem, r0, r1, r2]) rfl ?_
                    rw [HRs.out]
                    refine ⟨a2, N3, N3, ?_, ?_, ?_⟩
                    · rw [HNw.out]
                    · exact (((HFi.out.setBelow _ _ HLw.out _).setBelow _ _ HLw.out _).setBelow _ _ HLw.out _).base (Nat.le_of_lt HLw.out)
                    · exact Ext.setNew (Ext.setNew (Ext.setNew (HX0.out.trans HEx.out) _ _ (Nat.le_refl _) _) _ _ (Nat.le_refl _) _) _ _ (Nat.le_refl _) _
end Go.Proofs.YtenlhfimdpcaoaaGreat

namespace Go.Proofs.YtenlhfimdpcaoaaGreat
open Go.RowKit

theorem name_rank (k : Nat) (hk : k < 12) (s : ByteArray) (hs : s = nameS.getD k ByteArray.empty) (h : 1 < s.size) : ((s[1].toNat : Int) - 48) % 256 = (pRank k : Int) := by
  have key : ∀ k, k < 12 → ((((nameS.getD k ByteArray.empty).data[1]?.getD 0).toNat : Int) - 48) % 256 = (pRank k : Int) := by decide +kernel
  have := key k hk
  rw [← hs] at this
  rw [← this]
  congr 2
  have h3 : 1 < s.data.size := h
  rw [Array.getElem?_eq_getElem h3]
  rfl
theorem name_size (k : Nat) (hk : k < 12) (s : ByteArray) (hs : s = nameS.getD k ByteArray.empty) : s.size = 2 := by
  have key : ∀ k, k < 12 → (nameS.getD k ByteArray.empty).size = 2 := by decide +kernel
  rw [hs]
  exact key k hk
end Go.Proofs.YtenlhfimdpcaoaaGreat

namespace Go.Proofs.YtenlhfimdpcaoaaGreat
open Go.RowKit

def chainO (n : Nat) (d4 : Bool) : Nat → List Int
  | 0 => List.replicate (n * n) 0
  | i + 1 => if decide (i + 1 < n) && !d4 then (((chainO n d4 i).set (i * n + i) 2).set (i * n + i + 1) (-1)).set ((i + 1) * n + i) (-1) else (chainO n d4 i).set (i * n + i) 2
def dChain : Nat → List Int
  | 0 => chainO 4 true 4
  | k + 1 => if k = 1 then dChain k else ((dChain k).set (4 + k) (-1)).set (k * 4 + 1) (-1)
def letterO (k : Nat) : Nat := if k < 4 then 65 else if k < 7 then 66 else if k < 9 then 67 else if k = 9 then 68 else if k = 10 then 70 else 71
theorem name_letter (k : Nat) (hk : k < 12) (s : ByteArray) (hs : s = nameS.getD k ByteArray.empty) (h : 0 < s.size) : s[0].toNat = letterO k := by
  have key : ∀ k, k < 12 → ((nameS.getD k ByteArray.empty).data[0]?.getD 0).toNat = letterO k := by decide +kernel
  have := key k hk
  rw [← hs] at this
  rw [← this]
  have h3 : 0 < s.data.size := h
  rw [Array.getElem?_eq_getElem h3]
  rfl
/-- a place of an owned row, behind changes -/
theorem UpdI.place {w0 w : World} {B g m c : Nat} {xs ys : List Int} (h : UpdI w0 w (some ⟨g, 0, none⟩) m ys) (h0 : OwnI w0 B (some ⟨g, 0, none⟩) m c xs) {i : Nat} (hi : i < m) :
    w.cell? ⟨g, i, none⟩ = some (.int .i64 (ys.getD i 0)) ∧ w.frozen? ⟨g, i, none⟩ = false := by
  obtain ⟨y0, y1⟩ := h.cellInt i hi
  have y2 := h0.unfrozen i g 0 hi rfl
  rw [Nat.zero_add] at y0 y1 y2
  exact ⟨y0, y1.trans y2⟩
theorem UpdI.put {w0 w : World} {g m : Nat} {ys : List Int} (h : UpdI w0 w (some ⟨g, 0, none⟩) m ys) {i : Nat} (hi : i < m) (v : Int) : UpdI w0 (w.setCell ⟨g, i, none⟩ (.int .i64 v)) (some ⟨g, 0, none⟩) m (ys.set i v) := by
  have := h.store i hi v
  rwa [Nat.zero_add] at this
set_option maxRecDepth 100000 in
set_option maxHeartbeats 4000000 in
theorem l5One_any (k : Nat) (hk : k < 12) (s : ByteArray) (hs : s = nameS.getD k ByteArray.empty) (w : World) :
    Calls Tryz.prog 126 #[.string s] w fun e w' => ∃ a, e = .returned (carV (pRank k) a (pRank k * pRank k) (pRank k * pRank k)) ∧ OwnI w' w.heap.size a (pRank k * pRank k) (pRank k * pRank k) (pMat k) ∧ Ext w w' := by
  have h2 := name_size k hk s hs
  have h2' : 1 < s.size := by omega
  have h20 : 0 < s.size := by omega
  obtain ⟨hn1, hn4⟩ := pRank_pos k hk
  have hb := name_rank k hk s hs h2'
  have hl0 := name_letter k hk s hs h20
  obtain ⟨d4, hd4⟩ : ∃ d, d = (k == 9) := ⟨_, rfl⟩
  have hD : (letterO k == 68) = d4 := by
    have key : ∀ k, k < 12 → (letterO k == 68) = (k == 9) := by decide
    rw [hd4]
    exact key k hk
  generalize hnk : pRank k = n at *
  have HK := hidP hnk
  have HK4 := hidP hd4
  obtain ⟨L, hL⟩ : ∃ L, L = letterO k := ⟨_, rfl⟩
  rw [← hL] at hl0 hD
  have HL := hidP hL
  have hnn : (n : Int) * n ≤ 16 := by
    have := Nat.mul_le_mul hn4 hn4
    have h : ((n * n : Nat) : Int) ≤ ((4 * 4 : Nat) : Int) := by exact_mod_cast this
    rw [Int.natCast_mul] at h
    exact h
  have hnn0 : 0 ≤ (n : Int) * n := Int.mul_nonneg (by omega) (by omega)
  have hmk := make_ints ((n : Int) * n) hnn0 (by omega)
  have hmn : ((n : Int) * n).toNat = n * n := by rw [← Int.natCast_mul]; rfl
  rw [hmn] at hmk
  have hD1 : ((L : Int) == 68) = d4 := by
    rw [← hD, Bool.eq_iff_iff, beq_iff_eq, beq_iff_eq]
    omega
  have HD1 := hidP hD1
  clear hmn hs hD hnk hd4 hL hD1 h2
  go_enter Tryz.func126, Tryz.ntmps126
  go_wp2
  have hm0 := OwnI.made (w.alloc (.cells #[.int .i64 0, .slice none 0 0] 117)) (w.heap.size + 1) (n * n) (by simp) (by unfold maxLen; omega)
  have hx1 := Ext.alloc (w.alloc (.cells #[.int .i64 0, .slice none 0 0] 117)) (.cells (Array.replicate (n * n) (.int .i64 0)) 3)
  have hx2 := Ext.alloc ((w.alloc (.cells #[.int .i64 0, .slice none 0 0] 117)).alloc (.cells (Array.replicate (n * n) (.int .i64 0)) 3)) (.cells #[.int .i64 n, .slice (some ⟨w.heap.size + 1, 0, none⟩) (n * n) (n * n)] 117)
  have hca := CarAt.new ((w.alloc (.cells #[.int .i64 0, .slice none 0 0] 117)).alloc (.cells (Array.replicate (n * n) (.int .i64 0)) 3)) (w.heap.size + 1 + 1) (by simp) n (some ⟨w.heap.size + 1, 0, none⟩) (n * n) (n * n) 117
  have hr0 := new_cell (w := w) (b := w.heap.size) rfl (hx1.trans hx2) 0
  have hr1 := new_cell (w := w) (b := w.heap.size) rfl (hx1.trans hx2) 1
  rw [show (w.alloc (.cells #[.int .i64 0, .slice none 0 0] 117)).heap.size = w.heap.size + 1 by simp] at hm0
  have hX : Ext w (((w.alloc (.cells #[.int .i64 0, .slice none 0 0] 117)).alloc (.cells (Array.replicate (n * n) (.int .i64 0)) 3)).alloc (.cells #[.int .i64 n, .slice (some ⟨w.heap.size + 1, 0, none⟩) (n * n) (n * n)] 117)) := (Ext.alloc w _).trans (hx1.trans hx2)
  have hm := hm0.below hx2
  obtain ⟨w1, hw1⟩ : ∃ w1, w1 = ((w.alloc (.cells #[.int .i64 0, .slice none 0 0] 117)).alloc (.cells (Array.replicate (n * n) (.int .i64 0)) 3)).alloc (.cells #[.int .i64 n, .slice (some ⟨w.heap.size + 1, 0, none⟩) (n * n) (n * n)] 117) := ⟨_, rfl⟩
  obtain ⟨g, hg⟩ : ∃ g, g = w.heap.size + 1 := ⟨_, rfl⟩
  obtain ⟨b4, hb4⟩ : ∃ b, b = w.heap.size + 1 + 1 := ⟨_, rfl⟩
  rw [← hw1] at hm hca hr0 hr1 hX ⊢
  rw [← hb4] at hca ⊢
  rw [← hg] at hm hca ⊢
  have n4 : b4 ≠ g := by omega
  have nw : w.heap.size ≠ g := by omega
  have HM := hidP hm
  have HC := hidP hca
  have HX := hidP hX
  have hr0' : w1.cell? ⟨w.heap.size, 0, none⟩ = some (.int .i64 0) := hr0.1
  have hr1' : w1.cell? ⟨w.heap.size, 1, none⟩ = some (.slice none 0 0) := hr1.1
  have HR : Hid (w1.cell? ⟨w.heap.size, 0, none⟩ = some (.int .i64 0) ∧ w1.cell? ⟨w.heap.size, 1, none⟩ = some (.slice none 0 0) ∧ w1.frozen? ⟨w.heap.size, 0, none⟩ = false ∧ w1.frozen? ⟨w.heap.size, 1, none⟩ = false) := ⟨hr0', hr1', hr0.2, hr1.2⟩
  have HU0 := hidP (UpdI.start hm.ints)
  have hlw : w.heap.size < w1.heap.size := World.block_lt_of_cell? w1 _ hr0'
  have HGW : Hid (w.heap.size ≤ g) := by show _ ≤ _; omega
  clear hw1 hg hb4 hm0 hx1 hx2 hr0 hr1 hr0' hr1' hX hm hca
  go_loopw [5] (fun t wr => ∃ i : Nat, i ≤ n ∧ t = .int .i64 i ∧ Hid (UpdI w1 wr (some ⟨g, 0, none⟩) (n * n) (chainO n d4 i))) (fun t _ => n - (intOf t).toNat)
  case atStart => exact ⟨0, Nat.zero_le _, rfl, HU0⟩
  case round =>
    clear HU0
    obtain ⟨i, hi, rfl, HU⟩ := hrel
    obtain ⟨c0, c1⟩ := HC.out
    have f1 := HU.out.far c1 n4
    by_cases hlt : i < n
    · have p1 : i * n + i < n * n := by
        have : (i + 1) * n ≤ n * n := Nat.mul_le_mul_right _ hlt
        rw [Nat.add_mul, Nat.one_mul] at this
        omega
      obtain ⟨y0, y1⟩ := HU.out.place HM.out p1
      have hu1 := HU.out.put p1 2
      have g1 := hu1.far c1 n4
      have P1 := hidP (placeF hn4 hlt hlt)
      obtain ⟨k1, k2, k3, k4, k5⟩ := P1.out
      by_cases hq : i + 1 < n
      · have hq' : (i : Int) + 1 < n := by omega
        cases d4
        · have p2 : i * n + i + 1 < n * n := by
            have : (i + 1) * n ≤ n * n := Nat.mul_le_mul_right _ hlt
            rw [Nat.add_mul, Nat.one_mul] at this
            omega
          have p3 : (i + 1) * n + i < n * n := by
            have : (i + 2) * n ≤ n * n := Nat.mul_le_mul_right _ (by omega)
            rw [Nat.add_mul] at this ⊢
            omega
          obtain ⟨y2, y3⟩ := hu1.place HM.out p2
          have hu2 := hu1.put p2 (-1)
          have g2 := hu2.far c1 n4
          obtain ⟨y4, y5⟩ := hu2.place HM.out p3
          have hu3 := hu2.put p3 (-1)
          have HE : Hid (chainO n false (i + 1) = (((chainO n false i).set (i * n + i) 2).set (i * n + i + 1) (-1)).set ((i + 1) * n + i) (-1)) := by
            show _ = _
            rw [chainO, if_pos (by simp [hq])]
          rw [← HE.out] at hu3
          have HU3 := hidP hu3
          have hd := HD1.out
          obtain ⟨l1, l2, l3, l4, l5⟩ := placeF (i := i + 1) (j := i) hn4 hq hlt
          simp only [Int.natCast_add, Int.cast_ofNat_Int] at l1 l2 l3 l4 l5
          clear hu1 hu2 hu3 c0 c1
          go_wp2
          go_roundw
          case rel => exact ⟨i + 1, by omega, by go_num, HU3⟩
          case measure => simp [intOf]; omega
        · have HE : Hid (chainO n true (i + 1) = (chainO n true i).set (i * n + i) 2) := by
            show _ = _
            rw [chainO, if_neg (by simp)]
          rw [← HE.out] at hu1
          have HU1 := hidP hu1
          have hd := HD1.out
          clear hu1 c0 c1
          go_wp2
          go_roundw
          case rel => exact ⟨i + 1, by omega, by go_num, HU1⟩
          case measure => simp [intOf]; omega
      · have hq' : ¬ (i : Int) + 1 < n := by omega
        have HE : Hid (chainO n d4 (i + 1) = (chainO n d4 i).set (i * n + i) 2) := by
          show _ = _
          rw [chainO, if_neg (by simp [hq])]
        rw [← HE.out] at hu1
        have HU1 := hidP hu1
        clear hu1 c0 c1
        go_wp2
        go_roundw
        case rel => exact ⟨i + 1, by omega, by go_num, HU1⟩
        case measure => simp [intOf]; omega
    · obtain rfl : i = n := by omega
      have hcase : k = 0 ∨ k = 1 ∨ k = 2 ∨ k = 3 ∨ k = 4 ∨ k = 5 ∨ k = 6 ∨ k = 7 ∨ k = 8 ∨ k = 9 ∨ k = 10 ∨ k = 11 := by omega
      rcases hcase with rfl | rfl | rfl | rfl | rfl | rfl | rfl | rfl | rfl | rfl | rfl | rfl
      · obtain rfl : i = 1 := HK.out.symm
        obtain rfl : L = 65 := HL.out
        obtain rfl : d4 = false := HK4.out
        have HUF : Hid (UpdI w1 wr (some ⟨g, 0, none⟩) 1 (pMat 0)) := by
          have h : chainO 1 false 1 = pMat 0 := by decide
          rw [← h]
          exact HU
        obtain ⟨e0, e1⟩ := HC.out
        have t0 := HUF.out.far e0 n4
        have t1 := HUF.out.far e1 n4
        obtain ⟨r0, r1, r2, r3⟩ := HR.out
        have o0 := HUF.out.far r0 nw
        have o1 := HUF.out.far r1 nw
        have o2 := (HUF.out.farF hlw nw).trans r2
        have o3 := (HUF.out.farF hlw nw).trans r3
        have o4 : w.heap.size < wr.heap.size := Nat.lt_of_lt_of_le hlw HUF.out.size
        have HEnd : Hid (OwnI ((wr.setCell ⟨w.heap.size, 0, none⟩ (.int .i64 1)).setCell ⟨w.heap.size, 1, none⟩ (.slice (some ⟨g, 0, none⟩) 1 1)) w.heap.size (some ⟨g, 0, none⟩) 1 1 (pMat 0) ∧ Ext w ((wr.setCell ⟨w.heap.size, 0, none⟩ (.int .i64 1)).setCell ⟨w.heap.size, 1, none⟩ (.slice (some ⟨g, 0, none⟩) 1 1))) := by
          refine ⟨?_, ?_⟩
          · exact ((((HUF.out.own HM.out).base HGW.out).setFar _ 0 _ (Ne.symm nw)).setFar _ 1 _ (Ne.symm nw))
          · have h : Ext w wr := HUF.out.below HX.out HX.out.size fun b o e _ => by cases e; exact HGW.out
            exact (h.setNew _ _ (Nat.le_refl _) _).setNew _ _ (Nat.le_refl _) _
        clear e0 e1 r0 r1 r2 r3
        go_wp2
        refine bodyPost_ret (v := carV 1 (some ⟨g, 0, none⟩) 1 1) (by simp [results, Tryz.results126, go_sem, o0, o1]) rfl ⟨some ⟨g, 0, none⟩, rfl, ?_, ?_⟩
        · exact HEnd.out.1
        · exact HEnd.out.2
      · obtain rfl : i = 2 := HK.out.symm
        obtain rfl : L = 65 := HL.out
        obtain rfl : d4 = false := HK4.out
        have HUF : Hid (UpdI w1 wr (some ⟨g, 0, none⟩) 4 (pMat 1)) := by
          have h : chainO 2 false 2 = pMat 1 := by decide
          rw [← h]
          exact HU
        obtain ⟨e0, e1⟩ := HC.out
        have t0 := HUF.out.far e0 n4
        have t1 := HUF.out.far e1 n4
        obtain ⟨r0, r1, r2, r3⟩ := HR.out
        have o0 := HUF.out.far r0 nw
        have o1 := HUF.out.far r1 nw
        have o2 := (HUF.out.farF hlw nw).trans r2
        have o3 := (HUF.out.farF hlw nw).trans r3
        have o4 : w.heap.size < wr.heap.size := Nat.lt_of_lt_of_le hlw HUF.out.size
        have HEnd : Hid (OwnI ((wr.setCell ⟨w.heap.size, 0, none⟩ (.int .i64 2)).setCell ⟨w.heap.size, 1, none⟩ (.slice (some ⟨g, 0, none⟩) 4 4)) w.heap.size (some ⟨g, 0, none⟩) 4 4 (pMat 1) ∧ Ext w ((wr.setCell ⟨w.heap.size, 0, none⟩ (.int .i64 2)).setCell ⟨w.heap.size, 1, none⟩ (.slice (some ⟨g, 0, none⟩) 4 4))) := by
          refine ⟨?_, ?_⟩
          · exact ((((HUF.out.own HM.out).base HGW.out).setFar _ 0 _ (Ne.symm nw)).setFar _ 1 _ (Ne.symm nw))
          · have h : Ext w wr := HUF.out.below HX.out HX.out.size fun b o e _ => by cases e; exact HGW.out
            exact (h.setNew _ _ (Nat.le_refl _) _).setNew _ _ (Nat.le_refl _) _
        clear e0 e1 r0 r1 r2 r3
        go_wp2
        refine bodyPost_ret (v := carV 2 (some ⟨g, 0, none⟩) 4 4) (by simp [results, Tryz.results126, go_sem, o0, o1]) rfl ⟨some ⟨g, 0, none⟩, rfl, ?_, ?_⟩
        · exact HEnd.out.1
        · exact HEnd.out.2
      · obtain rfl : i = 3 := HK.out.symm
        obtain rfl : L = 65 := HL.out
        obtain rfl : d4 = false := HK4.out
        have HUF : Hid (UpdI w1 wr (some ⟨g, 0, none⟩) 9 (pMat 2)) := by
          have h : chainO 3 false 3 = pMat 2 := by decide
          rw [← h]
          exact HU
        obtain ⟨e0, e1⟩ := HC.out
        have t0 := HUF.out.far e0 n4
        have t1 := HUF.out.far e1 n4
        obtain ⟨r0, r1, r2, r3⟩ := HR.out
        have o0 := HUF.out.far r0 nw
        have o1 := HUF.out.far r1 nw
        have o2 := (HUF.out.farF hlw nw).trans r2
        have o3 := (HUF.out.farF hlw nw).trans r3
        have o4 : w.heap.size < wr.heap.size := Nat.lt_of_lt_of_le hlw HUF.out.size
        have HEnd : Hid (OwnI ((wr.setCell ⟨w.heap.size, 0, none⟩ (.int .i64 3)).setCell ⟨w.heap.size, 1, none⟩ (.slice (some ⟨g, 0, none⟩) 9 9)) w.heap.size (some ⟨g, 0, none⟩) 9 9 (pMat 2) ∧ Ext w ((wr.setCell ⟨w.heap.size, 0, none⟩ (.int .i64 3)).setCell ⟨w.heap.size, 1, none⟩ (.slice (some ⟨g, 0, none⟩) 9 9))) := by
          refine ⟨?_, ?_⟩
          · exact ((((HUF.out.own HM.out).base HGW.out).setFar _ 0 _ (Ne.symm nw)).setFar _ 1 _ (Ne.symm nw))
          · have h : Ext w wr := HUF.out.below HX.out HX.out.size fun b o e _ => by cases e; exact HGW.out
            exact (h.setNew _ _ (Nat.le_refl _) _).setNew _ _ (Nat.le_refl _) _
        clear e0 e1 r0 r1 r2 r3
        go_wp2
        refine bodyPost_ret (v := carV 3 (some ⟨g, 0, none⟩) 9 9) (by simp [results, Tryz.results126, go_sem, o0, o1]) rfl ⟨some ⟨g, 0, none⟩, rfl, ?_, ?_⟩
        · exact HEnd.out.1
        · exact HEnd.out.2
      · obtain rfl : i = 4 := HK.out.symm
        obtain rfl : L = 65 := HL.out
        obtain rfl : d4 = false := HK4.out
        have HUF : Hid (UpdI w1 wr (some ⟨g, 0, none⟩) 16 (pMat 3)) := by
          have h : chainO 4 false 4 = pMat 3 := by decide
          rw [← h]
          exact HU
        obtain ⟨e0, e1⟩ := HC.out
        have t0 := HUF.out.far e0 n4
        have t1 := HUF.out.far e1 n4
        obtain ⟨r0, r1, r2, r3⟩ := HR.out
        have o0 := HUF.out.far r0 nw
        have o1 := HUF.out.far r1 nw
        have o2 := (HUF.out.farF hlw nw).trans r2
        have o3 := (HUF.out.farF hlw nw).trans r3
        have o4 : w.heap.size < wr.heap.size := Nat.lt_of_lt_of_le hlw HUF.out.size
        have HEnd : Hid (OwnI ((wr.setCell ⟨w.heap.size, 0, none⟩ (.int .i64 4)).setCell ⟨w.heap.size, 1, none⟩ (.slice (some ⟨g, 0, none⟩) 16 16)) w.heap.size (some ⟨g, 0, none⟩) 16 16 (pMat 3) ∧ Ext w ((wr.setCell ⟨w.heap.size, 0, none⟩ (.int .i64 4)).setCell ⟨w.heap.size, 1, none⟩ (.slice (some ⟨g, 0, none⟩) 16 16))) := by
          refine ⟨?_, ?_⟩
          · exact ((((HUF.out.own HM.out).base HGW.out).setFar _ 0 _ (Ne.symm nw)).setFar _ 1 _ (Ne.symm nw))
          · have h : Ext w wr := HUF.out.below HX.out HX.out.size fun b o e _ => by cases e; exact HGW.out
            exact (h.setNew _ _ (Nat.le_refl _) _).setNew _ _ (Nat.le_refl _) _
        clear e0 e1 r0 r1 r2 r3
        go_wp2
        refine bodyPost_ret (v := carV 4 (some ⟨g, 0, none⟩) 16 16) (by simp [results, Tryz.results126, go_sem, o0, o1]) rfl ⟨some ⟨g, 0, none⟩, rfl, ?_, ?_⟩
        · exact HEnd.out.1
        · exact HEnd.out.2
      · obtain rfl : i = 2 := HK.out.symm
        obtain rfl : L = 66 := HL.out
        obtain rfl : d4 = false := HK4.out
        obtain ⟨c0, c1⟩ := HC.out
        have f1 := HU.out.far c1 n4
        obtain ⟨y0, y1⟩ := HU.out.place HM.out (show 2 < 4 by omega)
        have hu1 := HU.out.put (show 2 < 4 by omega) (-2)
        have HUF : Hid (UpdI w1 (wr.setCell ⟨g, 2, none⟩ (.int .i64 (-2))) (some ⟨g, 0, none⟩) 4 (pMat 4)) := by
          have h : (chainO 2 false 2).set 2 (-2) = pMat 4 := by decide
          rw [← h]
          exact hu1
        clear c0 c1 hu1
        obtain ⟨e0, e1⟩ := HC.out
        have t0 := HUF.out.far e0 n4
        have t1 := HUF.out.far e1 n4
        obtain ⟨r0, r1, r2, r3⟩ := HR.out
        have o0 := HUF.out.far r0 nw
        have o1 := HUF.out.far r1 nw
        have o2 := (HUF.out.farF hlw nw).trans r2
        have o3 := (HUF.out.farF hlw nw).trans r3
        have o4 : w.heap.size < (wr.setCell ⟨g, 2, none⟩ (.int .i64 (-2))).heap.size := Nat.lt_of_lt_of_le hlw HUF.out.size
        have HEnd : Hid (OwnI (((wr.setCell ⟨g, 2, none⟩ (.int .i64 (-2))).setCell ⟨w.heap.size, 0, none⟩ (.int .i64 2)).setCell ⟨w.heap.size, 1, none⟩ (.slice (some ⟨g, 0, none⟩) 4 4)) w.heap.size (some ⟨g, 0, none⟩) 4 4 (pMat 4) ∧ Ext w (((wr.setCell ⟨g, 2, none⟩ (.int .i64 (-2))).setCell ⟨w.heap.size, 0, none⟩ (.int .i64 2)).setCell ⟨w.heap.size, 1, none⟩ (.slice (some ⟨g, 0, none⟩) 4 4))) := by
          refine ⟨?_, ?_⟩
          · exact ((((HUF.out.own HM.out).base HGW.out).setFar _ 0 _ (Ne.symm nw)).setFar _ 1 _ (Ne.symm nw))
          · have h : Ext w (wr.setCell ⟨g, 2, none⟩ (.int .i64 (-2))) := HUF.out.below HX.out HX.out.size fun b o e _ => by cases e; exact HGW.out
            exact (h.setNew _ _ (Nat.le_refl _) _).setNew _ _ (Nat.le_refl _) _
        clear e0 e1 r0 r1 r2 r3
        go_wp2
        refine bodyPost_ret (v := carV 2 (some ⟨g, 0, none⟩) 4 4) (by simp [results, Tryz.results126, go_sem, o0, o1]) rfl ⟨some ⟨g, 0, none⟩, rfl, ?_, ?_⟩
        · exact HEnd.out.1
        · exact HEnd.out.2
      · obtain rfl : i = 3 := HK.out.symm
        obtain rfl : L = 66 := HL.out
        obtain rfl : d4 = false := HK4.out
        obtain ⟨c0, c1⟩ := HC.out
        have f1 := HU.out.far c1 n4
        obtain ⟨y0, y1⟩ := HU.out.place HM.out (show 7 < 9 by omega)
        have hu1 := HU.out.put (show 7 < 9 by omega) (-2)
        have HUF : Hid (UpdI w1 (wr.setCell ⟨g, 7, none⟩ (.int .i64 (-2))) (some ⟨g, 0, none⟩) 9 (pMat 5)) := by
          have h : (chainO 3 false 3).set 7 (-2) = pMat 5 := by decide
          rw [← h]
          exact hu1
        clear c0 c1 hu1
        obtain ⟨e0, e1⟩ := HC.out
        have t0 := HUF.out.far e0 n4
        have t1 := HUF.out.far e1 n4
        obtain ⟨r0, r1, r2, r3⟩ := HR.out
        have o0 := HUF.out.far r0 nw
        have o1 := HUF.out.far r1 nw
        have o2 := (HUF.out.farF hlw nw).trans r2
        have o3 := (HUF.out.farF hlw nw).trans r3
        have o4 : w.heap.size < (wr.setCell ⟨g, 7, none⟩ (.int .i64 (-2))).heap.size := Nat.lt_of_lt_of_le hlw HUF.out.size
        have HEnd : Hid (OwnI (((wr.setCell ⟨g, 7, none⟩ (.int .i64 (-2))).setCell ⟨w.heap.size, 0, none⟩ (.int .i64 3)).setCell ⟨w.heap.size, 1, none⟩ (.slice (some ⟨g, 0, none⟩) 9 9)) w.heap.size (some ⟨g, 0, none⟩) 9 9 (pMat 5) ∧ Ext w (((wr.setCell ⟨g, 7, none⟩ (.int .i64 (-2))).setCell ⟨w.heap.size, 0, none⟩ (.int .i64 3)).setCell ⟨w.heap.size, 1, none⟩ (.slice (some ⟨g, 0, none⟩) 9 9))) := by
          refine ⟨?_, ?_⟩
          · exact ((((HUF.out.own HM.out).base HGW.out).setFar _ 0 _ (Ne.symm nw)).setFar _ 1 _ (Ne.symm nw))
          · have h : Ext w (wr.setCell ⟨g, 7, none⟩ (.int .i64 (-2))) := HUF.out.below HX.out HX.out.size fun b o e _ => by cases e; exact HGW.out
            exact (h.setNew _ _ (Nat.le_refl _) _).setNew _ _ (Nat.le_refl _) _
        clear e0 e1 r0 r1 r2 r3
        go_wp2
        refine bodyPost_ret (v := carV 3 (some ⟨g, 0, none⟩) 9 9) (by simp [results, Tryz.results126, go_sem, o0, o1]) rfl ⟨some ⟨g, 0, none⟩, rfl, ?_, ?_⟩
        · exact HEnd.out.1
        · exact HEnd.out.2
      · obtain rfl : i = 4 := HK.out.symm
        obtain rfl : L = 66 := HL.out
        obtain rfl : d4 = false := HK4.out
        obtain ⟨c0, c1⟩ := HC.out
        have f1 := HU.out.far c1 n4
        obtain ⟨y0, y1⟩ := HU.out.place HM.out (show 14 < 16 by omega)
        have hu1 := HU.out.put (show 14 < 16 by omega) (-2)
        have HUF : Hid (UpdI w1 (wr.setCell ⟨g, 14, none⟩ (.int .i64 (-2))) (some ⟨g, 0, none⟩) 16 (pMat 6)) := by
          have h : (chainO 4 false 4).set 14 (-2) = pMat 6 := by decide
          rw [← h]
          exact hu1
        clear c0 c1 hu1
        obtain ⟨e0, e1⟩ := HC.out
        have t0 := HUF.out.far e0 n4
        have t1 := HUF.out.far e1 n4
        obtain ⟨r0, r1, r2, r3⟩ := HR.out
        have o0 := HUF.out.far r0 nw
        have o1 := HUF.out.far r1 nw
        have o2 := (HUF.out.farF hlw nw).trans r2
        have o3 := (HUF.out.farF hlw nw).trans r3
        have o4 : w.heap.size < (wr.setCell ⟨g, 14, none⟩ (.int .i64 (-2))).heap.size := Nat.lt_of_lt_of_le hlw HUF.out.size
        have HEnd : Hid (OwnI (((wr.setCell ⟨g, 14, none⟩ (.int .i64 (-2))).setCell ⟨w.heap.size, 0, none⟩ (.int .i64 4)).setCell ⟨w.heap.size, 1, none⟩ (.slice (some ⟨g, 0, none⟩) 16 16)) w.heap.size (some ⟨g, 0, none⟩) 16 16 (pMat 6) ∧ Ext w (((wr.setCell ⟨g, 14, none⟩ (.int .i64 (-2))).setCell ⟨w.heap.size, 0, none⟩ (.int .i64 4)).setCell ⟨w.heap.size, 1, none⟩ (.slice (some ⟨g, 0, none⟩) 16 16))) := by
          refine ⟨?_, ?_⟩
          · exact ((((HUF.out.own HM.out).base HGW.out).setFar _ 0 _ (Ne.symm nw)).setFar _ 1 _ (Ne.symm nw))
          · have h : Ext w (wr.setCell ⟨g, 14, none⟩ (.int .i64 (-2))) := HUF.out.below HX.out HX.out.size fun b o e _ => by cases e; exact HGW.out
            exact (h.setNew _ _ (Nat.le_refl _) _).setNew _ _ (Nat.le_refl _) _
        clear e0 e1 r0 r1 r2 r3
        go_wp2
        refine bodyPost_ret (v := carV 4 (some ⟨g, 0, none⟩) 16 16) (by simp [results, Tryz.results126, go_sem, o0, o1]) rfl ⟨some ⟨g, 0, none⟩, rfl, ?_, ?_⟩
        · exact HEnd.out.1
        · exact HEnd.out.2
      · obtain rfl : i = 3 := HK.out.symm
        obtain rfl : L = 67 := HL.out
        obtain rfl : d4 = false := HK4.out
        obtain ⟨c0, c1⟩ := HC.out
        have f1 := HU.out.far c1 n4
        obtain ⟨y0, y1⟩ := HU.out.place HM.out (show 5 < 9 by omega)
        have hu1 := HU.out.put (show 5 < 9 by omega) (-2)
        have HUF : Hid (UpdI w1 (wr.setCell ⟨g, 5, none⟩ (.int .i64 (-2))) (some ⟨g, 0, none⟩) 9 (pMat 7)) := by
          have h : (chainO 3 false 3).set 5 (-2) = pMat 7 := by decide
          rw [← h]
          exact hu1
        clear c0 c1 hu1
        obtain ⟨e0, e1⟩ := HC.out
        have t0 := HUF.out.far e0 n4
        have t1 := HUF.out.far e1 n4
        obtain ⟨r0, r1, r2, r3⟩ := HR.out
        have o0 := HUF.out.far r0 nw
        have o1 := HUF.out.far r1 nw
        have o2 := (HUF.out.farF hlw nw).trans r2
        have o3 := (HUF.out.farF hlw nw).trans r3
        have o4 : w.heap.size < (wr.setCell ⟨g, 5, none⟩ (.int .i64 (-2))).heap.size := Nat.lt_of_lt_of_le hlw HUF.out.size
        have HEnd : Hid (OwnI (((wr.setCell ⟨g, 5, none⟩ (.int .i64 (-2))).setCell ⟨w.heap.size, 0, none⟩ (.int .i64 3)).setCell ⟨w.heap.size, 1, none⟩ (.slice (some ⟨g, 0, none⟩) 9 9)) w.heap.size (some ⟨g, 0, none⟩) 9 9 (pMat 7) ∧ Ext w (((wr.setCell ⟨g, 5, none⟩ (.int .i64 (-2))).setCell ⟨w.heap.size, 0, none⟩ (.int .i64 3)).setCell ⟨w.heap.size, 1, none⟩ (.slice (some ⟨g, 0, none⟩) 9 9))) := by
          refine ⟨?_, ?_⟩
          · exact ((((HUF.out.own HM.out).base HGW.out).setFar _ 0 _ (Ne.symm nw)).setFar _ 1 _ (Ne.symm nw))
          · have h : Ext w (wr.setCell ⟨g, 5, none⟩ (.int .i64 (-2))) := HUF.out.below HX.out HX.out.size fun b o e _ => by cases e; exact HGW.out
            exact (h.setNew _ _ (Nat.le_refl _) _).setNew _ _ (Nat.le_refl _) _
        clear e0 e1 r0 r1 r2 r3
        go_wp2
        refine bodyPost_ret (v := carV 3 (some ⟨g, 0, none⟩) 9 9) (by simp [results, Tryz.results126, go_sem, o0, o1]) rfl ⟨some ⟨g, 0, none⟩, rfl, ?_, ?_⟩
        · exact HEnd.out.1
        · exact HEnd.out.2
      · obtain rfl : i = 4 := HK.out.symm
        obtain rfl : L = 67 := HL.out
        obtain rfl : d4 = false := HK4.out
        obtain ⟨c0, c1⟩ := HC.out
        have f1 := HU.out.far c1 n4
        obtain ⟨y0, y1⟩ := HU.out.place HM.out (show 11 < 16 by omega)
        have hu1 := HU.out.put (show 11 < 16 by omega) (-2)
        have HUF : Hid (UpdI w1 (wr.setCell ⟨g, 11, none⟩ (.int .i64 (-2))) (some ⟨g, 0, none⟩) 16 (pMat 8)) := by
          have h : (chainO 4 false 4).set 11 (-2) = pMat 8 := by decide
          rw [← h]
          exact hu1
        clear c0 c1 hu1
        obtain ⟨e0, e1⟩ := HC.out
        have t0 := HUF.out.far e0 n4
        have t1 := HUF.out.far e1 n4
        obtain ⟨r0, r1, r2, r3⟩ := HR.out
        have o0 := HUF.out.far r0 nw
        have o1 := HUF.out.far r1 nw
        have o2 := (HUF.out.farF hlw nw).trans r2
        have o3 := (HUF.out.farF hlw nw).trans r3
        have o4 : w.heap.size < (wr.setCell ⟨g, 11, none⟩ (.int .i64 (-2))).heap.size := Nat.lt_of_lt_of_le hlw HUF.out.size
        have HEnd : Hid (OwnI (((wr.setCell ⟨g, 11, none⟩ (.int .i64 (-2))).setCell ⟨w.heap.size, 0, none⟩ (.int .i64 4)).setCell ⟨w.heap.size, 1, none⟩ (.slice (some ⟨g, 0, none⟩) 16 16)) w.heap.size (some ⟨g, 0, none⟩) 16 16 (pMat 8) ∧ Ext w (((wr.setCell ⟨g, 11, none⟩ (.int .i64 (-2))).setCell ⟨w.heap.size, 0, none⟩ (.int .i64 4)).setCell ⟨w.heap.size, 1, none⟩ (.slice (some ⟨g, 0, none⟩) 16 16))) := by
          refine ⟨?_, ?_⟩
          · exact ((((HUF.out.own HM.out).base HGW.out).setFar _ 0 _ (Ne.symm nw)).setFar _ 1 _ (Ne.symm nw))
          · have h : Ext w (wr.setCell ⟨g, 11, none⟩ (.int .i64 (-2))) := HUF.out.below HX.out HX.out.size fun b o e _ => by cases e; exact HGW.out
            exact (h.setNew _ _ (Nat.le_refl _) _).setNew _ _ (Nat.le_refl _) _
        clear e0 e1 r0 r1 r2 r3
        go_wp2
        refine bodyPost_ret (v := carV 4 (some ⟨g, 0, none⟩) 16 16) (by simp [results, Tryz.results126, go_sem, o0, o1]) rfl ⟨some ⟨g, 0, none⟩, rfl, ?_, ?_⟩
        · exact HEnd.out.1
        · exact HEnd.out.2
      · obtain rfl : i = 4 := HK.out.symm
        obtain rfl : L = 68 := HL.out
        obtain rfl : d4 = true := HK4.out
        obtain ⟨c0, c1⟩ := HC.out
        have f1 := HU.out.far c1 n4
        have f0 := HU.out.far c0 n4
        clear c0 c1
        go_wp2
        have HU0 : Hid (UpdI w1 wr (some ⟨g, 0, none⟩) 16 (dChain 0)) := HU.out
        clear HU f0 f1
        go_loopw [6] (fun t wr => ∃ j : Nat, j ≤ 4 ∧ t = .int .i64 j ∧ Hid (UpdI w1 wr (some ⟨g, 0, none⟩) 16 (dChain j))) (fun t _ => 4 - (intOf t).toNat)
        case atStart => exact ⟨0, Nat.zero_le _, rfl, HU0⟩
        case round =>
          clear HU0
          obtain ⟨j, hj, rfl, HU⟩ := hrel
          obtain ⟨c0, c1⟩ := HC.out
          have f1 := HU.out.far c1 n4
          have f0 := HU.out.far c0 n4
          by_cases hj4 : j < 4
          · by_cases hj1 : j = 1
            · subst hj1
              clear c0 c1
              go_wp2
              go_roundw
              case rel => exact ⟨2, by omega, by go_num, HU⟩
              case measure => simp [intOf]
            · have HE : Hid (dChain (j + 1) = ((dChain j).set (4 + j) (-1)).set (j * 4 + 1) (-1)) := by
                show _ = _
                rw [dChain, if_neg hj1]
              have p1 : 4 + j < 16 := by omega
              have p2 : j * 4 + 1 < 16 := by omega
              obtain ⟨y0, y1⟩ := HU.out.place HM.out p1
              have hu1 := HU.out.put p1 (-1)
              have g1 := hu1.far c1 n4
              obtain ⟨y2, y3⟩ := hu1.place HM.out p2
              have hu2 := hu1.put p2 (-1)
              rw [← HE.out] at hu2
              have HU2 := hidP hu2
              have hj1' : ((j : Int) != 1) = true := by simp; omega
              clear hu1 hu2 c0 c1 hj1
              go_wp2
              go_roundw
              case rel => exact ⟨j + 1, by omega, by go_num, HU2⟩
              case measure => simp [intOf]; omega
          · obtain rfl : j = 4 := by omega
            have HUF : Hid (UpdI w1 wr (some ⟨g, 0, none⟩) 16 (pMat 9)) := by
              have h : dChain 4 = pMat 9 := by decide
              rw [← h]
              exact HU
            clear HU f0 f1 c0 c1
            obtain ⟨e0, e1⟩ := HC.out
            have t0 := HUF.out.far e0 n4
            have t1 := HUF.out.far e1 n4
            obtain ⟨r0, r1, r2, r3⟩ := HR.out
            have o0 := HUF.out.far r0 nw
            have o1 := HUF.out.far r1 nw
            have o2 := (HUF.out.farF hlw nw).trans r2
            have o3 := (HUF.out.farF hlw nw).trans r3
            have o4 : w.heap.size < wr.heap.size := Nat.lt_of_lt_of_le hlw HUF.out.size
            have HEnd : Hid (OwnI ((wr.setCell ⟨w.heap.size, 0, none⟩ (.int .i64 4)).setCell ⟨w.heap.size, 1, none⟩ (.slice (some ⟨g, 0, none⟩) 16 16)) w.heap.size (some ⟨g, 0, none⟩) 16 16 (pMat 9) ∧ Ext w ((wr.setCell ⟨w.heap.size, 0, none⟩ (.int .i64 4)).setCell ⟨w.heap.size, 1, none⟩ (.slice (some ⟨g, 0, none⟩) 16 16))) := by
              refine ⟨?_, ?_⟩
              · exact ((((HUF.out.own HM.out).base HGW.out).setFar _ 0 _ (Ne.symm nw)).setFar _ 1 _ (Ne.symm nw))
              · have h : Ext w wr := HUF.out.below HX.out HX.out.size fun b o e _ => by cases e; exact HGW.out
                exact (h.setNew _ _ (Nat.le_refl _) _).setNew _ _ (Nat.le_refl _) _
            clear e0 e1 r0 r1 r2 r3
            go_wp2
            refine bodyPost_ret (v := carV 4 (some ⟨g, 0, none⟩) 16 16) (by simp [results, Tryz.results126, go_sem, o0, o1]) rfl ⟨some ⟨g, 0, none⟩, rfl, ?_, ?_⟩
            · exact HEnd.out.1
            · exact HEnd.out.2
      · obtain rfl : i = 4 := HK.out.symm
        obtain rfl : L = 70 := HL.out
        obtain rfl : d4 = false := HK4.out
        obtain ⟨c0, c1⟩ := HC.out
        have f1 := HU.out.far c1 n4
        obtain ⟨y0, y1⟩ := HU.out.place HM.out (show 9 < 16 by omega)
        have hu1 := HU.out.put (show 9 < 16 by omega) (-2)
        have HUF : Hid (UpdI w1 (wr.setCell ⟨g, 9, none⟩ (.int .i64 (-2))) (some ⟨g, 0, none⟩) 16 (pMat 10)) := by
          have h : (chainO 4 false 4).set 9 (-2) = pMat 10 := by decide
          rw [← h]
          exact hu1
        clear c0 c1 hu1
        obtain ⟨e0, e1⟩ := HC.out
        have t0 := HUF.out.far e0 n4
        have t1 := HUF.out.far e1 n4
        obtain ⟨r0, r1, r2, r3⟩ := HR.out
        have o0 := HUF.out.far r0 nw
        have o1 := HUF.out.far r1 nw
        have o2 := (HUF.out.farF hlw nw).trans r2
        have o3 := (HUF.out.farF hlw nw).trans r3
        have o4 : w.heap.size < (wr.setCell ⟨g, 9, none⟩ (.int .i64 (-2))).heap.size := Nat.lt_of_lt_of_le hlw HUF.out.size
        have HEnd : Hid (OwnI (((wr.setCell ⟨g, 9, none⟩ (.int .i64 (-2))).setCell ⟨w.heap.size, 0, none⟩ (.int .i64 4)).setCell ⟨w.heap.size, 1, none⟩ (.slice (some ⟨g, 0, none⟩) 16 16)) w.heap.size (some ⟨g, 0, none⟩) 16 16 (pMat 10) ∧ Ext w (((wr.setCell ⟨g, 9, none⟩ (.int .i64 (-2))).setCell ⟨w.heap.size, 0, none⟩ (.int .i64 4)).setCell ⟨w.heap.size, 1, none⟩ (.slice (some ⟨g, 0, none⟩) 16 16))) := by
          refine ⟨?_, ?_⟩
          · exact ((((HUF.out.own HM.out).base HGW.out).setFar _ 0 _ (Ne.symm nw)).setFar _ 1 _ (Ne.symm nw))
          · have h : Ext w (wr.setCell ⟨g, 9, none⟩ (.int .i64 (-2))) := HUF.out.below HX.out HX.out.size fun b o e _ => by cases e; exact HGW.out
            exact (h.setNew _ _ (Nat.le_refl _) _).setNew _ _ (Nat.le_refl _) _
        clear e0 e1 r0 r1 r2 r3
        go_wp2
        refine bodyPost_ret (v := carV 4 (some ⟨g, 0, none⟩) 16 16) (by simp [results, Tryz.results126, go_sem, o0, o1]) rfl ⟨some ⟨g, 0, none⟩, rfl, ?_, ?_⟩
        · exact HEnd.out.1
        · exact HEnd.out.2
      · obtain rfl : i = 2 := HK.out.symm
        obtain rfl : L = 71 := HL.out
        obtain rfl : d4 = false := HK4.out
        obtain ⟨c0, c1⟩ := HC.out
        have f1 := HU.out.far c1 n4
        obtain ⟨y0, y1⟩ := HU.out.place HM.out (show 1 < 4 by omega)
        have hu1 := HU.out.put (show 1 < 4 by omega) (-3)
        have HUF : Hid (UpdI w1 (wr.setCell ⟨g, 1, none⟩ (.int .i64 (-3))) (some ⟨g, 0, none⟩) 4 (pMat 11)) := by
          have h : (chainO 2 false 2).set 1 (-3) = pMat 11 := by decide
          rw [← h]
          exact hu1
        clear c0 c1 hu1
        obtain ⟨e0, e1⟩ := HC.out
        have t0 := HUF.out.far e0 n4
        have t1 := HUF.out.far e1 n4
        obtain ⟨r0, r1, r2, r3⟩ := HR.out
        have o0 := HUF.out.far r0 nw
        have o1 := HUF.out.far r1 nw
        have o2 := (HUF.out.farF hlw nw).trans r2
        have o3 := (HUF.out.farF hlw nw).trans r3
        have o4 : w.heap.size < (wr.setCell ⟨g, 1, none⟩ (.int .i64 (-3))).heap.size := Nat.lt_of_lt_of_le hlw HUF.out.size
        have HEnd : Hid (OwnI (((wr.setCell ⟨g, 1, none⟩ (.int .i64 (-3))).setCell ⟨w.heap.size, 0, none⟩ (.int .i64 2)).setCell ⟨w.heap.size, 1, none⟩ (.slice (some ⟨g, 0, none⟩) 4 4)) w.heap.size (some ⟨g, 0, none⟩) 4 4 (pMat 11) ∧ Ext w (((wr.setCell ⟨g, 1, none⟩ (.int .i64 (-3))).setCell ⟨w.heap.size, 0, none⟩ (.int .i64 2)).setCell ⟨w.heap.size, 1, none⟩ (.slice (some ⟨g, 0, none⟩) 4 4))) := by
          refine ⟨?_, ?_⟩
          · exact ((((HUF.out.own HM.out).base HGW.out).setFar _ 0 _ (Ne.symm nw)).setFar _ 1 _ (Ne.symm nw))
          · have h : Ext w (wr.setCell ⟨g, 1, none⟩ (.int .i64 (-3))) := HUF.out.below HX.out HX.out.size fun b o e _ => by cases e; exact HGW.out
            exact (h.setNew _ _ (Nat.le_refl _) _).setNew _ _ (Nat.le_refl _) _
        clear e0 e1 r0 r1 r2 r3
        go_wp2
        refine bodyPost_ret (v := carV 2 (some ⟨g, 0, none⟩) 4 4) (by simp [results, Tryz.results126, go_sem, o0, o1]) rfl ⟨some ⟨g, 0, none⟩, rfl, ?_, ?_⟩
        · exact HEnd.out.1
        · exact HEnd.out.2
end Go.Proofs.YtenlhfimdpcaoaaGreat

namespace Go.Proofs.YtenlhfimdpcaoaaGreat
open Go.RowKit

/-- the rows of an adjoint -/
def adjL (p : Int) (t : List Int) (d : Nat) (u : List Int) (k : Nat) : List (List Int) := (List.range k).map fun j => rightL p t d u j
theorem adjL_succ (p : Int) (t : List Int) (d : Nat) (u : List Int) (k : Nat) : adjL p t d u (k + 1) = adjL p t d u k ++ [rightL p t d u k] := by
  unfold adjL
  rw [List.range_succ, List.map_append]
  rfl
theorem adjL_rows {p : Int} (hp : 0 < p) (t : List Int) (d : Nat) (u : List Int) (k : Nat) : Rows p d (adjL p t d u k) := by
  induction k with
  | zero => exact Rows.nil p d
  | succ k ih => rw [adjL_succ]; exact ih.snoc (modL_length _ _ _) (Res.modL hp _ _)
theorem adjL_length (p : Int) (t : List Int) (d : Nat) (u : List Int) (k : Nat) : (adjL p t d u k).length = k := by simp [adjL]

set_option maxHeartbeats 2000000 in
theorem adjoint_any (p : Int) (d : Nat) (aT au : Option Addr) (N c cu : Nat) (t u : List Int) (w : World) (hd : d ≤ 28) (hN : N = d * d * d) (hc : N ≤ c) (hc2 : c ≤ 9223372036854775807)
    (ht : IntsAt w aT N t) (hu : IntsAt w au d u) (hp : 1 ≤ p) (hp2 : p ≤ 10007) (hrt : Res p t) (hru : Res p u) :
    Calls Tryz.prog 99 #[algV p d aT N c, .slice au d cu] w fun e w' => ∃ a l c3, e = .returned (matV p d d a l c3) ∧ OwnI w' w.heap.size a l c3 (adjL p t d u d).flatten ∧ Ext w w' := by
  have hwA := Ext.alloc w (.cells #[.int .i64 p, .int .i64 (d : Int), .slice aT N c] 80)
  have hwB := Ext.alloc (w.alloc (.cells #[.int .i64 p, .int .i64 (d : Int), .slice aT N c] 80)) (.cells #[.int .i64 0, .int .i64 0, .int .i64 0, .slice none 0 0] 28)
  have HAL := hidP ((AlgAt.new w _ rfl p d aT N c 80).below hwB)
  have hnew := fun w1 hx j => new_cell (w' := w1) (w := w.alloc (.cells #[.int .i64 p, .int .i64 (d : Int), .slice aT N c] 80)) (cs := #[.int .i64 0, .int .i64 0, .int .i64 0, .slice none 0 0]) (E := 28) (b := w.heap.size + 1) (by simp) hx j
  have HXb := hidP (hwA.trans hwB)
  have HT := hidP (ht.below (hwA.trans hwB))
  have HU := hidP (hu.below (hwA.trans hwB))
  have hszb : ((w.alloc (.cells #[.int .i64 p, .int .i64 (d : Int), .slice aT N c] 80)).alloc (.cells #[.int .i64 0, .int .i64 0, .int .i64 0, .slice none 0 0] 28)).heap.size = w.heap.size + 1 + 1 := by simp
  have HRT := hidP hrt
  have HRU := hidP hru
  have HN := hidP hN
  clear ht hu hwA hwB hrt hru hN
  go_enter Tryz.func99, Tryz.ntmps99
  go_wp2
  obtain ⟨wb, hwb⟩ : ∃ wb, wb = (w.alloc (.cells #[.int .i64 p, .int .i64 (d : Int), .slice aT N c] 80)).alloc (.cells #[.int .i64 0, .int .i64 0, .int .i64 0, .slice none 0 0] 28) := ⟨_, rfl⟩
  rw [← hwb] at HAL hnew HXb HT HU hszb ⊢
  rw [← hszb]
  have HSZ : Hid (w.heap.size + 1 < wb.heap.size) := by show _ < _; omega
  clear hwb hszb
  have HNW := hidP hnew
  clear hnew
  have HF := hidP (fun w' (hx' : Ext wb w') => (⟨(HAL.out.below hx').c0, (HAL.out.below hx').c1, (HAL.out.below hx').c2⟩ : _ ∧ _ ∧ _))
  have HO := hidP (OwnK.made0 rowK wb)
  have hE : rowK.E = 24 := rfl
  rw [hE] at HO
  have HX0 := hidP (Ext.alloc wb (.cells #[] 24))
  clear hE
  have HPJ := hidP (fun i => adjL_succ p t d u i)
  go_loopw [5, 10] (fun v vi wr => ∃ (i : Nat) (av : Option Addr) (cv : Nat) (hv : List Hdr), i ≤ d ∧ vi = .int .i64 i ∧ v = .slice av i cv ∧ Hid (OwnK rowK wr wb.heap.size wr.heap.size av i cv hv (adjL p t d u i)) ∧ Hid (Ext wb wr)) (fun _ vi _ => d - (intOf vi).toNat)
  case atStart => exact ⟨0, _, 0, [], Nat.zero_le _, rfl, rfl, HO, HX0⟩
  case round =>
    clear HO HX0
    obtain ⟨i, av, cv, hv, hi, rfl, rfl, HL, HX⟩ := hrel
    obtain ⟨wo, rfl⟩ : ∃ wo : World, wo = wr := ⟨_, rfl⟩
    obtain ⟨f0, f1, f2⟩ := HF.out wo HX.out
    by_cases hlt : i < d
    · obtain ⟨b, o, rfl, _⟩ := HT.out.get 0 (by rw [HN.out]; exact Nat.mul_pos (Nat.mul_pos (by omega) (by omega)) (by omega))
      have HB := hidP (right_any p d i b o N c t au cu u wo hd hlt HN.out hc hc2 (HT.out.below HX.out) (HU.out.below HX.out) hp hp2 HRT.out HRU.out)
      go_wp2_with fail
      refine HB.out.mono ?_
      rintro e w1 ⟨a1, rfl, ho1, hx1⟩
      have HL1 := hidP (HL.out.below hx1)
      have HO1 := hidP ho1
      have HX1 := hidP (HX.out.trans hx1)
      clear ho1 hx1 HB f0 f1 f2
      have hx2 := Ext.alloc w1 (.cells #[.slice a1 d d] 24)
      have HLR : Hid ((rightL p t d u i).length = d) := modL_length _ _ _
      have HPJi := hidP (HPJ.out i)
      generalize rightL p t d u i = row at *
      have HL2 := hidP (HL1.out.below hx2)
      have HO2 := hidP ((HO1.out.below hx2).base (B' := wb.heap.size) HX.out.size)
      have HX2 := hidP (HX1.out.trans hx2)
      have HAp : Hid (∀ q, q < i → Apart (hv.getD q (none, 0)).1 a1) := fun q hq b o b' o' e e' => by
        have := HL.out.lt q hq b o e
        have := (HO1.out.at_base b' o' e').1
        omega
      have HFa : Hid (Apart av a1) := fun b o b' o' e e' => by
        have := HL.out.olt b o e
        have := (HO1.out.at_base b' o' e').1
        omega
      have HCe : Hid (∀ q, q < rowK.size → (w1.alloc (.cells #[.slice a1 d d] 24)).cell? ⟨w1.heap.size, q, none⟩ = (rowK.cells a1 d row)[q]?) := fun q hq => by
        rw [cell_top _ _ _ _ _ rfl]
        show _ = ([Value.slice a1 row.length d])[q]?
        rw [HLR.out]
        simp
      have HR3 : Hid (OwnI (w1.alloc (.cells #[.slice a1 d d] 24)) wb.heap.size a1 row.length d row) := by show OwnI _ _ _ _ _ _; rw [HLR.out]; exact HO2.out
      clear hx2 HL1 HO1 HX1 HO2
      go_wp2_with (at_builtin; refine wpList_append_elem2 rowK 74 (.slice none 0 0) 24 rfl (.tmp 13) (.tmp 18) rfl Tryz.underlying74 Tryz.info24 rfl (by omega) wb.heap.size _ av i cv hv _ rfl HL2.out w1.heap.size 1 (a1, d) row rfl HCe.out HR3.out HAp.out HFa.out (by omega) HX2.out.size ?_; intro a3 c3 w3 ho3 hg3 _; have HX3 := hidP (HL2.out.below_grown hg3 HX2.out HX2.out.size); have HO3 := hidP ho3; clear ho3 hg3)
      go_roundw
      case rel => exact ⟨i + 1, a3, c3, hv ++ [(a1, d)], by omega, by go_num, rfl, by rw [HPJi.out]; exact HO3, HX3⟩
      case measure => simp [intOf]; omega
    · obtain rfl : i = d := by omega
      have hfl := (adjL_rows (by omega : 0 < p) t i u i).flat
      rw [adjL_length] at hfl
      have hmm : i * i ≤ 28 * 28 := Nat.mul_le_mul hd hd
      have HM := hidP (matrixOf_any p i av i cv (adjL p t i u i) wo HL.out.rowsI (by omega) (by omega))
      go_wp2_with fail
      refine HM.out.mono ?_
      rintro e w3 ⟨a3, c3, rfl, ho3, hx3⟩
      have HX3 := hidP (HX.out.trans hx3)
      have HO3 := hidP (ho3.base (B' := wb.heap.size) HX.out.size)
      clear ho3 f0 f1 f2 HM
      have r0 := (HNW.out w3 HX3.out 0).1.trans (show _ = some (Value.int .i64 0) from rfl)
      have r1 := (HNW.out w3 HX3.out 1).1.trans (show _ = some (Value.int .i64 0) from rfl)
      have r2 := (HNW.out w3 HX3.out 2).1.trans (show _ = some (Value.int .i64 0) from rfl)
      have r3 := (HNW.out w3 HX3.out 3).1.trans (show _ = some (Value.slice none 0 0) from rfl)
      have y0 := (HNW.out w3 HX3.out 0).2
      have y1 := (HNW.out w3 HX3.out 1).2
      have y2 := (HNW.out w3 HX3.out 2).2
      have y3 := (HNW.out w3 HX3.out 3).2
      have hsz := HSZ.out
      clear hfl hx3
      generalize (adjL p t i u i).flatten.length = l at *
      go_wp2
      refine bodyPost_ret (v := matV p i i a3 l c3) (by simp [results, Tryz.results99, go_sem, r0, r1, r2, r3]) rfl ?_
      refine ⟨a3, l, c3, rfl, ?_, ?_⟩
      · refine OwnI.base (B := wb.heap.size) ?_ (by omega)
        refine OwnI.setBelow (OwnI.setBelow (OwnI.setBelow (OwnI.setBelow HO3.out _ _ ?_ _) _ _ ?_ _) _ _ ?_ _) _ _ ?_ _ <;> omega
      · refine Ext.setNew (Ext.setNew (Ext.setNew (Ext.setNew (HXb.out.trans HX3.out) _ _ ?_ _) _ _ ?_ _) _ _ ?_ _) _ _ ?_ _ <;> omega
/-- is a matrix one of residues of its size -/
def matB (p r s : Int) (data : List Int) : Bool := primeB p && insB r 0 40 && insB s 0 40 && decide ((data.length : Int) = r * s) && resB p data
set_option maxHeartbeats 1000000 in
theorem matrixOk_any (p r s : Int) (a : Option Addr) (n c : Nat) (data : List Int) (w : World) (h : IntsAt w a n data) (hn : n ≤ 1000000000000) :
    Calls Tryz.prog 63 #[matV p r s a n c] w fun e w' => e = .returned (.bool (matB p r s data)) ∧ Ext w w' := by
  have hl := h.len
  have HB : Hid (matB p r s data = (primeB p && insB r 0 40 && insB s 0 40 && decide ((n : Int) = r * s) && resB p data)) := by show _ = _; unfold matB; rw [hl]
  have hx0 := Ext.alloc w (.cells #[.int .i64 p, .int .i64 r, .int .i64 s, .slice a n c] 28)
  cases hp : primeB p
  · rw [hp] at HB
    clear h hl
    go_enter Tryz.func63, Tryz.ntmps63
    go_wp2_with (first | (go_at_call 73; refine (isPrime_any _ _).mono ?_; rintro e w' ⟨rfl, rfl⟩) | (go_at_call 74; refine (inside_any _ _ _ _).mono ?_; rintro e w' ⟨rfl, rfl⟩))
    go_ret
    exact ⟨ret_bool HB.out.symm, Ext.alloc _ _⟩
  · cases hr : insB r 0 40
    · rw [hp, hr] at HB
      clear h hl
      go_enter Tryz.func63, Tryz.ntmps63
      go_wp2_with (first | (go_at_call 73; refine (isPrime_any _ _).mono ?_; rintro e w' ⟨rfl, rfl⟩) | (go_at_call 74; refine (inside_any _ _ _ _).mono ?_; rintro e w' ⟨rfl, rfl⟩))
      go_ret
      exact ⟨ret_bool HB.out.symm, Ext.alloc _ _⟩
    · cases hs : insB s 0 40
      · rw [hp, hr, hs] at HB
        clear h hl
        go_enter Tryz.func63, Tryz.ntmps63
        go_wp2_with (first | (go_at_call 73; refine (isPrime_any _ _).mono ?_; rintro e w' ⟨rfl, rfl⟩) | (go_at_call 74; refine (inside_any _ _ _ _).mono ?_; rintro e w' ⟨rfl, rfl⟩))
        go_ret
        exact ⟨ret_bool HB.out.symm, Ext.alloc _ _⟩
      · obtain ⟨r0, r1⟩ := insB_true.1 hr
        obtain ⟨s0, s1⟩ := insB_true.1 hs
        obtain ⟨p2, p7⟩ := prime_bounds hp
        have hrs0 : 0 ≤ r * s := Int.mul_nonneg r0 s0
        have hrs1 : r * s ≤ 40 * 40 := Int.mul_le_mul r1 s1 s0 (by omega)
        by_cases hn2 : (n : Int) = r * s
        · have hnb : ((n : Int) != r * s) = false := by simp [hn2]
          have HRS := hidP (residues_any a n c data p _ (h.below hx0) hn (by omega) (by omega))
          rw [hp, hr, hs] at HB
          have HB2 : Hid (matB p r s data = resB p data) := HB.out.trans (by simp [hn2])
          have hx0 := hidP hx0
          clear h hl hn2 HB
          go_enter Tryz.func63, Tryz.ntmps63
          go_wp2_with (first | (go_at_call 73; refine (isPrime_any _ _).mono ?_; rintro e w' ⟨rfl, rfl⟩) | (go_at_call 74; refine (inside_any _ _ _ _).mono ?_; rintro e w' ⟨rfl, rfl⟩) | (go_at_call 75; refine HRS.out.mono ?_; rintro e w1 ⟨rfl, hx1⟩))
          go_ret
          exact ⟨ret_bool HB2.out.symm, hx0.out.trans hx1⟩
        · have hnb : ((n : Int) != r * s) = true := bne_iff_ne.2 hn2
          rw [hp, hr, hs] at HB
          have HB2 : Hid (matB p r s data = false) := HB.out.trans (by simp [hn2])
          clear h hl hn2 HB
          go_enter Tryz.func63, Tryz.ntmps63
          go_wp2_with (first | (go_at_call 73; refine (isPrime_any _ _).mono ?_; rintro e w' ⟨rfl, rfl⟩) | (go_at_call 74; refine (inside_any _ _ _ _).mono ?_; rintro e w' ⟨rfl, rfl⟩))
          go_ret
          exact ⟨ret_bool HB2.out.symm, Ext.alloc _ _⟩
theorem matB_true {p r s : Int} {data : List Int} : matB p r s data = true ↔ primeB p = true ∧ (0 ≤ r ∧ r ≤ 40) ∧ (0 ≤ s ∧ s ≤ 40) ∧ (data.length : Int) = r * s ∧ Res p data := by
  unfold matB
  simp only [Bool.and_eq_true, decide_eq_true_eq, insB_true, resB_true, and_assoc]
end Go.Proofs.YtenlhfimdpcaoaaGreat

namespace Go.Proofs.YtenlhfimdpcaoaaGreat
open Go.RowKit

end Go.Proofs.YtenlhfimdpcaoaaGreat

namespace Go.Proofs.YtenlhfimdpcaoaaGreat
open Go.RowKit

end Go.Proofs.YtenlhfimdpcaoaaGreat

namespace Go.Proofs.YtenlhfimdpcaoaaGreat
open Go.RowKit

set_option maxRecDepth 100000
end Go.Proofs.YtenlhfimdpcaoaaGreat

namespace Go.Proofs.YtenlhfimdpcaoaaGreat
open Go.RowKit

theorem free_draw : ∀ p ∈ drawP, ∀ n, n < 4 → 1 ≤ n → algB p (wordsZ 2 n).length (frTab p 2 n) = true ∧ fitsF 2 n = true ∧ (wordsZ 2 n).length ≤ 6 := by decide +kernel
theorem ex_draw : ∀ p ∈ drawP, ∀ k, k < 10 → algB p (exDim k) (exTab k p) = true ∧ exDim k ≤ 6 := by decide +kernel
end Go.Proofs.YtenlhfimdpcaoaaGreat

namespace Go.Proofs.YtenlhfimdpcaoaaGreat
open Go.RowKit

/-- a matrix's block -/
def MatB (w : World) (b : Nat) (p r s : Int) (a : Option Addr) (n c : Nat) : Prop := w.heap[b]? = some (.cells #[.int .i64 p, .int .i64 r, .int .i64 s, .slice a n c] 28)
namespace MatB
variable {w w' : World} {b : Nat} {p r s : Int} {a : Option Addr} {n c : Nat}
theorem lt (h : MatB w b p r s a n c) : b < w.heap.size := (Array.getElem?_eq_some_iff.1 h).1
theorem at' (h : MatB w b p r s a n c) : MatAt w b p r s a n c := by
  unfold MatB at h
  constructor <;> simp [World.cell?, h]
theorem fz (h : MatB w b p r s a n c) (j : Nat) : w.frozen? ⟨b, j, none⟩ = false := by
  unfold MatB at h
  simp [World.frozen?, h]
theorem new (w : World) (p r s : Int) (a : Option Addr) (n c : Nat) : MatB (w.alloc (.cells #[.int .i64 p, .int .i64 r, .int .i64 s, .slice a n c] 28)) w.heap.size p r s a n c := heap_alloc_new _ _
theorem same (h : MatB w b p r s a n c) (e : w'.heap[b]? = w.heap[b]?) : MatB w' b p r s a n c := e.trans h
theorem below (h : MatB w b p r s a n c) (hx : Ext w w') : MatB w' b p r s a n c := h.same (hx.block b h.lt)
theorem ne {B : Nat} {av : Option Addr} {m cv : Nat} {xs : List Int} (h : MatB w b p r s a n c) (k : OwnI w B av m cv xs) {g o : Nat} (e : av = some ⟨g, o, none⟩) : g ≠ b := by
  rintro rfl
  obtain ⟨cur, hc⟩ := k.block e
  unfold MatB at h
  rw [h] at hc
  simp at hc
theorem grown {B : Nat} {av : Option Addr} {m cv : Nat} {xs : List Int} (h : MatB w b p r s a n c) (k : OwnI w B av m cv xs) (hg : w.grownBy w' (Value.slice av m cv).ownBlock) : MatB w' b p r s a n c := by
  refine h.same (hg.block b h.lt fun e => ?_)
  cases av with
  | none => simp [Value.ownBlock] at e
  | some q =>
    simp only [Value.ownBlock, Option.some.injEq] at e
    rcases k.row.2 with ⟨he, _⟩ | ⟨g', cap, cur, he, hB, hg', _⟩
    · simp at he
    · simp only [Value.slice.injEq, Option.some.injEq] at he
      obtain ⟨rfl, _⟩ := he
      exact h.ne k rfl e.symm
theorem upd {g o m : Nat} {ys : List Int} (h : MatB w b p r s a n c) (hu : UpdI w w' (some ⟨g, o, none⟩) m ys) (hne : g ≠ b) : MatB w' b p r s a n c :=
  h.same (hu.other b h.lt fun b' o' e _ => by cases e; exact fun e => hne e.symm)
theorem other (h : MatB w b p r s a n c) {b' i : Nat} (v : Value) (hne : b' ≠ b) : MatB (w.setCell ⟨b', i, none⟩ v) b p r s a n c :=
  h.same (Below.heap_setCell _ _ _ _ hne.symm)
end MatB
/-- four cells of one block are written -/
def set4 (w : World) (b : Nat) (v0 v1 v2 v3 : Value) : World := (((w.setCell ⟨b, 0, none⟩ v0).setCell ⟨b, 1, none⟩ v1).setCell ⟨b, 2, none⟩ v2).setCell ⟨b, 3, none⟩ v3
theorem OwnI.set4 {w : World} {B n c : Nat} {a : Option Addr} {xs : List Int} (h : OwnI w B a n c xs) (b : Nat) (v0 v1 v2 v3 : Value) (hb : b < B) : OwnI (set4 w b v0 v1 v2 v3) B a n c xs :=
  (((h.setBelow b 0 hb v0).setBelow b 1 hb v1).setBelow b 2 hb v2).setBelow b 3 hb v3
theorem Ext.set4 {w0 w : World} (h : Ext w0 w) (b : Nat) (v0 v1 v2 v3 : Value) (hb : w0.heap.size ≤ b) : Ext w0 (set4 w b v0 v1 v2 v3) :=
  (((h.setNew b 0 hb v0).setNew b 1 hb v1).setNew b 2 hb v2).setNew b 3 hb v3
end Go.Proofs.YtenlhfimdpcaoaaGreat

namespace Go.Proofs.YtenlhfimdpcaoaaGreat
open Go.RowKit

end Go.Proofs.YtenlhfimdpcaoaaGreat

namespace Go.Proofs.YtenlhfimdpcaoaaGreat
open Go.RowKit

/-! ### rows in one list -/
structure FlatR (L : Nat) (rows : List (List Int)) (data : List Int) : Prop where
  len : data.length = rows.length * L
  wid : ∀ i, i < rows.length → (rows.getD i []).length = L
  at_ : ∀ i j, i < rows.length → j < L → data.getD (i * L + j) 0 = (rows.getD i []).getD j 0
theorem flat_lt {n L i j : Nat} (hi : i < n) (hj : j < L) : i * L + j < n * L := by
  have : (i + 1) * L ≤ n * L := Nat.mul_le_mul_right L hi
  rw [Nat.add_mul, Nat.one_mul] at this
  omega
theorem FlatR.eq {L : Nat} {rows : List (List Int)} {d1 d2 : List Int} (h1 : FlatR L rows d1) (h2 : FlatR L rows d2) : d1 = d2 := by
  apply List.ext_getElem
  · rw [h1.len, h2.len]
  · intro q a b
    have hL : 0 < L := by
      rcases Nat.eq_zero_or_pos L with h0 | h0
      · have := h1.len
        rw [h0, Nat.mul_zero] at this
        omega
      · exact h0
    have hq : q < rows.length * L := by rw [← h1.len]; exact a
    have hi : q / L < rows.length := Nat.div_lt_of_lt_mul (by rw [Nat.mul_comm]; exact hq)
    have e1 := h1.at_ (q / L) (q % L) hi (Nat.mod_lt _ hL)
    have e2 := h2.at_ (q / L) (q % L) hi (Nat.mod_lt _ hL)
    rw [Nat.div_add_mod', getD_lt _ a] at e1
    rw [Nat.div_add_mod', getD_lt _ b] at e2
    rw [e1, e2]
theorem flatR_of {L : Nat} : ∀ {rows : List (List Int)}, (∀ i, i < rows.length → (rows.getD i []).length = L) → FlatR L rows rows.flatten
  | [], _ => ⟨by simp, fun i hi => absurd hi (Nat.not_lt_zero _), fun i j hi => absurd hi (Nat.not_lt_zero _)⟩
  | r :: rows, h => by
    have hr : r.length = L := h 0 (by simp)
    have ih := flatR_of (L := L) (rows := rows) fun i hi => h (i + 1) (by simpa using hi)
    refine ⟨?_, h, fun i j hi hj => ?_⟩
    · rw [List.flatten_cons, List.length_append, ih.len, List.length_cons, Nat.add_mul, Nat.one_mul]
      omega
    · rw [List.flatten_cons]
      cases i with
      | zero =>
        simp only [List.getD_eq_getElem?_getD, Nat.zero_mul, Nat.zero_add]
        rw [List.getElem?_append_left (by omega)]
        rfl
      | succ i =>
        have := ih.at_ i j (by simpa using hi) hj
        simp only [List.getD_eq_getElem?_getD] at this ⊢
        rw [List.getElem?_append_right (by rw [Nat.add_mul]; omega), show (i + 1) * L + j - r.length = i * L + j by rw [Nat.add_mul, Nat.one_mul]; omega, this]
        rfl
theorem FlatR.flatten {L : Nat} {rows : List (List Int)} {data : List Int} (h : FlatR L rows data) : data = rows.flatten := h.eq (flatR_of h.wid)
/-- an early end of the reduction changes nothing -/
theorem red_full {p : Int} {rows : List (List Int)} {k : Nat} (hl : (redTo p rows k).1.length ≤ (redTo p rows k).2.length) : ∀ m, redTo p rows (k + m) = redTo p rows k
  | 0 => rfl
  | m + 1 => by
    have ih := red_full hl m
    show redStep p (k + m) (redTo p rows (k + m)) = _
    rw [ih]
    have hge := findRow_ge (redTo p rows k).1 (k + m) (redTo p rows k).2.length
    unfold redStep
    simp only
    rw [if_neg (by omega)]
/-- how the reference clears a row -/
theorem clear_same (p f a b : Int) : (a - f * b) % p = (a + (p - f) * b) % p := by
  rw [show a + (p - f) * b = a - f * b + p * b by rw [Int.sub_mul]; omega, Int.add_mul_emod_self_left]
end Go.Proofs.YtenlhfimdpcaoaaGreat

namespace Go.Proofs.YtenlhfimdpcaoaaGreat
open Go.RowKit

/-- a list of n times s numbers by their places -/
def flatL (n s : Nat) (e : Nat → Nat → Int) : List Int := (List.range (n * s)).map fun q => e (q / s) (q % s)
theorem flatL_length (n s : Nat) (e : Nat → Nat → Int) : (flatL n s e).length = n * s := by simp [flatL]
theorem flat_div {s i j : Nat} (hj : j < s) : (i * s + j) / s = i ∧ (i * s + j) % s = j :=
  ⟨by rw [Nat.mul_comm, Nat.mul_add_div (by omega), Nat.div_eq_of_lt hj, Nat.add_zero], by rw [Nat.mul_comm, Nat.mul_add_mod, Nat.mod_eq_of_lt hj]⟩
theorem flatL_get {n s i j : Nat} (hi : i < n) (hj : j < s) (e : Nat → Nat → Int) : (flatL n s e).getD (i * s + j) 0 = e i j := by
  unfold flatL
  rw [List.getD_eq_getElem?_getD, List.getElem?_map, List.getElem?_range (flat_lt hi hj)]
  simp only [Option.map_some, Option.getD_some]
  rw [(flat_div hj).1, (flat_div hj).2]
theorem flatL_congr {n s : Nat} {e f : Nat → Nat → Int} (h : ∀ i j, i < n → j < s → e i j = f i j) : flatL n s e = flatL n s f := by
  unfold flatL
  apply List.map_congr_left
  intro q hq
  rw [List.mem_range] at hq
  have hs : 0 < s := by
    rcases Nat.eq_zero_or_pos s with h0 | h0
    · subst h0; simp at hq
    · exact h0
  exact h _ _ (Nat.div_lt_of_lt_mul (by rw [Nat.mul_comm]; exact hq)) (Nat.mod_lt _ hs)
theorem flatL_set {n s i j : Nat} (hj : j < s) (e : Nat → Nat → Int) (v : Int) :
    (flatL n s e).set (i * s + j) v = flatL n s fun i' j' => if i' = i ∧ j' = j then v else e i' j' := by
  apply List.ext_getElem?
  intro q
  rw [List.getElem?_set]
  by_cases hq : q < n * s
  · unfold flatL
    rw [List.length_map, List.length_range, List.getElem?_map, List.getElem?_map, List.getElem?_range hq]
    simp only [Option.map_some]
    by_cases e : i * s + j = q
    · subst e
      rw [if_pos rfl, if_pos hq, (flat_div hj).1, (flat_div hj).2, if_pos ⟨rfl, rfl⟩]
    · rw [if_neg e, if_neg]
      intro h
      apply e
      have h1 := Nat.div_add_mod q s
      rw [h.1, h.2, Nat.mul_comm] at h1
      exact h1
  · have h1 : (flatL n s e)[q]? = none := List.getElem?_eq_none (by rw [flatL_length]; omega)
    have h2 : (flatL n s fun i' j' => if i' = i ∧ j' = j then v else e i' j')[q]? = none := List.getElem?_eq_none (by rw [flatL_length]; omega)
    rw [h1, h2, flatL_length]
    split
    · rename_i h3; rw [h3, if_neg hq]
    · rfl
theorem flatL_own {n s : Nat} {l : List Int} (h : l.length = n * s) : l = flatL n s fun i j => l.getD (i * s + j) 0 := by
  apply List.ext_getElem?
  intro q
  by_cases hq : q < n * s
  · unfold flatL
    rw [List.getElem?_map, List.getElem?_range hq]
    simp only [Option.map_some]
    have h1 := Nat.div_add_mod q s
    rw [Nat.mul_comm] at h1
    rw [h1, List.getD_eq_getElem?_getD, List.getElem?_eq_getElem (by omega)]
    rfl
  · rw [List.getElem?_eq_none (by omega), List.getElem?_eq_none (by rw [flatL_length]; omega)]
/-- the numbers of rows -/
def entR (R : List (List Int)) (i j : Nat) : Int := (R.getD i []).getD j 0
theorem flat_rows {p : Int} {s : Nat} {R : List (List Int)} (h : Rows p s R) : R.flatten = flatL R.length s (entR R) := by
  have hf := flatR_of (L := s) (rows := R) (fun i hi => h.len i hi)
  rw [flatL_own (l := R.flatten) (n := R.length) (s := s) hf.len]
  apply flatL_congr
  intro i j hi hj
  exact hf.at_ i j hi hj
/-! ### the steps, up to a column -/
/-- the rows r and k exchanged in the first m columns -/
def swapE (e : Nat → Nat → Int) (r k m i j : Nat) : Int := if j < m then (if i = r then e k j else if i = k then e r j else e i j) else e i j
theorem swapE_zero (n s : Nat) (e : Nat → Nat → Int) (r k : Nat) : flatL n s (swapE e r k 0) = flatL n s e := flatL_congr fun i j _ _ => by unfold swapE; rw [if_neg (by omega)]
theorem swapE_set {n s r k m : Nat} (hm : m < s) (e : Nat → Nat → Int) :
    ((flatL n s (swapE e r k m)).set (r * s + m) (e k m)).set (k * s + m) (e r m) = flatL n s (swapE e r k (m + 1)) := by
  rw [flatL_set hm, flatL_set hm]
  apply flatL_congr
  intro i j _ _
  unfold swapE
  by_cases h1 : i = k ∧ j = m
  · obtain ⟨rfl, rfl⟩ := h1
    rw [if_pos ⟨rfl, rfl⟩, if_pos (by omega)]
    by_cases h2 : i = r
    · subst h2; rw [if_pos rfl]
    · rw [if_neg h2, if_pos rfl]
  · rw [if_neg h1]
    by_cases h2 : i = r ∧ j = m
    · obtain ⟨rfl, rfl⟩ := h2
      rw [if_pos ⟨rfl, rfl⟩, if_pos (by omega), if_pos rfl]
    · rw [if_neg h2]
      by_cases h3 : j < m
      · rw [if_pos h3, if_pos (by omega : j < m + 1)]
      · rw [if_neg h3]
        by_cases h4 : j < m + 1
        · rw [if_pos h4, if_neg (by omega : ¬ i = r), if_neg (by omega : ¬ i = k)]
        · rw [if_neg h4]
/-- the row r times x in the first m columns -/
def scaleE (p x : Int) (e : Nat → Nat → Int) (r m i j : Nat) : Int := if i = r ∧ j < m then e i j * x % p else e i j
theorem scaleE_zero (n s : Nat) (p x : Int) (e : Nat → Nat → Int) (r : Nat) : flatL n s (scaleE p x e r 0) = flatL n s e := flatL_congr fun i j _ _ => by unfold scaleE; rw [if_neg (by omega)]
theorem scaleE_set {n s r m : Nat} (hm : m < s) (p x : Int) (e : Nat → Nat → Int) : (flatL n s (scaleE p x e r m)).set (r * s + m) (e r m * x % p) = flatL n s (scaleE p x e r (m + 1)) := by
  rw [flatL_set hm]
  apply flatL_congr
  intro i j _ _
  unfold scaleE
  by_cases h1 : i = r ∧ j = m
  · obtain ⟨rfl, rfl⟩ := h1
    rw [if_pos ⟨rfl, rfl⟩, if_pos ⟨rfl, by omega⟩]
  · rw [if_neg h1]
    by_cases h2 : i = r ∧ j < m
    · rw [if_pos h2, if_pos (by omega)]
    · rw [if_neg h2, if_neg (by omega)]
/-- rows cleared by the row r in column c: those ahead of a, and of a the first m columns -/
def clearE (p : Int) (e : Nat → Nat → Int) (r c a m i j : Nat) : Int := if i ≠ r ∧ e i c ≠ 0 ∧ (i < a ∨ i = a ∧ j < m) then (e i j - e i c * e r j) % p else e i j
theorem clearE_zero (n s : Nat) (p : Int) (e : Nat → Nat → Int) (r c : Nat) : flatL n s (clearE p e r c 0 0) = flatL n s e := flatL_congr fun i j _ _ => by unfold clearE; rw [if_neg (by omega)]
theorem clearE_set {n s r c a m : Nat} (hm : m < s) (p : Int) (e : Nat → Nat → Int) (ha : a ≠ r) (hf : e a c ≠ 0) :
    (flatL n s (clearE p e r c a m)).set (a * s + m) ((e a m - e a c * e r m) % p) = flatL n s (clearE p e r c a (m + 1)) := by
  rw [flatL_set hm]
  apply flatL_congr
  intro i j _ _
  unfold clearE
  by_cases h1 : i = a ∧ j = m
  · obtain ⟨rfl, rfl⟩ := h1
    rw [if_pos ⟨rfl, rfl⟩, if_pos ⟨ha, hf, by omega⟩]
  · rw [if_neg h1]
    by_cases h2 : i ≠ r ∧ e i c ≠ 0 ∧ (i < a ∨ i = a ∧ j < m)
    · rw [if_pos h2, if_pos ⟨h2.1, h2.2.1, by omega⟩]
    · rw [if_neg h2, if_neg (fun h => h2 ⟨h.1, h.2.1, by omega⟩)]
theorem clearE_next {n s : Nat} (p : Int) (e : Nat → Nat → Int) (r c a : Nat) : flatL n s (clearE p e r c a s) = flatL n s (clearE p e r c (a + 1) 0) :=
  flatL_congr fun i j _ hj => by
    unfold clearE
    by_cases h2 : i ≠ r ∧ e i c ≠ 0 ∧ (i < a ∨ i = a ∧ j < s)
    · rw [if_pos h2, if_pos ⟨h2.1, h2.2.1, by omega⟩]
    · rw [if_neg h2, if_neg (fun h => h2 ⟨h.1, h.2.1, by omega⟩)]
theorem clearE_same {n s : Nat} (p : Int) (e : Nat → Nat → Int) (r c a : Nat) (h : a = r ∨ e a c = 0) : flatL n s (clearE p e r c a 0) = flatL n s (clearE p e r c (a + 1) 0) :=
  flatL_congr fun i j _ _ => by
    unfold clearE
    by_cases h2 : i ≠ r ∧ e i c ≠ 0 ∧ (i < a ∨ i = a ∧ j < 0)
    · rw [if_pos h2, if_pos ⟨h2.1, h2.2.1, by omega⟩]
    · rw [if_neg h2, if_neg]
      intro h3
      refine h2 ⟨h3.1, h3.2.1, .inl ?_⟩
      rcases h with h | h
      · omega
      · by_cases e1 : i = a
        · subst e1; exact absurd h h3.2.1
        · omega
/-- one column whole -/
theorem redStep_flat {p : Int} {s k n r : Nat} {R : List (List Int)} {P : List Int} (hp : 0 < p) (hR : Rows p s R) (hn : R.length = n) (hk : k < s) (hr : r < n) (hpr : P.length ≤ r) (hz : ∀ i, P.length ≤ i → i < r → entR R i k = 0) (hne : entR R r k ≠ 0) :
    (redStep p k (R, P)).2 = P ++ [(k : Int)] ∧
      (redStep p k (R, P)).1.flatten = flatL n s (clearE p (scaleE p (invP (swapE (entR R) P.length r s P.length k) p) (swapE (entR R) P.length r s) P.length s) P.length k n 0) := by
  subst hn
  have hf := findRow_at (rows := R) (c := k) hpr hr hz hne
  have hok := RedOk.step (n := R.length) (k := k) hp (L := s) (st := (R, P.take 0)) ⟨hR, rfl, by simp, by simp, fun i hi => by simp at hi⟩
  clear hok
  have hPl : P.length < R.length := by omega
  have hs1 := hR.swap r P.length hr hPl
  have hsl : (swapR R r P.length).length = R.length := swapR_length _ _ _
  have hsg : ∀ i j, i < R.length → j < s → ((swapR R r P.length).getD i []).getD j 0 = swapE (entR R) P.length r s i j := by
    intro i j hi hj
    rw [swapR_get R r P.length i hr hPl]
    unfold swapE entR
    rw [if_pos hj]
    by_cases e1 : P.length = i
    · rw [if_pos e1, if_pos e1.symm]
    · rw [if_neg e1, if_neg (show ¬ i = P.length from fun h => e1 h.symm)]
      by_cases e2 : r = i
      · rw [if_pos e2, if_pos e2.symm]
      · rw [if_neg e2, if_neg (show ¬ i = r from fun h => e2 h.symm)]
  have hx := hsg P.length k hPl hk
  generalize hxe : invP (((swapR R r P.length).getD P.length []).getD k 0) p = x
  have hs2 := hs1.set P.length (r := scaleR p x ((swapR R r P.length).getD P.length [])) (by rw [scaleR_length]; exact hs1.len _ (by omega)) (Res.modL hp _ _)
  have e0 : redStep p k (R, P) = (clearTo p k P.length ((swapR R r P.length).set P.length (scaleR p x ((swapR R r P.length).getD P.length []))) R.length, P ++ [(k : Int)]) := by
    unfold redStep
    simp only
    rw [hf, if_pos hr, hxe, List.length_set, hsl]
  rw [e0]
  refine ⟨rfl, ?_⟩
  have hl2 : ((swapR R r P.length).set P.length (scaleR p x ((swapR R r P.length).getD P.length []))).length = R.length := by rw [List.length_set, hsl]
  have hg2 : ∀ i j, i < R.length → j < s → (((swapR R r P.length).set P.length (scaleR p x ((swapR R r P.length).getD P.length []))).getD i []).getD j 0 = scaleE p x (swapE (entR R) P.length r s) P.length s i j := by
    intro i j hi hj
    rw [getD_setL _ _ _ _ _ (by omega)]
    unfold scaleE
    by_cases e1 : P.length = i
    · subst e1
      rw [if_pos rfl, if_pos ⟨rfl, hj⟩, scaleR_get _ _ _ _ (by rw [hs1.len _ (by omega)]; exact hj), hsg _ _ hPl hj]
    · rw [if_neg e1, if_neg (show ¬ (i = P.length ∧ j < s) from fun h => e1 h.1.symm), hsg _ _ hi hj]
  generalize hA : (swapR R r P.length).set P.length (scaleR p x ((swapR R r P.length).getD P.length [])) = A at *
  have hc := clearTo_rows hp hs2 k P.length R.length (by omega)
  rw [flat_rows hc, clearTo_length, hl2, ← hx, hxe]
  apply flatL_congr
  intro i j hi hj
  show ((clearTo p k P.length A R.length).getD i []).getD j 0 = _
  rw [clearTo_get p k P.length A R.length (by omega) i (by omega)]
  unfold clearE
  rw [← hg2 i k hi hk]
  by_cases h1 : i < R.length ∧ i ≠ P.length ∧ (A.getD i []).getD k 0 ≠ 0
  · rw [if_pos h1, if_pos ⟨h1.2.1, h1.2.2, .inl h1.1⟩, addL_get _ _ _ _ _ (by rw [hs2.len _ (by omega)]; exact hj), hg2 i j hi hj, hg2 _ _ hPl hj, clear_same]
  · rw [if_neg h1, if_neg (fun h => h1 ⟨hi, h.1, h.2.1⟩)]
    exact hg2 i j hi hj
end Go.Proofs.YtenlhfimdpcaoaaGreat

namespace Go.Proofs.YtenlhfimdpcaoaaGreat
open Go.RowKit

theorem mul_small {a b : Int} (a0 : 0 ≤ a) (a1 : a ≤ 10007) (b0 : 0 ≤ b) (b1 : b ≤ 10007) : 0 ≤ a * b ∧ a * b ≤ 100140049 :=
  ⟨Int.mul_nonneg a0 b0, Int.le_trans (Int.mul_le_mul a1 b1 b0 (by decide)) (by decide)⟩
theorem pow_next {p y o : Int} {m : Nat} : (if m % 2 = 1 then o * y % p else o) * (y * y % p) ^ (m / 2) % p = o * y ^ m % p := by
  rw [pow_step o y m, Int.mul_emod, pow_emod, ← Int.mul_emod]
  split
  · rw [Int.mul_emod, Int.emod_emod, ← Int.mul_emod]
  · rfl
set_option maxHeartbeats 1000000 in
theorem l1Power_any (x p : Int) (n : Nat) (w : World) (hp : 2 ≤ p) (hp2 : p ≤ 10007) (hx0 : 0 ≤ x) (hx1 : x < p) (hn : n ≤ 1000000) :
    Calls Tryz.prog 201 #[.int .i64 x, .int .i64 n, .int .i64 p] w fun e w' => e = .returned (.int .i64 (x ^ n % p)) ∧ w = w' := by
  have HS : Hid ((1 : Int) * x ^ n % p = x ^ n % p) := by show _ = _; rw [Int.one_mul]
  go_enter Tryz.func201, Tryz.ntmps201
  go_wp2
  go_loop [0, 1, 7] (fun vx vn vo => ∃ (y o : Int) (m : Nat), vx = .int .i64 y ∧ vn = .int .i64 m ∧ vo = .int .i64 o ∧ m ≤ 1000000 ∧ 0 ≤ y ∧ y < p ∧ 0 ≤ o ∧ o < p ∧ Hid (o * y ^ m % p = x ^ n % p)) (fun _ vn _ => (intOf vn).toNat)
  case atStart => exact ⟨x, 1, n, rfl, rfl, rfl, hn, hx0, hx1, by omega, by omega, HS⟩
  case round =>
    clear HS
    obtain ⟨y, o, m, rfl, rfl, rfl, hm, y0, y1, o0, o1, HE⟩ := hrel
    obtain ⟨q1, q2⟩ := mul_small o0 (by omega) y0 (by omega : y ≤ 10007)
    obtain ⟨q3, q4⟩ := mul_small y0 (by omega : y ≤ 10007) y0 (by omega)
    have e1 : IntKind.i64.wrap (o * y) = o * y := wrap_in (by omega) (by omega)
    have e2 : IntKind.i64.wrap (y * y) = y * y := wrap_in (by omega) (by omega)
    have e3 : Int.tmod (o * y) p = o * y % p := Int.tmod_eq_emod_of_nonneg q1
    have e4 : Int.tmod (y * y) p = y * y % p := Int.tmod_eq_emod_of_nonneg q3
    have e5 : Int.tmod (m : Int) 2 = ((m % 2 : Nat) : Int) := by rw [Int.tmod_eq_emod_of_nonneg (by omega)]; omega
    have e6 : Int.tdiv (m : Int) 2 = ((m / 2 : Nat) : Int) := by rw [Int.tdiv_eq_ediv_of_nonneg (by omega)]; omega
    have hpz : ¬ p = 0 := by omega
    have hoy := Int.emod_nonneg (o * y) hpz
    have hoy2 := Int.emod_lt_of_pos (o * y) (by omega : 0 < p)
    have hyy := Int.emod_nonneg (y * y) hpz
    have hyy2 := Int.emod_lt_of_pos (y * y) (by omega : 0 < p)
    have HN := hidP (pow_next (p := p) (y := y) (o := o) (m := m))
    by_cases hlt : 0 < m
    · by_cases hodd : m % 2 = 1
      · have HN2 : Hid (o * y % p * (y * y % p) ^ (m / 2) % p = x ^ n % p) := by
          have h := HN.out
          rw [if_pos hodd] at h
          exact h.trans HE.out
        clear HN HE
        generalize o * y % p = o2 at *
        generalize y * y % p = y2 at *
        go_wp2
        go_roundw
        case rel => exact ⟨y2, o2, m / 2, rfl, by go_num, rfl, by omega, by omega, by omega, by omega, by omega, HN2⟩
        case measure => simp [intOf]; omega
      · have HN2 : Hid (o * (y * y % p) ^ (m / 2) % p = x ^ n % p) := by
          have h := HN.out
          rw [if_neg hodd] at h
          exact h.trans HE.out
        clear HN HE
        generalize o * y % p = o2 at *
        generalize y * y % p = y2 at *
        go_wp2
        go_roundw
        case rel => exact ⟨y2, o, m / 2, rfl, by go_num, rfl, by omega, by omega, by omega, by omega, by omega, HN2⟩
        case measure => simp [intOf]; omega
    · obtain rfl : m = 0 := by omega
      have hv : o = x ^ n % p := by
        have h := HE.out
        rw [Int.pow_zero, Int.mul_one, Int.emod_eq_of_lt o0 o1] at h
        exact h
      go_wp2
      go_ret
      exact ⟨by rw [← hv]; rfl, rfl⟩
theorem l1Inverse_any (x p : Int) (w : World) (hp : 2 ≤ p) (hp2 : p ≤ 10007) (hx0 : 0 ≤ x) (hx1 : x < p) :
    Calls Tryz.prog 181 #[.int .i64 x, .int .i64 p] w fun e w' => e = .returned (.int .i64 (x ^ (p.toNat - 2) % p)) ∧ w = w' := by
  obtain ⟨m, hm⟩ : ∃ m : Nat, m = p.toNat - 2 := ⟨_, rfl⟩
  have e1 : IntKind.i64.wrap (p - 2) = (m : Int) := by rw [hm, wrap_in (by omega) (by omega)]; omega
  have HP := hidP (l1Power_any x p m w hp hp2 hx0 hx1 (by omega))
  rw [← hm]
  have hpz : ¬ p = 0 := by omega
  have e2 : Int.tmod (x ^ m % p) p = x ^ m % p := by rw [Int.tmod_eq_emod_of_nonneg (Int.emod_nonneg _ hpz), Int.emod_emod]
  clear hm
  generalize x ^ m % p = v at *
  go_enter Tryz.func181, Tryz.ntmps181
  go_wp2_with fail
  refine HP.out.mono ?_
  rintro e w1 ⟨rfl, rfl⟩
  go_wp2
  go_ret
  exact ⟨rfl, rfl⟩
theorem invP_two : invP 1 2 = 1 := by decide
theorem invP_powI {p x : Int} (hp : primeB p = true) (h1 : 1 ≤ x) (hx : x < p) : x ^ (p.toNat - 2) % p = invP x p := by
  obtain ⟨p2, p7⟩ := prime_bounds hp
  obtain ⟨q, rfl⟩ := Int.eq_ofNat_of_zero_le (show 0 ≤ p by omega)
  obtain ⟨a, rfl⟩ := Int.eq_ofNat_of_zero_le (show 0 ≤ x by omega)
  rw [invP_pow hp (by omega) (by omega)]
  rfl
set_option maxHeartbeats 1000000 in
theorem inverseOf_any (n p : Int) (w : World) (hp : primeB p = true) (hn : n % p ≠ 0) :
    Calls Tryz.prog 153 #[.int .i64 n, .int .i64 p] w fun e w' => e = .returned (.int .i64 (invP (n % p) p)) ∧ w = w' := by
  obtain ⟨p2, p7⟩ := prime_bounds hp
  have h0 := Int.emod_nonneg n (show p ≠ 0 by omega)
  have h1 := Int.emod_lt_of_pos n (show 0 < p by omega)
  have HP := hidP (sIsPrime_any p w)
  rw [hp] at HP
  have HM := hidP (l1Mod_any n p w (by omega) (by omega))
  have HI := hidP (l1Inverse_any (n % p) p w p2 p7 h0 h1)
  rw [invP_powI hp (by omega) h1] at HI
  have HT := hidP invP_two
  have hE : Hid (p = 2 → n % p = 1) := by show _ → _; intro h; omega
  clear hp
  generalize n % p = m at *
  go_enter Tryz.func153, Tryz.ntmps153
  go_wp2_with fail
  refine HP.out.mono ?_
  rintro e w1 ⟨rfl, rfl⟩
  go_wp2_with fail
  refine HM.out.mono ?_
  rintro e w1 ⟨rfl, rfl⟩
  by_cases h2 : p = 2
  · have hm1 := hE.out h2
    subst hm1
    subst h2
    go_wp2
    go_ret
    exact ⟨by rw [HT.out]; rfl, rfl⟩
  · go_wp2_with fail
    refine HM.out.mono ?_
    rintro e w1 ⟨rfl, rfl⟩
    go_wp2_with fail
    refine HI.out.mono ?_
    rintro e w1 ⟨rfl, rfl⟩
    go_wp2
    go_ret
    exact ⟨rfl, rfl⟩
end Go.Proofs.YtenlhfimdpcaoaaGreat

namespace Go.Proofs.YtenlhfimdpcaoaaGreat
open Go.RowKit

theorem UpdI.put0 {w0 w : World} {g m : Nat} {ys : List Int} (h : UpdI w0 w (some ⟨g, 0, none⟩) m ys) {i : Nat} (hi : i < m) (v : Int) : UpdI w0 (w.setCell ⟨g, i, none⟩ (.int .i64 v)) (some ⟨g, 0, none⟩) m (ys.set i v) := by
  have := h.store i hi v
  rwa [Nat.zero_add] at this
theorem OwnI.put0 {w : World} {B g n c : Nat} {xs : List Int} (h : OwnI w B (some ⟨g, 0, none⟩) n c xs) {i : Nat} (hi : i < n) (v : Int) : OwnI (w.setCell ⟨g, i, none⟩ (.int .i64 v)) B (some ⟨g, 0, none⟩) n c (xs.set i v) :=
  ((UpdI.start h.ints).put0 hi v).own h
theorem OwnI.get0 {w : World} {B g n c : Nat} {xs : List Int} (h : OwnI w B (some ⟨g, 0, none⟩) n c xs) {i : Nat} (hi : i < n) : w.cell? ⟨g, i, none⟩ = some (.int .i64 (xs.getD i 0)) ∧ w.frozen? ⟨g, i, none⟩ = false := by
  obtain ⟨b, o, e', q1⟩ := h.ints.get i hi
  simp only [Option.some.injEq, Addr.mk.injEq, and_true] at e'
  obtain ⟨rfl, rfl⟩ := e'
  rw [Nat.zero_add] at q1
  exact ⟨q1, by have := h.unfrozen i g 0 hi rfl; rwa [Nat.zero_add] at this⟩
theorem OwnI.setOf {w : World} {B n c : Nat} {a : Option Addr} {xs : List Int} (h : OwnI w B a n c xs) (b i : Nat) (v : Value) (hne : ∀ g o, a = some ⟨g, o, none⟩ → g ≠ b) : OwnI (w.setCell ⟨b, i, none⟩ v) B a n c xs :=
  h.grown (row := some b) ⟨rfl, rfl, rfl, by simp [World.setCell], fun k _ hk => Below.heap_setCell _ _ _ _ (fun e => hk (by rw [e]))⟩ (fun g' o e => by simpa using hne g' o e)
/-- the numbers, the matrix's block, the pivots -/
structure RedS (w : World) (b5 Bd Bp : Nat) (p : Int) (n s : Nat) (ad : Option Addr) (N cd : Nat) (D : List Int) (ap : Option Addr) (np cp : Nat) (P : List Int) : Prop where
  data : OwnI w Bd ad N cd D
  mat : MatB w b5 p n s ad N cd
  piv : OwnI w Bp ap np cp P
  gl : ∀ b o, ad = some ⟨b, o, none⟩ → b < Bp
namespace RedS
variable {w w' : World} {b5 Bd Bp : Nat} {p : Int} {n s : Nat} {ad : Option Addr} {N cd : Nat} {D : List Int} {ap : Option Addr} {np cp : Nat} {P : List Int}
theorem below (h : RedS w b5 Bd Bp p n s ad N cd D ap np cp P) (hx : Ext w w') : RedS w' b5 Bd Bp p n s ad N cd D ap np cp P := ⟨h.data.below hx, h.mat.below hx, h.piv.below hx, h.gl⟩
theorem cells (h : RedS w b5 Bd Bp p n s ad N cd D ap np cp P) (hx : Ext w w') : w'.cell? ⟨b5, 0, none⟩ = some (.int .i64 p) ∧ w'.cell? ⟨b5, 1, none⟩ = some (.int .i64 (n : Int)) ∧ w'.cell? ⟨b5, 2, none⟩ = some (.int .i64 (s : Int)) ∧ w'.cell? ⟨b5, 3, none⟩ = some (.slice ad N cd) := by
  have := (h.mat.below hx).at'
  exact ⟨this.c0, this.c1, this.c2, this.c3⟩
theorem put {g : Nat} (h : RedS w b5 Bd Bp p n s (some ⟨g, 0, none⟩) N cd D ap np cp P) {i : Nat} (hi : i < N) (v : Int) : RedS (w.setCell ⟨g, i, none⟩ (.int .i64 v)) b5 Bd Bp p n s (some ⟨g, 0, none⟩) N cd (D.set i v) ap np cp P :=
  ⟨h.data.put0 hi v, h.mat.other _ (h.mat.ne h.data rfl), h.piv.setOf g i _ (fun g' o e => by have := (h.piv.at_base g' o e).1; have := h.gl g 0 rfl; omega), h.gl⟩
theorem num {g : Nat} (h : RedS w b5 Bd Bp p n s (some ⟨g, 0, none⟩) N cd D ap np cp P) (hx : Ext w w') {i : Nat} (hi : i < N) : w'.cell? ⟨g, i, none⟩ = some (.int .i64 (D.getD i 0)) ∧ w'.frozen? ⟨g, i, none⟩ = false := (h.data.below hx).get0 hi
theorem push (h : RedS w b5 Bd Bp p n s ad N cd D ap np cp P) (hg : w.grownBy w' (Value.slice ap np cp).ownBlock) {a2 : Option Addr} {n2 c2 : Nat} {P2 : List Int} (ho : OwnI w' Bp a2 n2 c2 P2) : RedS w' b5 Bd Bp p n s ad N cd D a2 n2 c2 P2 := by
  refine ⟨h.data.grown hg fun g o e e2 => ?_, h.mat.grown h.piv hg, ho, h.gl⟩
  cases ap with
  | none => simp [Value.ownBlock] at e2
  | some q =>
    simp only [Value.ownBlock, Option.some.injEq] at e2
    have := h.piv.addr_base q rfl
    have := h.gl g o e
    omega
theorem ext {w0 : World} (h : RedS w b5 Bd Bp p n s ad N cd D ap np cp P) (hx : Ext w0 w) (hg : w.grownBy w' (Value.slice ap np cp).ownBlock) (hb : w0.heap.size ≤ Bp) : Ext w0 w' :=
  grown_ext hg hx hx.size (fun q e => by have := h.piv.addr_base q e; omega)
end RedS
/-- where a number lies -/
structure IdxS (N i s t j : Nat) : Prop where
  w1 : IntKind.i64.wrap ((i : Int) * (s : Int)) = (t : Int)
  w2 : IntKind.i64.wrap ((t : Int) + (j : Int)) = (t : Int) + (j : Int)
  lo : 0 ≤ (t : Int) + (j : Int)
  hi : (t : Int) + (j : Int) < (N : Int)
  nat : ((t : Int) + (j : Int)).toNat = t + j
theorem idxS {n s i j N : Nat} (hN : N = n * s) (hNb : N ≤ 1000000) (hi : i < n) (hj : j < s) : ∃ t : Nat, i * s = t ∧ t + j < N ∧ IdxS N i s t j := by
  have h := flat_lt (L := s) hi hj
  refine ⟨i * s, rfl, by omega, ?_, wrap_in (by omega) (by omega), by omega, by omega, by omega⟩
  have e : (i : Int) * (s : Int) = ((i * s : Nat) : Int) := (Int.natCast_mul _ _).symm
  rw [e]
  exact wrap_in (by omega) (by omega)
/-! ### numbers that stay residues -/
def BndE (p : Int) (n s : Nat) (e : Nat → Nat → Int) : Prop := ∀ i j, i < n → j < s → 0 ≤ e i j ∧ e i j < p
theorem swapE_bnd {p : Int} {n s r k : Nat} {e : Nat → Nat → Int} (h : BndE p n s e) (hr : r < n) (hk : k < n) (m : Nat) : BndE p n s (swapE e r k m) := by
  intro i j hi hj
  unfold swapE
  split
  · split
    · exact h _ _ hk hj
    · split
      · exact h _ _ hr hj
      · exact h _ _ hi hj
  · exact h _ _ hi hj
theorem scaleE_bnd {p x : Int} (hp : 0 < p) {n s r : Nat} {e : Nat → Nat → Int} (h : BndE p n s e) (m : Nat) : BndE p n s (scaleE p x e r m) := by
  intro i j hi hj
  unfold scaleE
  split
  · exact ⟨Int.emod_nonneg _ (by omega), Int.emod_lt_of_pos _ hp⟩
  · exact h _ _ hi hj
theorem swapE_at (e : Nat → Nat → Int) (r k m i : Nat) : swapE e r k m i m = e i m := by unfold swapE; rw [if_neg (by omega)]
theorem swapE_row (e : Nat → Nat → Int) (r k : Nat) {s j : Nat} (hj : j < s) : swapE e r k s r j = e k j := by unfold swapE; rw [if_pos hj, if_pos rfl]
theorem scaleE_at (p x : Int) (e : Nat → Nat → Int) (r m i : Nat) : scaleE p x e r m i m = e i m := by unfold scaleE; rw [if_neg (by omega)]
theorem clearE_at (p : Int) (e : Nat → Nat → Int) (r c a m : Nat) : clearE p e r c a m a m = e a m := by unfold clearE; rw [if_neg (by omega)]
theorem clearE_at0 (p : Int) (e : Nat → Nat → Int) (r c a j : Nat) : clearE p e r c a 0 a j = e a j := by unfold clearE; rw [if_neg (by omega)]
theorem clearE_row (p : Int) (e : Nat → Nat → Int) (r c a m j : Nat) : clearE p e r c a m r j = e r j := by unfold clearE; rw [if_neg (by simp)]
theorem entR_bnd {p : Int} {s : Nat} {R : List (List Int)} (h : Rows p s R) : BndE p R.length s (entR R) := fun _ _ hi hj => h.get hi hj
theorem redTo_all {p : Int} {R : List (List Int)} {k s : Nat} (hk : k ≤ s) (hl : (redTo p R k).1.length ≤ (redTo p R k).2.length) : redTo p R s = redTo p R k := by
  obtain ⟨m, rfl⟩ := Nat.exists_eq_add_of_le hk
  exact red_full hl m
end Go.Proofs.YtenlhfimdpcaoaaGreat

namespace Go.Proofs.YtenlhfimdpcaoaaGreat
open Go.RowKit

/-- the walk stops here -/
def Stopped (P : Prop) : Prop := P
/-- the walk stops ahead of the operation that fills a slot -/
theorem stop_at (d : Tmp) {P : Program} {ops : Array Oper} {Q : Exit → Act → World → Prop} {o : Oper} {rest : List Oper} {a : Act} {w : World} (_ : o.dst = some d) (h : Stopped (wpList P ops Q (o :: rest) a w)) : wpList P ops Q (o :: rest) a w := h
/-- two branches join: what both leave -/
theorem cond_join {P : Program} {K : Act → World → Prop} {Q : Exit → Act → World → Prop} {a : Act} {w : World} {c : Operand} {x y : Code} (G : Act → Act → World → Prop) (hmid : ∀ a' w', G a a' w' → K a' w')
    (h : (Code.cond c x y).wp P (fun e a' w' => e = .normal ∧ G a a' w') a w) : (Code.cond c x y).wp P (Exit.then K Q) a w :=
  wp_mono h fun e a' w' ⟨he, hg⟩ => by subst he; exact hmid a' w' hg

set_option maxRecDepth 100000 in
set_option maxHeartbeats 8000000 in
theorem l1Reduce_any (p : Int) (n s : Nat) (a : Option Addr) (N c : Nat) (R : List (List Int)) (w : World) (h : IntsAt w a N R.flatten) (hnil : a = none → c = 0) (hR : Rows p s R) (hn : R.length = n) (hp : primeB p = true)
    (hnb : n ≤ 100000) (hsb : s ≤ 100000) (hNb : n * s ≤ 1000000) :
    Calls Tryz.prog 112 #[matV p n s a N c] w fun e w' => ∃ a' c' ap np cp det, e = .returned (.tuple #[matV p n s a' N c', .slice ap np cp, .int .i64 det]) ∧ OwnI w' w.heap.size a' N c' (redTo p R s).1.flatten ∧ OwnI w' w.heap.size ap np cp (redTo p R s).2 ∧ Ext w w' := by
  obtain ⟨p2, p7⟩ := prime_bounds hp
  have hNl : N = n * s := by
    have h1 := h.len
    have h2 := flat_rows hR
    rw [h2, flatL_length, hn] at h1
    exact h1.symm
  have HOK := hidP (fun k => redTo_ok (by omega : 0 < p) hR k)
  rw [hn] at HOK
  have HP := hidP hp
  have HNl := hidP hNl
  have hx0 := (Ext.alloc w (.cells #[.int .i64 p, .int .i64 (n : Int), .int .i64 (s : Int), .slice a N c] 28)).trans (Ext.alloc _ (.cells #[.int .i64 0, .int .i64 0, .int .i64 0, .slice none 0 0] 28))
  have HM := hidP (MatAt.below (MatAt.new w _ rfl p n s a N c 28) (Ext.alloc _ (.cells #[.int .i64 0, .int .i64 0, .int .i64 0, .slice none 0 0] 28)))
  have hnew := fun w1 hx j => new_cell (w' := w1) (w := w.alloc (.cells #[.int .i64 p, .int .i64 (n : Int), .int .i64 (s : Int), .slice a N c] 28)) (cs := #[.int .i64 0, .int .i64 0, .int .i64 0, .slice none 0 0]) (E := 28) (b := w.heap.size + 1) (by simp) hx j
  have HC := hidP (l1Copy_any p n s a N c R.flatten _ (h.below hx0) hnil (by omega))
  have HX0w := hidP hx0
  have hsz : ((w.alloc (.cells #[.int .i64 p, .int .i64 (n : Int), .int .i64 (s : Int), .slice a N c] 28)).alloc (.cells #[.int .i64 0, .int .i64 0, .int .i64 0, .slice none 0 0] 28)).heap.size = w.heap.size + 2 := by simp
  have HRed : Hid (∀ k, redTo p R (k + 1) = redStep p k (redTo p R k)) := fun _ => rfl
  have HAll := hidP (fun k hk hl => redTo_all (p := p) (R := R) (k := k) (s := s) hk hl)
  have H0 : Hid (redTo p R 0 = (R, [])) := rfl
  clear hx0 h hR hn hp hnil
  have hNb2 : N ≤ 1000000 := by omega
  clear hNl
  go_enter Tryz.func112, Tryz.ntmps112
  have f0 := HM.out.c0
  have f1 := HM.out.c1
  have f2 := HM.out.c2
  have f3 := HM.out.c3
  go_wp2_with fail
  clear f0 f1 f2 f3
  obtain ⟨wb, hwb⟩ : ∃ wb, wb = ((w.alloc (.cells #[.int .i64 p, .int .i64 (n : Int), .int .i64 (s : Int), .slice a N c] 28)).alloc (.cells #[.int .i64 0, .int .i64 0, .int .i64 0, .slice none 0 0] 28)) := ⟨_, rfl⟩
  rw [← hwb] at HM hnew HC HX0w hsz ⊢
  clear hwb
  have HNW := hidP hnew
  have HSZ := hidP hsz
  clear hnew hsz
  refine HC.out.mono ?_
  rintro e wc ⟨ac, cc, rfl, hoc, hxc⟩
  have HOC := hidP hoc
  have HXC := hidP hxc
  have HM1 := hidP ((HM.out.below hxc).c0)
  clear HC HM hoc hxc
  have f0 := HM1.out
  have hx1 := (Ext.alloc wc (.cells #[.int .i64 p, .int .i64 (n : Int), .int .i64 (s : Int), .slice ac N cc] 28)).trans (Ext.alloc _ (.cells #[] 3))
  have hs1 : (wc.alloc (.cells #[.int .i64 p, .int .i64 (n : Int), .int .i64 (s : Int), .slice ac N cc] 28)).heap.size = wc.heap.size + 1 := by simp
  have hm := OwnI.made (wc.alloc (.cells #[.int .i64 p, .int .i64 (n : Int), .int .i64 (s : Int), .slice ac N cc] 28)) (wc.heap.size + 1) 0 (by omega) (by unfold maxLen; omega)
  rw [show Array.replicate 0 (Value.int .i64 0) = #[] from rfl, hs1] at hm
  have HR0 : Hid (RedS ((wc.alloc (.cells #[.int .i64 p, .int .i64 (n : Int), .int .i64 (s : Int), .slice ac N cc] 28)).alloc (.cells #[] 3)) wc.heap.size wb.heap.size (wc.heap.size + 1) p n s ac N cc (redTo p R 0).1.flatten (some ⟨wc.heap.size + 1, 0, none⟩) 0 0 (redTo p R 0).2) :=
    ⟨HOC.out.below hx1, (MatB.new wc p n s ac N cc).below (Ext.alloc _ _), hm, fun b o e => by have := (HOC.out.at_base b o e).2; omega⟩
  have HX1 := hidP (HXC.out.trans hx1)
  have HPM : Hid (Int.tmod 1 p = 1) := by show _ = _; rw [Int.tmod_eq_emod_of_nonneg (by omega)]; exact Int.emod_eq_of_lt (by omega) (by omega)
  have hpm := HPM.out
  have hpz : ¬ p = 0 := by omega
  have HM2 := hidP ((Below.refl _ _ : Ext ((wc.alloc (.cells #[.int .i64 p, .int .i64 (n : Int), .int .i64 (s : Int), .slice ac N cc] 28)).alloc (.cells #[] 3)) _))
  have f1 := (hx1.cell (World.block_lt_of_cell? wc _ f0)).trans f0
  clear hx1 hm HM2 H0
  go_wp2
  clear f0 f1 hpm
  obtain ⟨w0, hw0⟩ : ∃ w0, w0 = (wc.alloc (.cells #[.int .i64 p, .int .i64 (n : Int), .int .i64 (s : Int), .slice ac N cc] 28)).alloc (.cells #[] 3) := ⟨_, rfl⟩
  rw [← hw0] at HR0 HX1 ⊢
  clear hw0 hs1
  have HBD : Hid (wb.heap.size ≤ wc.heap.size) := HXC.out.size
  obtain ⟨b5, hb5⟩ : ∃ b5, b5 = wc.heap.size := ⟨_, rfl⟩
  rw [← hb5] at HR0 HBD ⊢
  clear hb5 HOC HXC HM1
  go_loopw [6, 7, 8] (fun v6 v7 v8 wr => ∃ (k : Nat) (ap : Option Addr) (np cp : Nat) (dt : Int), k ≤ s ∧ v6 = .slice ap np cp ∧ v7 = .int .i64 dt ∧ v8 = .int .i64 k ∧ 0 ≤ dt ∧ dt < p ∧
    Hid (RedS wr b5 wb.heap.size (b5 + 1) p n s ac N cc (redTo p R k).1.flatten ap np cp (redTo p R k).2) ∧ Hid (Ext wb wr)) (fun _ _ v8 _ => s - (intOf v8).toNat)
  case atStart => exact ⟨0, _, 0, 0, 1, Nat.zero_le _, rfl, rfl, rfl, by omega, by omega, HR0, HX1⟩
  case round =>
    clear HR0 HX1
    obtain ⟨k, ap, np, cp, dt, hk, rfl, rfl, rfl, d0, d1, HR, HX⟩ := hrel
    have hok := HOK.out k
    have HRw := hidP hok.rows
    have hln := hok.len
    have hpl := HR.out.piv.len
    have hpn := hok.pn
    have HL := hidP hln
    have HPL := hidP hpl
    rw [hpl] at hpn
    have HSt := hidP (HRed.out k)
    have HAl := hidP (HAll.out k hk)
    clear hok
    obtain ⟨f0, f1, f2, f3⟩ := HR.out.cells (Below.refl _ _)
    by_cases hks : k < s
    · by_cases hpr : np < n
      · have hN0 : 0 < N := by rw [HNl.out]; exact Nat.mul_pos (by omega) (by omega)
        obtain ⟨g, rfl, hg1, -⟩ := HR.out.data.cell 0 hN0
        generalize hst : redTo p R k = st at *
        clear hst
        obtain ⟨R1, P⟩ := st
        dsimp only at HRw hln hpl HR HSt HL HPL
        obtain ⟨E, hE⟩ : ∃ E, E = entR R1 := ⟨_, rfl⟩
        have hD : R1.flatten = flatL n s E := by rw [flat_rows HRw.out, hE, HL.out]
        have HB : Hid (BndE p n s E) := by
          have := entR_bnd HRw.out
          rw [HL.out] at this
          rw [hE]
          exact this
        rw [hD] at HR
        have HD := hidP hD
        have HSt0 : Hid ((∀ i, np ≤ i → i < n → E i k = 0) → redTo p R (k + 1) = (R1, P)) := fun hz => by
          rw [HSt.out]
          exact redStep_none HL.out (by have := HPL.out; omega) (fun i h1 h2 => by have := hz i (by have := HPL.out; omega) h2; rw [hE] at this; exact this)
        have HSt1 : Hid (∀ q, np ≤ q → q < n → (∀ i, np ≤ i → i < q → E i k = 0) → E q k ≠ 0 → (redTo p R (k + 1)).2 = P ++ [(k : Int)] ∧ (redTo p R (k + 1)).1.flatten = flatL n s (clearE p (scaleE p (invP (swapE E np q s np k) p) (swapE E np q s) np s) np k n 0)) := fun q h1 h2 hz hne => by
          rw [HSt.out]
          have hh := redStep_flat (p := p) (k := k) (R := R1) (P := P) (r := q) (by omega) HRw.out HL.out hks h2 (by rw [HPL.out]; exact h1) (fun i h3 h4 => by have := hz i (by have := HPL.out; omega) h4; rw [hE] at this; exact this) (by rw [hE] at hne; exact hne)
          rw [HPL.out, ← hE] at hh
          exact hh
        clear hE hD HRw HSt HAl HL HPL hln hpl hpn
        obtain ⟨wo, rfl⟩ : ∃ wo : World, wo = wr := ⟨_, rfl⟩
        go_wp2
        go_loopw [10] (fun v wr2 => ∃ q : Nat, np ≤ q ∧ q ≤ n ∧ v = .int .i64 q ∧ Hid (∀ i, np ≤ i → i < q → E i k = 0) ∧ Hid (Ext wo wr2)) (fun v _ => n - (intOf v).toNat)
        case atStart => exact ⟨np, Nat.le_refl _, by omega, rfl, fun i h1 h2 => by omega, Below.refl _ _⟩
        case round =>
          clear f0 f1 f2 f3
          obtain ⟨q, hq1, hq2, rfl, HZ, HXq⟩ := hrel
          obtain ⟨f0, f1, f2, f3⟩ := HR.out.cells HXq.out
          by_cases hqn : q < n
          · have hix := flat_lt (L := s) hqn hks
            rw [← HNl.out] at hix
            have HAt := hidP (l1At_any p n s q k N cc _ _ wr ((HR.out.data.below HXq.out).ints) (by omega) hix)
            rw [flatL_get hqn hks] at HAt
            clear hix
            have hqb := HB.out q k hqn hks
            have hqv := flatL_get hqn hks E
            generalize hev : E q k = ev at *
            have HEv := hidP hev
            clear hev hqv
            go_wp2_with fail
            refine HAt.out.mono ?_
            rintro e w3 ⟨rfl, hx3⟩
            have HX3 := hidP (HXq.out.trans hx3)
            clear hx3 HAt f0 f1 f2 f3
            obtain ⟨f0, f1, f2, f3⟩ := HR.out.cells HX3.out
            by_cases hz : ev = 0
            · subst hz
              go_wp2
              go_roundw
              case rel => exact ⟨q + 1, by omega, by omega, by go_num, fun i h1 h2 => by
                rcases Nat.lt_succ_iff_lt_or_eq.1 h2 with h | h
                · exact HZ.out i h1 h
                · rw [h]; exact HEv.out, HX3⟩
              case measure => simp [intOf]; omega
            · have HS1 := hidP (HSt1.out q hq1 hqn HZ.out (by rw [HEv.out]; exact hz))
              obtain ⟨E1, hE1⟩ : ∃ E1, E1 = swapE E np q s := ⟨_, rfl⟩
              have HB1 : Hid (BndE p n s E1) := by show BndE _ _ _ _; rw [hE1]; exact swapE_bnd HB.out hpr hqn s
              have HE1v : Hid (E1 np k = ev) := by show _ = _; rw [hE1, swapE_row E np q hks]; exact HEv.out
              have HSW := hidP (swapE_zero n s E np q)
              have HSS := hidP (fun m (hm : m < s) => swapE_set (n := n) (r := np) (k := q) hm E)
              have HSA := hidP (fun m i => swapE_at E np q m i)
              have HSE : Hid (flatL n s (swapE E np q s) = flatL n s E1) := by show _ = _; rw [hE1]
              rw [← hE1] at HS1
              clear hE1
              have HRw3 : Hid (RedS w3 b5 wb.heap.size (b5 + 1) p n s (some ⟨g, 0, none⟩) N cc (flatL n s (swapE E np q 0)) ap np cp P) := by show RedS _ _ _ _ _ _ _ _ _ _ _ _ _ _ _; rw [HSW.out]; exact HR.out.below HX3.out
              have HXw3 := hidP (HX.out.trans HX3.out)
              have HMd := hidP (l1Mod_any (-dt) p w3 (by omega) (by omega))
              have hneg : IntKind.i64.wrap (-dt) = -dt := wrap_in (by omega) (by omega)
              have HMb : Hid (0 ≤ (-dt) % p ∧ (-dt) % p < p) := ⟨Int.emod_nonneg _ (by omega), Int.emod_lt_of_pos _ (by omega)⟩
              have HEb : Hid (0 ≤ ev ∧ ev < p) := hqb
              clear HSt0 HSt1 HR HX HXq HX3 HZ HSW HEv hq1 hq2 hqb
              generalize (-dt) % p = dtn at *
              go_wp2_with (with_reducible (refine stop_at 59 (by rfl) ?_))
              unfold Stopped
              repeat (first | (with_reducible refine cond_join (c := .tmp 59) (fun a a' w' => ∃ (d : Int) (v60 v61 v62 v63 v64 : Value), 0 ≤ d ∧ d < p ∧ a' = ((((((a.put (some 7) (.int .i64 d)).put (some 60) v60).put (some 61) v61).put (some 62) v62).put (some 63) v63).put (some 64) v64) ∧ w' = w3) ?_ ?_) | go_skip | go_step)
              rotate_left
              · go_wp2_with fail
                refine HMd.out.mono ?_
                rintro e w4 ⟨rfl, rfl⟩
                obtain ⟨m0, m1⟩ := HMb.out
                go_wp2
              rintro a' w' ⟨dt2, v60, v61, v62, v63, v64, e0, e1, rfl, rfl⟩
              (try simp only [Act.put, List.setIfInBounds_toArray, List.set_cons_zero, List.set_cons_succ])
              clear HMd HMb hneg
              go_wp2
              go_loopw [11] (fun v wr2 => ∃ m : Nat, m ≤ s ∧ v = .int .i64 m ∧ Hid (RedS wr2 b5 wb.heap.size (b5 + 1) p n s (some ⟨g, 0, none⟩) N cc (flatL n s (swapE E np q m)) ap np cp P) ∧ Hid (Ext wb wr2)) (fun v _ => s - (intOf v).toNat)
              case atStart => exact ⟨0, Nat.zero_le _, rfl, HRw3, HXw3⟩
              case round =>
                clear HRw3 HXw3 f0 f1 f2 f3
                obtain ⟨m, hm, rfl, HR, HX⟩ := hrel
                obtain ⟨f0, f1, f2, f3⟩ := HR.out.cells (Below.refl _ _)
                by_cases hms : m < s
                · obtain ⟨t1, ht1, k3, k1, k2, k4, k5, k6⟩ := idxS HNl.out hNb2 hpr hms
                  obtain ⟨t2, ht2, l3, l1, l2, l4, l5, l6⟩ := idxS HNl.out hNb2 hqn hms
                  have hv1 := flatL_get hpr hms (swapE E np q m)
                  have hv2 := flatL_get hqn hms (swapE E np q m)
                  have hs2 := HSS.out m hms
                  rw [HSA.out, ht1] at hv1
                  rw [HSA.out, ht2] at hv2
                  rw [ht1, ht2] at hs2
                  have HS2 := hidP hs2
                  have HK3 := hidP k3
                  have HL3 := hidP l3
                  have hE : Ext wr wr.drew := Ext.drew wr
                  have HF : Hid (∀ w', Ext wr w' → w'.cell? ⟨b5, 2, none⟩ = some (.int .i64 (s : Int)) ∧ w'.cell? ⟨b5, 3, none⟩ = some (.slice (some ⟨g, 0, none⟩) N cc) ∧ w'.cell? ⟨g, t2 + m, none⟩ = some (.int .i64 (E q m))) := fun w' hx => by
                    have h1 := HR.out.cells hx
                    have h2 := HR.out.num hx HL3.out
                    rw [hv2] at h2
                    exact ⟨h1.2.2.1, h1.2.2.2, h2.1⟩
                  have u1 := (HR.out.num (Below.refl _ _) k3).1
                  rw [hv1] at u1
                  have HU1 := hidP (HR.out.num hE k3)
                  have HRA := hidP ((HR.out.put k3 (E q m)).below (Ext.drew _))
                  have HRB := hidP (((HR.out.put k3 (E q m)).put HL3.out (E np m)).below (Ext.drew _))
                  have HXA := hidP (Ext.setNew HX.out g (t1 + m) hg1 (.int .i64 (E q m)))
                  have HXB := hidP ((Ext.setNew HXA.out g (t2 + m) hg1 (.int .i64 (E np m))).trans (Ext.drew _))
                  rw [hs2] at HRB
                  clear hs2 hv1 hv2 HS2 ht1 ht2
                  generalize E q m = xq at *
                  generalize E np m = xr at *
                  go_wp2
                  (refine walkR_start (fun w' => Ext wr w') 18 (by kernel_rfl) ?_; simp only [numbered, List.take_succ_cons, List.take_zero, Nat.zero_add, Nat.reduceAdd, List.length_cons, List.length_nil])
                  repeat (refine walkR_still (v := ?_) rfl (by decide +kernel) rfl (fun _ _ _ h => h) hE ?_ ?_; rotate_left; (focus (intro w' hw'; obtain ⟨y0, y1, y2⟩ := HF.out w' hw'; go_simp; all_goals (with_reducible rfl))); simp only [Act.put, List.setIfInBounds_toArray, List.set_cons_zero, List.set_cons_succ])
                  (refine walkR_tail (by rfl) (by kernel_rfl) ?_; simp only [List.drop_succ_cons, List.drop_zero])
                  obtain ⟨u2, u3⟩ := HU1.out
                  obtain ⟨g0, g1, g2, g3⟩ := HRA.out.cells (Below.refl _ _)
                  obtain ⟨u4, u5⟩ := HRA.out.num (Below.refl _ _) l3
                  clear u1 f0 f1 f2 f3
                  go_wp2
                  go_roundw
                  case rel => exact ⟨m + 1, by omega, by go_num, HRB, HXB⟩
                  case measure => simp [intOf]; omega
                · have HRs : Hid (RedS wr b5 wb.heap.size (b5 + 1) p n s (some ⟨g, 0, none⟩) N cc (flatL n s E1) ap np cp P) := by
                    have hh := HR.out
                    rw [show m = s by omega, HSE.out] at hh
                    exact hh
                  have hE : Ext wr wr.drew := Ext.drew wr
                  have hix := flat_lt (L := s) hpr hks
                  rw [← HNl.out] at hix
                  have HAt := hidP (fun w' (hx : Ext wr w') => l1At_any p n s np k N cc _ _ w' ((HRs.out.data.below hx).ints) (by omega) hix)
                  rw [flatL_get hpr hks E1, HE1v.out] at HAt
                  have HF := hidP (fun w' (hx : Ext wr w') => HRs.out.cells hx)
                  obtain ⟨v0, v1⟩ := HEb.out
                  obtain ⟨q1, q2⟩ := mul_small e0 (by omega) v0 (by omega : ev ≤ 10007)
                  have m1 : IntKind.i64.wrap (dt2 * ev) = dt2 * ev := wrap_in (by omega) (by omega)
                  have m2 : Int.tmod (dt2 * ev) p = dt2 * ev % p := Int.tmod_eq_emod_of_nonneg q1
                  have hpz : ¬ p = 0 := by omega
                  have HD3 : Hid (0 ≤ dt2 * ev % p ∧ dt2 * ev % p < p) := ⟨Int.emod_nonneg _ hpz, Int.emod_lt_of_pos _ (by omega)⟩
                  have hvp : ev % p = ev := Int.emod_eq_of_lt v0 v1
                  have HIv := hidP (fun w' => inverseOf_any ev p w' HP.out (by rw [hvp]; exact hz))
                  rw [hvp] at HIv
                  have HIb : Hid (0 ≤ invP ev p ∧ invP ev p < p) := by
                    show _ ∧ _
                    rw [← invP_powI HP.out (by omega) v1]
                    exact ⟨Int.emod_nonneg _ hpz, Int.emod_lt_of_pos _ (by omega)⟩
                  have HS2 : Hid ((redTo p R (k + 1)).2 = P ++ [(k : Int)] ∧ (redTo p R (k + 1)).1.flatten = flatL n s (clearE p (scaleE p (invP ev p) E1 np s) np k n 0)) := by
                    have hh := HS1.out
                    rw [HE1v.out] at hh
                    exact hh
                  clear HS1 HR hix hvp HSS HSA HSE hm
                  generalize invP ev p = x at *
                  go_wp2
                  (refine walkR_start (fun w' => Ext wr w') 9 (by kernel_rfl) ?_; simp only [numbered, List.take_succ_cons, List.take_zero, Nat.zero_add, Nat.reduceAdd, List.length_cons, List.length_nil])
                  (repeat (first | (refine walkR_still (v := ?_) rfl (by decide +kernel) rfl (fun _ _ _ h => h) hE ?_ ?_; rotate_left; (focus (intro w' hw'; obtain ⟨y0, y1, y2, y3⟩ := HF.out w' hw'; go_simp; all_goals (with_reducible rfl))); simp only [Act.put, List.setIfInBounds_toArray, List.set_cons_zero, List.set_cons_succ]) | (refine walkR_skip rfl (by decide +kernel) rfl (fun _ _ _ h => h) hE ?_; simp only [Act.put, List.setIfInBounds_toArray, List.set_cons_zero, List.set_cons_succ])))
                  (refine walkR_later ?_; simp only [List.cons_append, List.nil_append]); (refine walkR_later ?_; simp only [List.cons_append, List.nil_append])
                  (repeat (first | (refine walkR_still (v := ?_) rfl (by decide +kernel) rfl (fun _ _ _ h => h) hE ?_ ?_; rotate_left; (focus (intro w' hw'; obtain ⟨y0, y1, y2, y3⟩ := HF.out w' hw'; go_simp; all_goals (with_reducible rfl))); simp only [Act.put, List.setIfInBounds_toArray, List.set_cons_zero, List.set_cons_succ]) | (refine walkR_skip rfl (by decide +kernel) rfl (fun _ _ _ h => h) hE ?_; simp only [Act.put, List.setIfInBounds_toArray, List.set_cons_zero, List.set_cons_succ])))
                  (refine walkR_later ?_; simp only [List.cons_append, List.nil_append])
                  (refine walkR_only (fun w' => Ext wr w') rfl (by decide +kernel) rfl (fun _ h => h) ?_; intro K hK; go_simp; refine (HAt.out _ hE).mono ?_; rintro e w4 ⟨rfl, hx4⟩; refine hK _ _ (hE.trans hx4) ?_; clear hK K; (try simp only [Act.put, List.setIfInBounds_toArray, List.set_cons_zero, List.set_cons_succ]))
                  have hE4 := hE.trans hx4
                  (repeat (first | (refine walkR_still (v := ?_) rfl (by decide +kernel) rfl (fun _ _ _ h => h) hE4 ?_ ?_; rotate_left; (focus (intro w' hw'; obtain ⟨y0, y1, y2, y3⟩ := HF.out w' hw'; go_simp; all_goals (with_reducible rfl))); simp only [Act.put, List.setIfInBounds_toArray, List.set_cons_zero, List.set_cons_succ]) | (refine walkR_skip rfl (by decide +kernel) rfl (fun _ _ _ h => h) hE4 ?_; simp only [Act.put, List.setIfInBounds_toArray, List.set_cons_zero, List.set_cons_succ])))
                  (refine walkR_tail (by rfl) (by kernel_rfl) ?_; simp only [List.drop_succ_cons, List.drop_zero])
                  generalize dt2 * ev % p = dt3 at *
                  go_wp2
                  have hE5 := hE4.trans (Ext.drew w4)
                  (refine walkR_start (fun w' => Ext wr w') 7 (by kernel_rfl) ?_; simp only [numbered, List.take_succ_cons, List.take_zero, Nat.zero_add, Nat.reduceAdd, List.length_cons, List.length_nil])
                  (repeat (first | (refine walkR_still (v := ?_) rfl (by decide +kernel) rfl (fun _ _ _ h => h) hE5 ?_ ?_; rotate_left; (focus (intro w' hw'; obtain ⟨y0, y1, y2, y3⟩ := HF.out w' hw'; go_simp; all_goals (with_reducible rfl))); simp only [Act.put, List.setIfInBounds_toArray, List.set_cons_zero, List.set_cons_succ]) | (refine walkR_skip rfl (by decide +kernel) rfl (fun _ _ _ h => h) hE5 ?_; simp only [Act.put, List.setIfInBounds_toArray, List.set_cons_zero, List.set_cons_succ])))
                  (refine walkR_later ?_; simp only [List.cons_append, List.nil_append])
                  (repeat (first | (refine walkR_still (v := ?_) rfl (by decide +kernel) rfl (fun _ _ _ h => h) hE5 ?_ ?_; rotate_left; (focus (intro w' hw'; obtain ⟨y0, y1, y2, y3⟩ := HF.out w' hw'; go_simp; all_goals (with_reducible rfl))); simp only [Act.put, List.setIfInBounds_toArray, List.set_cons_zero, List.set_cons_succ]) | (refine walkR_skip rfl (by decide +kernel) rfl (fun _ _ _ h => h) hE5 ?_; simp only [Act.put, List.setIfInBounds_toArray, List.set_cons_zero, List.set_cons_succ])))
                  (refine walkR_later ?_; simp only [List.cons_append, List.nil_append])
                  (refine walkR_only (fun w' => Ext wr w') rfl (by decide +kernel) rfl (fun _ h => h) ?_; intro K hK; go_simp; refine (HAt.out _ hE5).mono ?_; rintro e w5 ⟨rfl, hx5⟩; refine hK _ _ (hE5.trans hx5) ?_; clear hK K; (try simp only [Act.put, List.setIfInBounds_toArray, List.set_cons_zero, List.set_cons_succ]))
                  have hE6 := hE5.trans hx5
                  (repeat (first | (refine walkR_still (v := ?_) rfl (by decide +kernel) rfl (fun _ _ _ h => h) hE6 ?_ ?_; rotate_left; (focus (intro w' hw'; obtain ⟨y0, y1, y2, y3⟩ := HF.out w' hw'; go_simp; all_goals (with_reducible rfl))); simp only [Act.put, List.setIfInBounds_toArray, List.set_cons_zero, List.set_cons_succ]) | (refine walkR_skip rfl (by decide +kernel) rfl (fun _ _ _ h => h) hE6 ?_; simp only [Act.put, List.setIfInBounds_toArray, List.set_cons_zero, List.set_cons_succ])))
                  (refine walkR_only (fun w' => Ext wr w') rfl (by decide +kernel) rfl (fun _ h => h) ?_; intro K hK; go_simp; refine (HIv.out _).mono ?_; rintro e w6 ⟨rfl, rfl⟩; refine hK _ _ (hE6) ?_; clear hK K; (try simp only [Act.put, List.setIfInBounds_toArray, List.set_cons_zero, List.set_cons_succ]))
                  (refine walkR_tail (by rfl) (by kernel_rfl) ?_; simp only [List.drop_succ_cons, List.drop_zero])
                  have HRs2 : Hid (RedS w5 b5 wb.heap.size (b5 + 1) p n s (some ⟨g, 0, none⟩) N cc (flatL n s (scaleE p x E1 np 0)) ap np cp P) := by
                    show RedS _ _ _ _ _ _ _ _ _ _ _ _ _ _ _
                    rw [scaleE_zero]
                    exact HRs.out.below hE6
                  have HXs2 := hidP (HX.out.trans hE6)
                  have HSS := hidP (fun m (hm : m < s) => scaleE_set (n := n) (r := np) hm p x E1)
                  have HSA := hidP (fun m i => scaleE_at p x E1 np m i)
                  clear HRs HX hE hE4 hE5 hE6 hx4 hx5 HAt HIv HF q1 q2 m1 m2
                  go_wp2
                  go_loopw [14] (fun v wr2 => ∃ m : Nat, m ≤ s ∧ v = .int .i64 m ∧ Hid (RedS wr2 b5 wb.heap.size (b5 + 1) p n s (some ⟨g, 0, none⟩) N cc (flatL n s (scaleE p x E1 np m)) ap np cp P) ∧ Hid (Ext wb wr2)) (fun v _ => s - (intOf v).toNat)
                  case atStart => exact ⟨0, Nat.zero_le _, rfl, HRs2, HXs2⟩
                  case round =>
                    clear HRs2 HXs2 f0 f1 f2 f3
                    obtain ⟨m, hm, rfl, HR, HX⟩ := hrel
                    obtain ⟨f0, f1, f2, f3⟩ := HR.out.cells (Below.refl _ _)
                    by_cases hms : m < s
                    · obtain ⟨t1, ht1, k3, k1, k2, k4, k5, k6⟩ := idxS HNl.out hNb2 hpr hms
                      have hv1 := flatL_get hpr hms (scaleE p x E1 np m)
                      have hs2 := HSS.out m hms
                      rw [HSA.out, ht1] at hv1
                      rw [ht1] at hs2
                      have HK3 := hidP k3
                      obtain ⟨b0, b1⟩ := HB1.out np m hpr hms
                      have hE : Ext wr wr.drew := Ext.drew wr
                      have HF : Hid (∀ w', Ext wr w' → w'.cell? ⟨b5, 0, none⟩ = some (.int .i64 p) ∧ w'.cell? ⟨b5, 2, none⟩ = some (.int .i64 (s : Int)) ∧ w'.cell? ⟨b5, 3, none⟩ = some (.slice (some ⟨g, 0, none⟩) N cc) ∧ w'.cell? ⟨g, t1 + m, none⟩ = some (.int .i64 (E1 np m))) := fun w' hx => by
                        have h1 := HR.out.cells hx
                        have h2 := HR.out.num hx HK3.out
                        rw [hv1] at h2
                        exact ⟨h1.1, h1.2.2.1, h1.2.2.2, h2.1⟩
                      have HU1 := hidP (HR.out.num hE k3)
                      have HRA := hidP ((HR.out.put k3 (E1 np m * x % p)).below (Ext.drew _))
                      rw [hs2] at HRA
                      have HXA := hidP ((Ext.setNew HX.out g (t1 + m) hg1 (.int .i64 (E1 np m * x % p))).trans (Ext.drew _))
                      clear hs2 hv1 ht1
                      generalize E1 np m = xr at *
                      obtain ⟨i0, i1⟩ := HIb.out
                      obtain ⟨q1, q2⟩ := mul_small b0 (by omega : xr ≤ 10007) i0 (by omega)
                      have m1 : IntKind.i64.wrap (xr * x) = xr * x := wrap_in (by omega) (by omega)
                      have m2 : Int.tmod (xr * x) p = xr * x % p := Int.tmod_eq_emod_of_nonneg q1
                      go_wp2
                      (refine walkR_start (fun w' => Ext wr w') 23 (by kernel_rfl) ?_; simp only [numbered, List.take_succ_cons, List.take_zero, Nat.zero_add, Nat.reduceAdd, List.length_cons, List.length_nil])
                      repeat (refine walkR_still (v := ?_) rfl (by decide +kernel) rfl (fun _ _ _ h => h) hE ?_ ?_; rotate_left; (focus (intro w' hw'; obtain ⟨y0, y1, y2, y3⟩ := HF.out w' hw'; go_simp; all_goals (with_reducible rfl))); simp only [Act.put, List.setIfInBounds_toArray, List.set_cons_zero, List.set_cons_succ])
                      (refine walkR_tail (by rfl) (by kernel_rfl) ?_; simp only [List.drop_succ_cons, List.drop_zero])
                      obtain ⟨u2, u3⟩ := HU1.out
                      clear f0 f1 f2 f3
                      go_wp2
                      go_roundw
                      case rel => exact ⟨m + 1, by omega, by go_num, HRA, HXA⟩
                      case measure => simp [intOf]; omega
                    · have HRs : Hid (RedS wr b5 wb.heap.size (b5 + 1) p n s (some ⟨g, 0, none⟩) N cc (flatL n s (clearE p (scaleE p x E1 np s) np k 0 0)) ap np cp P) := by
                        have hh := HR.out
                        rw [show m = s by omega] at hh
                        show RedS _ _ _ _ _ _ _ _ _ _ _ _ _ _ _
                        rw [clearE_zero]
                        exact hh
                      have HB2 : Hid (BndE p n s (scaleE p x E1 np s)) := scaleE_bnd (by omega) HB1.out s
                      clear HR HSS HSA hm
                      generalize scaleE p x E1 np s = E2 at *
                      go_wp2
                      go_loopw [15] (fun v wr2 => ∃ i : Nat, i ≤ n ∧ v = .int .i64 i ∧ Hid (RedS wr2 b5 wb.heap.size (b5 + 1) p n s (some ⟨g, 0, none⟩) N cc (flatL n s (clearE p E2 np k i 0)) ap np cp P) ∧ Hid (Ext wb wr2)) (fun v _ => n - (intOf v).toNat)
                      case atStart => exact ⟨0, Nat.zero_le _, rfl, HRs, HX⟩
                      case round =>
                        clear HRs HX f0 f1 f2 f3
                        obtain ⟨i, hi, rfl, HR, HX⟩ := hrel
                        obtain ⟨f0, f1, f2, f3⟩ := HR.out.cells (Below.refl _ _)
                        obtain ⟨wq, rfl⟩ : ∃ wq : World, wq = wr := ⟨_, rfl⟩
                        by_cases hin : i < n
                        · have hix := flat_lt (L := s) hin hks
                          rw [← HNl.out] at hix
                          have HAt := hidP (l1At_any p n s i k N cc _ _ wq (HR.out.data.ints) (by omega) hix)
                          rw [flatL_get hin hks, clearE_at0] at HAt
                          have HSm := hidP (fun h => clearE_same (n := n) (s := s) p E2 np k i h)
                          have HNx := hidP (clearE_next (n := n) (s := s) p E2 np k i)
                          have HSS := hidP (fun m (hm : m < s) => clearE_set (n := n) (r := np) (c := k) (a := i) hm p E2)
                          have HFb := hidP (HB2.out i k hin hks)
                          clear hix
                          generalize hfv : E2 i k = fv at *
                          clear hfv
                          go_wp2_with fail
                          refine HAt.out.mono ?_
                          rintro e w3 ⟨rfl, hx3⟩
                          have HR3 := hidP (HR.out.below hx3)
                          have HX3 := hidP (HX.out.trans hx3)
                          clear hx3 HAt HR HX f0 f1 f2 f3
                          obtain ⟨f0, f1, f2, f3⟩ := HR3.out.cells (Below.refl _ _)
                          by_cases hip : (i : Int) = (np : Int)
                          · have hipb : ((i : Int) != (np : Int)) = false := by simp [hip]
                            go_wp2
                            go_loopw [17] (fun v wr2 => v = .int .i64 0 ∧ Hid (Ext w3 wr2)) (fun _ _ => 0)
                            case atStart => exact ⟨rfl, Below.refl _ _⟩
                            case round =>
                              obtain ⟨rfl, HXr⟩ := hrel
                              obtain ⟨f0, f1, f2, f3⟩ := HR3.out.cells HXr.out
                              go_wp2
                              go_roundw
                              case rel => exact ⟨i + 1, by omega, by go_num, by rw [← HSm.out (.inl (by omega))]; exact HR3.out.below HXr.out, HX3.out.trans HXr.out⟩
                              case measure => simp [intOf]; omega
                          · have hipb : ((i : Int) != (np : Int)) = true := bne_iff_ne.2 hip
                            by_cases hf0 : fv = 0
                            · subst hf0
                              go_wp2
                              go_loopw [17] (fun v wr2 => v = .int .i64 0 ∧ Hid (Ext w3 wr2)) (fun _ _ => 0)
                              case atStart => exact ⟨rfl, Below.refl _ _⟩
                              case round =>
                                obtain ⟨rfl, HXr⟩ := hrel
                                obtain ⟨f0, f1, f2, f3⟩ := HR3.out.cells HXr.out
                                go_wp2
                                go_roundw
                                case rel => exact ⟨i + 1, by omega, by go_num, by rw [← HSm.out (.inr (by simp))]; exact HR3.out.below HXr.out, HX3.out.trans HXr.out⟩
                                case measure => simp [intOf]; omega
                            · have hf0b : (fv != 0) = true := bne_iff_ne.2 hf0
                              go_wp2
                              go_loopw [17] (fun v wr2 => ∃ m : Nat, m ≤ s ∧ v = .int .i64 m ∧ Hid (RedS wr2 b5 wb.heap.size (b5 + 1) p n s (some ⟨g, 0, none⟩) N cc (flatL n s (clearE p E2 np k i m)) ap np cp P) ∧ Hid (Ext wb wr2)) (fun v _ => s - (intOf v).toNat)
                              case atStart => exact ⟨0, Nat.zero_le _, rfl, HR3, HX3⟩
                              case round =>
                                clear HR3 HX3 f0 f1 f2 f3
                                obtain ⟨m, hm, rfl, HR, HX⟩ := hrel
                                obtain ⟨f0, f1, f2, f3⟩ := HR.out.cells (Below.refl _ _)
                                by_cases hms : m < s
                                · obtain ⟨t1, ht1, k3, k1, k2, k4, k5, k6⟩ := idxS HNl.out hNb2 hin hms
                                  obtain ⟨t2, ht2, l3, l1, l2, l4, l5, l6⟩ := idxS HNl.out hNb2 hpr hms
                                  have hv1 := flatL_get hin hms (clearE p E2 np k i m)
                                  have hv2 := flatL_get hpr hms (clearE p E2 np k i m)
                                  have hs2 := HSS.out m hms (by omega) hf0
                                  rw [clearE_at, ht1] at hv1
                                  rw [clearE_row, ht2] at hv2
                                  rw [ht1] at hs2
                                  have HK3 := hidP k3
                                  have HL3 := hidP l3
                                  obtain ⟨b0, b1⟩ := HB2.out i m hin hms
                                  obtain ⟨c0, c1⟩ := HB2.out np m hpr hms
                                  obtain ⟨a0, a1⟩ := HFb.out
                                  have hE : Ext wr wr.drew := Ext.drew wr
                                  have HF : Hid (∀ w', Ext wr w' → w'.cell? ⟨b5, 0, none⟩ = some (.int .i64 p) ∧ w'.cell? ⟨b5, 2, none⟩ = some (.int .i64 (s : Int)) ∧ w'.cell? ⟨b5, 3, none⟩ = some (.slice (some ⟨g, 0, none⟩) N cc) ∧ w'.cell? ⟨g, t1 + m, none⟩ = some (.int .i64 (E2 i m)) ∧ w'.cell? ⟨g, t2 + m, none⟩ = some (.int .i64 (E2 np m))) := fun w' hx => by
                                    have h1 := HR.out.cells hx
                                    have h2 := HR.out.num hx HK3.out
                                    have h3 := HR.out.num hx HL3.out
                                    rw [hv1] at h2
                                    rw [hv2] at h3
                                    exact ⟨h1.1, h1.2.2.1, h1.2.2.2, h2.1, h3.1⟩
                                  have HU1 := hidP (HR.out.num hE k3)
                                  have HRA := hidP ((HR.out.put k3 ((E2 i m - fv * E2 np m) % p)).below (Ext.drew _))
                                  rw [hs2] at HRA
                                  have HXA := hidP ((Ext.setNew HX.out g (t1 + m) hg1 (.int .i64 ((E2 i m - fv * E2 np m) % p))).trans (Ext.drew _))
                                  clear hs2 hv1 hv2 ht1 ht2
                                  generalize E2 i m = xi at *
                                  generalize E2 np m = xr at *
                                  obtain ⟨q1, q2⟩ := mul_small a0 (by omega : fv ≤ 10007) c0 (by omega)
                                  have m1 : IntKind.i64.wrap (fv * xr) = fv * xr := wrap_in (by omega) (by omega)
                                  have m2 : IntKind.i64.wrap (xi - fv * xr) = xi - fv * xr := wrap_in (by omega) (by omega)
                                  have HMd := hidP (fun w' => l1Mod_any (xi - fv * xr) p w' (by omega) (by omega))
                                  go_wp2
                                  (refine walkR_start (fun w' => Ext wr w') 34 (by kernel_rfl) ?_; simp only [numbered, List.take_succ_cons, List.take_zero, Nat.zero_add, Nat.reduceAdd, List.length_cons, List.length_nil])
                                  (repeat (first | (refine walkR_still (v := ?_) rfl (by decide +kernel) rfl (fun _ _ _ h => h) hE ?_ ?_; rotate_left; (focus (intro w' hw'; obtain ⟨y0, y1, y2, y3, y4⟩ := HF.out w' hw'; go_simp; all_goals (with_reducible rfl))); simp only [Act.put, List.setIfInBounds_toArray, List.set_cons_zero, List.set_cons_succ]) | (refine walkR_skip rfl (by decide +kernel) rfl (fun _ _ _ h => h) hE ?_; simp only [Act.put, List.setIfInBounds_toArray, List.set_cons_zero, List.set_cons_succ])))
                                  (refine walkR_only (fun w' => Ext wr w') rfl (by decide +kernel) rfl (fun _ h => h) ?_; intro K hK; go_simp; refine (HMd.out _).mono ?_; rintro e w4 ⟨rfl, rfl⟩; refine hK _ _ (hE) ?_; clear hK K; (try simp only [Act.put, List.setIfInBounds_toArray, List.set_cons_zero, List.set_cons_succ]))
                                  (refine walkR_tail (by rfl) (by kernel_rfl) ?_; simp only [List.drop_succ_cons, List.drop_zero])
                                  obtain ⟨u2, u3⟩ := HU1.out
                                  clear f0 f1 f2 f3
                                  go_wp2
                                  go_roundw
                                  case rel => exact ⟨m + 1, by omega, by go_num, HRA, HXA⟩
                                  case measure => simp [intOf]; omega
                                · have HRn : Hid (RedS wr b5 wb.heap.size (b5 + 1) p n s (some ⟨g, 0, none⟩) N cc (flatL n s (clearE p E2 np k (i + 1) 0)) ap np cp P) := by
                                    have hh := HR.out
                                    rw [show m = s by omega, HNx.out] at hh
                                    exact hh
                                  go_wp2
                                  go_roundw
                                  case rel => exact ⟨i + 1, by omega, by go_num, HRn, HX⟩
                                  case measure => simp [intOf]; omega
                        · have HRn : Hid (RedS wq b5 wb.heap.size (b5 + 1) p n s (some ⟨g, 0, none⟩) N cc (redTo p R (k + 1)).1.flatten ap np cp P) := by
                            show RedS _ _ _ _ _ _ _ _ _ _ _ _ _ _ _
                            rw [HS2.out.2]
                            have hh := HR.out
                            rw [show i = n by omega] at hh
                            exact hh
                          have hxa := Ext.alloc wq (.cells #[.int .i64 (k : Int)] 3)
                          have HI : Hid (IntsAt (wq.alloc (.cells #[.int .i64 (k : Int)] 3)) (some ⟨wq.heap.size, 0, none⟩) 1 [(k : Int)]) := ⟨rfl, fun q hq => ⟨wq.heap.size, 0, rfl, by
                            obtain rfl : q = 0 := by omega
                            rw [cell_top _ _ _ _ _ rfl]
                            rfl⟩⟩
                          have HRa := hidP (HRn.out.below hxa)
                          have HXa := hidP (HX.out.trans hxa)
                          have HBP : Hid (wb.heap.size ≤ b5 + 1) := Nat.le_trans HBD.out (Nat.le_succ _)
                          have HSZa : Hid (b5 + 1 ≤ (wq.alloc (.cells #[.int .i64 (k : Int)] 3)).heap.size) := HRa.out.mat.lt
                          have hpv := HRa.out.piv.len
                          have hnp2 : np ≤ 1000000 := by omega
                          clear hxa hpv
                          go_wp2_with (at_builtin; refine wpList_append_ints rfl (.tmp 216) (.tmp 218) rfl (b5 + 1) ap np cp P rfl HRa.out.piv (some ⟨wq.heap.size, 0, none⟩) 1 1 [(k : Int)] rfl HI.out (fun e => by cases e) (by omega) HSZa.out ?_; intro a2 c2 w2 ho2 hg2; have HRf := hidP (HRa.out.push hg2 ho2); have HXf := hidP (HRa.out.ext HXa.out hg2 HBP.out); clear hg2 ho2)
                          rw [← HS2.out.1] at HRf
                          go_roundw
                          case rel => exact ⟨k + 1, a2, np + 1, c2, dt3, by omega, rfl, rfl, by go_num, HD3.out.1, HD3.out.2, HRf, HXf⟩
                          case measure => simp [intOf]; omega
          · obtain rfl : q = n := by omega
            have HS0 := hidP (HSt0.out HZ.out)
            have HR2 : Hid (RedS wr b5 wb.heap.size (b5 + 1) p q s (some ⟨g, 0, none⟩) N cc (redTo p R (k + 1)).1.flatten ap np cp (redTo p R (k + 1)).2) := by
              show RedS _ _ _ _ _ _ _ _ _ _ _ _ _ _ _
              rw [HS0.out]
              exact HD.out ▸ HR.out.below HXq.out
            go_wp2
            go_roundw
            case rel => exact ⟨k + 1, ap, np, cp, dt, by omega, rfl, rfl, by go_num, d0, d1, HR2, HX.out.trans HXq.out⟩
            case measure => simp [intOf]; omega
      · have HE : Hid (redTo p R s = redTo p R k) := HAl.out (by rw [HL.out, HPL.out]; omega)
        obtain ⟨r0, y0⟩ := HNW.out wr HX.out 0
        obtain ⟨r1, y1⟩ := HNW.out wr HX.out 1
        obtain ⟨r2, y2⟩ := HNW.out wr HX.out 2
        obtain ⟨r3, y3⟩ := HNW.out wr HX.out 3
        have r0 := r0.trans (show _ = some (Value.int .i64 0) from rfl)
        have r1 := r1.trans (show _ = some (Value.int .i64 0) from rfl)
        have r2 := r2.trans (show _ = some (Value.int .i64 0) from rfl)
        have r3 := r3.trans (show _ = some (Value.slice none 0 0) from rfl)
        go_wp2
        refine bodyPost_ret (v := .tuple #[matV p n s ac N cc, .slice ap np cp, .int .i64 dt]) (by simp [results, Tryz.results112, go_sem, r0, r1, r2, r3]) rfl ?_
        refine ⟨ac, cc, ap, np, cp, dt, rfl, ?_, ?_, Ext.set4 (HX0w.out.trans HX.out) _ _ _ _ _ (Nat.le_succ _)⟩
        · rw [HE.out]
          exact (HR.out.data.set4 (w.heap.size + 1) _ _ _ _ (by have := HSZ.out; omega)).base (by have := HSZ.out; omega)
        · rw [HE.out]
          exact (HR.out.piv.set4 (w.heap.size + 1) _ _ _ _ (by have := HSZ.out; have := HBD.out; omega)).base (by have := HSZ.out; have := HBD.out; omega)
    · have HE : Hid (redTo p R s = redTo p R k) := by show _ = _; rw [show k = s by omega]
      obtain ⟨r0, y0⟩ := HNW.out wr HX.out 0
      obtain ⟨r1, y1⟩ := HNW.out wr HX.out 1
      obtain ⟨r2, y2⟩ := HNW.out wr HX.out 2
      obtain ⟨r3, y3⟩ := HNW.out wr HX.out 3
      have r0 := r0.trans (show _ = some (Value.int .i64 0) from rfl)
      have r1 := r1.trans (show _ = some (Value.int .i64 0) from rfl)
      have r2 := r2.trans (show _ = some (Value.int .i64 0) from rfl)
      have r3 := r3.trans (show _ = some (Value.slice none 0 0) from rfl)
      go_wp2
      refine bodyPost_ret (v := .tuple #[matV p n s ac N cc, .slice ap np cp, .int .i64 dt]) (by simp [results, Tryz.results112, go_sem, r0, r1, r2, r3]) rfl ?_
      refine ⟨ac, cc, ap, np, cp, dt, rfl, ?_, ?_, Ext.set4 (HX0w.out.trans HX.out) _ _ _ _ _ (Nat.le_succ _)⟩
      · rw [HE.out]
        exact (HR.out.data.set4 (w.heap.size + 1) _ _ _ _ (by have := HSZ.out; omega)).base (by have := HSZ.out; omega)
      · rw [HE.out]
        exact (HR.out.piv.set4 (w.heap.size + 1) _ _ _ _ (by have := HSZ.out; have := HBD.out; omega)).base (by have := HSZ.out; have := HBD.out; omega)
end Go.Proofs.YtenlhfimdpcaoaaGreat
