/-
  slices.DeleteFunc at steps of no time.
-/
import Derived.Test.YtfikkfbnlegflaaGreatDoorDel0
import Derived.Test.YtfikkfbnlegflaaGreatDoorPthD
namespace Go.Proofs.YtfikkfbnlegflaaGreatDoor
open Go.RowKit

theorem run_clear_steps (b off m cc : Nat) (ty : TypeId) (w : World) (hm : 0 < m) (hc : ∀ j, j < m * 2 → (w.cell? ⟨b, off + j, none⟩).isSome = true) (hf : ∀ j, j < m * 2 → w.frozen? ⟨b, off + j, none⟩ = false) :
    ∃ vs, Sem.run Tryz.prog (Builtin.clear_ #[28] ty #[.slice (some ⟨b, off, none⟩) m cc]) w = .ok (.tuple #[]) (w.setCells b off vs) := by
  have hz := Tryz.zeroValue69
  have hl : (Builtin.zeroCells (Value.agg #[.slice none 0 0, .int .i64 0]).cells m).toList.length = m * 2 := by simp [Builtin.zeroCells, Value.cells]
  have h1 : ∀ v ∈ (Builtin.zeroCells (Value.agg #[.slice none 0 0, .int .i64 0]).cells m).toList, v.oneCell' = true := by
    intro v hv
    simp only [Builtin.zeroCells, Array.toList_map, List.mem_map, Value.cells] at hv
    obtain ⟨i, _, rfl⟩ := hv
    have h2 : i % 2 = 0 ∨ i % 2 = 1 := by omega
    rcases h2 with h2 | h2
    · rw [show (#[Value.slice none 0 0, Value.int .i64 0]).size = 2 from rfl, h2]; rfl
    · rw [show (#[Value.slice none 0 0, Value.int .i64 0]).size = 2 from rfl, h2]; rfl
  have hst := run_storeCells_cells (P := Tryz.prog) b off _ 0 w (by rw [hl]; simpa using hc) (by rw [hl]; simpa using hf) h1
  simp only [Nat.add_zero] at hst
  obtain ⟨m', rfl⟩ : ∃ m', m = m' + 1 := ⟨m - 1, by omega⟩
  refine ⟨(Builtin.zeroCells (Value.agg #[.slice none 0 0, .int .i64 0]).cells (m' + 1)).toList, ?_⟩
  simp [Builtin.clear_, run_underlying Tryz.underlying28, hz, hst]
theorem row_take {w : World} {B g n c e size : Nat} {ys : List Value} (h : w.ownsRow B e size (.slice (some ⟨g, 0, none⟩) n c) n ys) (m : Nat) (hm : m ≤ n) : w.ownsRow B e size (.slice (some ⟨g, 0, none⟩) m c) m (ys.take (m * size)) := by
  refine ⟨by rw [List.length_take, h.1]; exact Nat.min_eq_left (Nat.mul_le_mul_right _ hm), ?_⟩
  rcases h.2 with ⟨he, _⟩ | ⟨g', cap, cur, he, hB, hg, hnc, hcm, hcs, ht⟩
  · simp at he
  · simp only [Value.slice.injEq, true_and] at he
    obtain ⟨he, rfl⟩ := he
    refine .inr ⟨g', c, cur, by rw [he], hB, hg, by omega, hcm, hcs, ?_⟩
    rw [← ht, List.take_take, Nat.min_eq_left (Nat.mul_le_mul_right _ hm)]

theorem turned1_any (a : Option Addr) (n c : Nat) (L : Int) (w : World) : Calls Tryz.prog 134 #[.agg #[.slice a n c, .int .i64 L]] w fun e w' => e = .returned (.bool (L == 0)) ∧ Ext w w' := by
  have hx := Ext.alloc w (.cells #[.slice a n c, .int .i64 L] 69)
  have HX := hidP hx
  clear hx
  go_enter Tryz.func134, Tryz.ntmps134
  go_wp2
  go_ret
  exact ⟨rfl, HX.out⟩
theorem callFunc_turned1 (args : Array Value) (w : World) : Sem.run Tryz.prog (callFunc 134 args) w = .ok (.enter 134 args) w := by
  kernel_rfl
def zeroLen (x : Int) : Bool := x == 0
def durs (xs : List Stp) : List Int := xs.map (·.2)
theorem durs_get (xs : List Stp) (k : Nat) : (durs xs).getD k 0 = lenAt xs k := by
  unfold durs lenAt
  simp only [List.getD_eq_getElem?_getD, List.getElem?_map]
  cases xs[k]? <;> rfl
set_option maxHeartbeats 1000000 in
theorem indexStep_any (a : Option Addr) (n c : Nat) (xs : List Stp) (w : World) (h : TermsAt w a n xs) (hn : n ≤ 9223372036854775807) :
    Calls Tryz.prog 155 #[.slice a n c, .func (.func 134) #[] #[]] w fun e w' => e = .returned (.int .i64 (idxL zeroLen (durs xs))) ∧ Ext w w' := by
  have G := hidP h
  have L0 := hidP h.len
  clear h
  have hcf := callFunc_turned1
  go_enter Tryz.func155, Tryz.ntmps155
  go_wp2
  go_loopw [8] (fun i wr => ∃ k : Nat, k ≤ n ∧ Hid (∀ j, j < k → zeroLen ((durs xs).getD j 0) = false) ∧ i = .int .i64 k ∧ Hid (Ext w wr)) (fun i _ => n - (intOf i).toNat)
  case atStart => exact ⟨0, Nat.zero_le _, fun j h => absurd h (Nat.not_lt_zero _), rfl, Ext.refl _⟩
  case round =>
    obtain ⟨k, hk, HJ, rfl, HX⟩ := hrel
    by_cases hlt : k < n
    · obtain ⟨b, o, aw, cw, W, L, rfl, HW, HL, hwl, hq⟩ := (G.out.below HX.out).way k hlt
      obtain ⟨q1, q2, _⟩ := hq wr (Ext.refl wr)
      have HT := hidP (turned1_any aw W.length cw L wr)
      have HZ : Hid (zeroLen ((durs xs).getD k 0) = (L == 0)) := by
        show _ = _
        rw [durs_get, HL.out]
        rfl
      clear hq
      cases hb : (L == 0)
      · rw [hb] at HT HZ
        clear hb
        go_wp2_with fail
        refine HT.out.mono ?_
        rintro e w1 ⟨rfl, hx⟩
        have HX1 := hidP (HX.out.trans hx)
        clear hx q1 q2
        go_wp2
        go_roundw
        case rel =>
          refine ⟨k + 1, by omega, fun j hj => ?_, by go_num, HX1.out⟩
          rcases Nat.lt_succ_iff_lt_or_eq.1 hj with h3 | rfl
          · exact HJ.out j h3
          · exact HZ.out
        case measure => simp [intOf]; omega
      · rw [hb] at HT HZ
        clear hb
        have HI : Hid (idxL zeroLen (durs xs) = (k : Int)) := idxL_at (by unfold durs; rw [List.length_map, L0.out]; exact hlt) HJ.out HZ.out
        go_wp2_with fail
        refine HT.out.mono ?_
        rintro e w1 ⟨rfl, hx⟩
        have HX1 := hidP (HX.out.trans hx)
        clear hx q1 q2
        go_wp2
        go_ret
        exact ⟨ret_int HI.out.symm, HX1.out⟩
    · have HI : Hid (idxL zeroLen (durs xs) = -1) := idxL_none fun j hj => HJ.out j (by unfold durs at hj; rw [List.length_map, L0.out] at hj; omega)
      go_wp2
      go_ret
      exact ⟨ret_int HI.out.symm, HX.out⟩
def keepZ (z : Hdr × Stp) : Bool := z.2.2 != 0
set_option maxRecDepth 100000 in
set_option maxHeartbeats 4000000 in
theorem deleteStep_any (B U g n c : Nat) (hs : List Hdr) (xs : List Stp) (w : World) (h : OwnK stepK w B U (some ⟨g, 0, none⟩) n c hs xs) :
    Calls Tryz.prog 133 #[.slice (some ⟨g, 0, none⟩) n c, .func (.func 134) #[] #[]] w fun e w' => ∃ n' hs', e = .returned (.slice (some ⟨g, 0, none⟩) n' c) ∧
      OwnK stepK w' B U (some ⟨g, 0, none⟩) n' c hs' (xs.filter fun s => s.2 != 0) ∧ w.grownBy w' (some g) := by
  have hnm : n ≤ 9223372036854775807 := by
    rcases h.form with ⟨_, h0, _⟩ | ⟨_, _, _, _, _, _, h1, h2⟩
    · omega
    · unfold maxLen at h2; omega
  have hcn : n ≤ c := by
    rcases h.form with ⟨_, h0, _⟩ | ⟨_, _, _, _, _, _, h1, h2⟩
    · omega
    · exact h1
  have hcm : c ≤ 9223372036854775807 := by
    rcases h.form with ⟨_, h0, h1⟩ | ⟨_, _, _, _, _, _, h1, h2⟩
    · omega
    · unfold maxLen at h2; omega
  have HI := hidP (indexStep_any (some ⟨g, 0, none⟩) n c xs w h.termsAt hnm)
  obtain ⟨hE0, hm1, hm2, hzl⟩ := h.list
  have hfar : ∀ z ∈ hs.zip xs, ∀ b o, z.1.1 = some ⟨b, o, none⟩ → b ≠ g := fun z hz b o e hb => by
    obtain ⟨k, hk, rfl⟩ := List.mem_iff_getElem.1 hz
    rw [List.getElem_zip] at e
    have h1 : hs[k]'(by rw [List.length_zip] at hk; omega) = hs.getD k (none, 0) := by
      have : k < hs.length := by rw [List.length_zip] at hk; omega
      simp [List.getD_eq_getElem?_getD, this]
    rw [h1] at e
    exact h.far k (by omega) g 0 b o rfl e hb.symm
  have hfil : ((hs.zip xs).filter keepZ).map (·.2) = xs.filter fun s => s.2 != 0 := by
    have : (hs.zip xs).filter keepZ = (hs.zip xs).filter ((fun s : Stp => s.2 != 0) ∘ (fun z : Hdr × Stp => z.2)) := rfl
    rw [this, ← List.filter_map, hm2]
  have hlen : ∀ k, k < n → lenAt xs k = ((hs.zip xs).getD k ((none, 0), ([], 0))).2.2 := fun k hk => by
    conv => lhs; rw [← hm2]
    unfold lenAt
    rw [getD_mapped _ _ _ ((none, 0), ([], 0)) _ (by omega)]
  have hgw : g < w.heap.size := (h.base_lt g 0 rfl).2
  have hraw := h.raw
  have hxl := h.xl
  obtain ⟨zs, hzs⟩ : ∃ zs, zs = hs.zip xs := ⟨_, rfl⟩
  rw [← hzs] at hE0 hfar hfil hlen hraw hzl
  have HE := hidP hE0
  have HFar := hidP hfar
  have HFil := hidP hfil
  have HLen := hidP hlen
  have HRaw := hidP hraw
  have HZl := hidP hzl
  have HOl := hidP h.olt
  have H0 := hidP h
  have HXl := hidP hxl
  clear h hE0 hm1 hm2 hzl hfar hfil hlen hraw hzs hxl
  -- what comes out, once the row is cut
  have HOut : Hid (∀ (w' : World) (i : Nat) (l : List (Hdr × Stp)) (ys : List Value), w'.ownsRow B stepK.E stepK.size (.slice (some ⟨g, 0, none⟩) n c) n ys → ys.take (i * 2) = (stepK.all (l.map (·.1)) (l.map (·.2))).take (i * 2) → i ≤ n → l.length = n → l.take i = zs.filter keepZ → w.grownBy w' (some g) →
      OwnK stepK w' B U (some ⟨g, 0, none⟩) i c ((l.take i).map (·.1)) (xs.filter fun s => s.2 != 0)) := by
    intro w' i l ys hr ht hi hl hli hg
    have h1 := row_take hr i hi
    rw [show i * stepK.size = i * 2 from rfl, ht] at h1
    have h2 : (stepK.all (l.map (·.1)) (l.map (·.2))).take (i * 2) = stepK.all ((l.take i).map (·.1)) ((l.take i).map (·.2)) := by
      rw [List.map_take, List.map_take, stepK.all_take _ _ (by simp)]
      rfl
    rw [h2] at h1
    have h3 : ElemK stepK w' B U (l.take i) := by
      rw [hli]
      exact (HE.out.kept hg HFar.out).sub List.filter_sublist
    have h4 := h3.own h1 (by simp; omega) HOl.out
    have h5 : (l.take i).map (·.2) = xs.filter fun s => s.2 != 0 := by rw [hli]; exact HFil.out
    rw [h5] at h4
    exact h4
  by_cases hall : ∀ k, k < n → lenAt xs k ≠ 0
  · have HIx : Hid (idxL zeroLen (durs xs) = -1) := idxL_none fun j hj => by
      rw [durs_get]
      have := hall j (by unfold durs at hj; rw [List.length_map, HXl.out] at hj; exact hj)
      simpa [zeroLen] using this
    have HXs : Hid (xs.filter (fun s => s.2 != 0) = xs) := by
      show _ = _
      rw [List.filter_eq_self]
      intro s hs'
      obtain ⟨k, hk, rfl⟩ := List.mem_iff_getElem.1 hs'
      have := hall k (by have := HXl.out; omega)
      unfold lenAt at this
      rw [List.getD_eq_getElem?_getD, List.getElem?_eq_getElem hk, Option.getD_some] at this
      simpa using this
    rw [HIx.out] at HI
    rw [HXs.out]
    clear hall
    go_enter Tryz.func133, Tryz.ntmps133
    go_wp2_with fail
    refine HI.out.mono ?_
    rintro e w1 ⟨rfl, hx⟩
    have HX := hidP hx
    clear hx
    go_wp2
    go_ret
    exact ⟨n, hs, rfl, H0.out.below HX.out, ⟨HX.out.os, HX.out.tape, HX.out.output, HX.out.size, fun k hk _ => HX.out.block k hk⟩⟩
  · obtain ⟨i0, hi0, hz0, hbef⟩ : ∃ i0, i0 < n ∧ lenAt xs i0 = 0 ∧ ∀ j, j < i0 → lenAt xs j ≠ 0 := by
      have hex : ∃ k, k < n ∧ lenAt xs k = 0 := by
        apply Classical.byContradiction
        intro hno
        exact hall fun k hk e => hno ⟨k, hk, e⟩
      have : ∀ m, (∃ k, k < m ∧ k < n ∧ lenAt xs k = 0) → ∃ i0, i0 < n ∧ lenAt xs i0 = 0 ∧ ∀ j, j < i0 → lenAt xs j ≠ 0 := by
        intro m
        induction m with
        | zero => rintro ⟨k, hk, _⟩; omega
        | succ m ih =>
          rintro ⟨k, hk, hkn, hk0⟩
          by_cases hb : ∃ k', k' < m ∧ k' < n ∧ lenAt xs k' = 0
          · exact ih hb
          · refine ⟨k, hkn, hk0, fun j hj e => hb ⟨j, by omega, by omega, e⟩⟩
      obtain ⟨k, hk, hk0⟩ := hex
      exact this (k + 1) ⟨k, by omega, hk, hk0⟩
    have HIx : Hid (idxL zeroLen (durs xs) = (i0 : Int)) := idxL_at (by unfold durs; rw [List.length_map, HXl.out]; exact hi0) (fun j hj => by
      rw [durs_get]
      have := hbef j hj
      simpa [zeroLen] using this) (by rw [durs_get, hz0]; rfl)
    rw [HIx.out] at HI
    -- the first places are kept, the next one is not
    have HSt : Hid (zs.take i0 = (zs.take (i0 + 1)).filter keepZ) := by
      show _ = _
      have hzl := HZl.out
      rw [List.take_succ_eq_append_getElem (by omega), List.filter_append]
      have e1 : (zs.take i0).filter keepZ = zs.take i0 := by
        rw [List.filter_eq_self]
        intro z hz
        obtain ⟨k, hk, rfl⟩ := List.mem_iff_getElem.1 hz
        rw [List.length_take] at hk
        have h1 := hbef k (by omega)
        rw [HLen.out k (by omega)] at h1
        rw [List.getElem_take]
        simp only [keepZ, List.getD_eq_getElem?_getD, List.getElem?_eq_getElem (show k < zs.length by omega), Option.getD_some] at h1 ⊢
        simpa using h1
      have e2 : keepZ (zs[i0]'(by omega)) = false := by
        have h1 := hz0
        rw [HLen.out i0 hi0] at h1
        simp only [keepZ, List.getD_eq_getElem?_getD, List.getElem?_eq_getElem (show i0 < zs.length by omega), Option.getD_some] at h1 ⊢
        simpa using h1
      rw [e1, List.filter_cons, e2]
      simp
    clear hall hz0 hbef
    have hne1 : ((i0 : Int) == -1) = false := beq_eq_false_iff_ne.2 (by omega)
    have hcf := callFunc_turned1
    go_enter Tryz.func133, Tryz.ntmps133
    go_wp2_with fail
    refine HI.out.mono ?_
    rintro e w1 ⟨rfl, hx⟩
    have HG1 : Hid (w.grownBy w1 (some g)) := ⟨hx.os, hx.tape, hx.output, hx.size, fun k hk _ => hx.block k hk⟩
    have HR1 : Hid (RawS w1 B g n c zs) := by
      have := H0.out.below hx
      exact ⟨HRaw.out.row.kept (row := none) ⟨hx.os, hx.tape, hx.output, hx.size, fun k hk _ => hx.block k hk⟩ (.inr (by simp [Value.ownBlock])), HRaw.out.len⟩
    clear hx HI
    go_wp2
    go_loopw [5, 6] (fun ii jj wr => ∃ (i j : Nat) (l : List (Hdr × Stp)), i < j ∧ j ≤ n ∧ ii = .int .i64 i ∧ jj = .int .i64 j ∧ Hid (RawS wr B g n c l) ∧ Hid (l.take i = (zs.take j).filter keepZ) ∧ Hid (l.drop j = zs.drop j) ∧ Hid (w.grownBy wr (some g))) (fun _ jj _ => n - (intOf jj).toNat)
    case atStart => exact ⟨i0, i0 + 1, zs, Nat.lt_succ_self _, by omega, rfl, by go_num, HR1, HSt, rfl, HG1⟩
    case round =>
      obtain ⟨i, j, l, hij, hjn, rfl, rfl, HR, HT, HD, HG⟩ := hrel
      by_cases hlt : j < n
      · obtain ⟨q1, q2, r1, r2⟩ := HR.out.cells j hlt
        obtain ⟨⟨⟨aw, cw⟩, ⟨W, L⟩⟩, hz⟩ : ∃ z, z = l.getD j ((none, 0), ([], 0)) := ⟨_, rfl⟩
        rw [← hz] at q1 q2
        dsimp only at q1 q2
        have HZ : Hid (zs.getD j ((none, 0), ([], 0)) = ((aw, cw), (W, L))) := by
          show _ = _
          have h1 : (l.drop j)[0]? = (zs.drop j)[0]? := by rw [HD.out]
          simp only [List.getElem?_drop, Nat.add_zero] at h1
          rw [hz, List.getD_eq_getElem?_getD, List.getD_eq_getElem?_getD, h1]
        have hll := HR.out.len
        have HTs : Hid (zs.take (j + 1) = zs.take j ++ [((aw, cw), (W, L))]) := by
          show _ = _
          have hzl := HZl.out
          rw [List.take_succ_eq_append_getElem (by omega), ← HZ.out, List.getD_eq_getElem?_getD, List.getElem?_eq_getElem (by omega), Option.getD_some]
        have HDs : Hid (∀ l' : List (Hdr × Stp), l'.drop j = zs.drop j → l'.drop (j + 1) = zs.drop (j + 1)) := fun l' hl' => by
          rw [← List.drop_drop, ← List.drop_drop, hl']
        have HTn := hidP (fun w' => turned1_any aw W.length cw L w')
        obtain ⟨g0, g1, g2, g3⟩ := HR.out.cells i (by omega)
        have HPl := hidP (fun w' (h' : RawS w' B g n c l) => h'.placed i (by omega) ((aw, cw), (W, L)))
        have HX2 := hidP (Ext.alloc wr (.cells #[.slice aw W.length cw, .int .i64 L] 69))
        have HS := hidP (fun w' (hx : Ext (wr.alloc (.cells #[.slice aw W.length cw, .int .i64 L] 69)) w') => (StpAt.new wr _ rfl aw W.length cw L 69).below hx)
        have hgr : g < wr.heap.size := World.block_lt_of_cell? wr _ q1
        have HRE : Hid (∀ w', Ext wr w' → RawS w' B g n c l) := fun w' hx => ⟨HR.out.row.kept (row := none) ⟨hx.os, hx.tape, hx.output, hx.size, fun k hk _ => hx.block k hk⟩ (.inr (by simp [Value.ownBlock])), HR.out.len⟩
        obtain ⟨w2, hw2⟩ : ∃ w2, w2 = wr.alloc (.cells #[.slice aw W.length cw, .int .i64 L] 69) := ⟨_, rfl⟩
        rw [← hw2] at HX2 HS
        have hi1 : (i : Int) < (n : Int) := by omega
        have hi2 : (0 : Int) ≤ (i : Int) := by omega
        clear hz g0 g1 g2 g3
        obtain ⟨s1, s2⟩ := HS.out w2 (Ext.refl _)
        cases hb : (L == 0)
        · have hkeep : keepZ ((aw, cw), (W, L)) = true := by simpa [keepZ] using hb
          rw [hb] at HTn
          clear hb
          have HT2 : Hid ((l.set i ((aw, cw), (W, L))).take (i + 1) = (zs.take (j + 1)).filter keepZ) := by
            show _ = _
            rw [HTs.out, List.filter_append, ← HT.out, List.take_succ_eq_append_getElem (by simp; omega), List.getElem_set_self, List.take_set_of_le (Nat.le_refl _), List.filter_cons, hkeep]
            simp
          have HD2 : Hid ((l.set i ((aw, cw), (W, L))).drop (j + 1) = zs.drop (j + 1)) := by
            show _ = _
            rw [List.drop_set_of_lt (by omega)]
            exact HDs.out l HD.out
          clear hkeep
          go_wp2_with fail
          rw [← hw2]
          clear hw2 q1 q2 r1 r2
          refine (HTn.out w2).mono ?_
          rintro e w3 ⟨rfl, hx⟩
          obtain ⟨t1, t2⟩ := HS.out w3 hx
          have HR3 := hidP (HRE.out w3 (HX2.out.trans hx))
          obtain ⟨g0, g1, g2, g3⟩ := HR3.out.cells i (by omega)
          have HP3 := hidP (HPl.out w3 HR3.out)
          have hx3 := HX2.out.trans hx
          have HG3 : Hid (w.grownBy ((w3.setCell ⟨g, i * 2, none⟩ (.slice aw W.length cw)).setCell ⟨g, i * 2 + 1, none⟩ (.int .i64 L)) (some g)) :=
            ⟨hx3.os.trans HG.out.os, hx3.tape.trans HG.out.tape, hx3.output.trans HG.out.output, by have := HG.out.size; have := hx3.size; simp [World.setCell]; omega, fun k hk hne => by
              have hkg : k ≠ g := fun e => hne (by rw [e])
              rw [Below.heap_setCell _ _ _ _ hkg, Below.heap_setCell _ _ _ _ hkg, hx3.block k (Nat.lt_of_lt_of_le hk HG.out.size)]
              exact HG.out.block k hk hne⟩
          clear hx hx3 s1 s2
          go_wp2
          go_roundw
          case rel => exact ⟨i + 1, j + 1, _, by omega, by omega, by go_num, by go_num, HP3, HT2, HD2, HG3⟩
          case measure => simp [intOf]; omega
        · have hkeep : keepZ ((aw, cw), (W, L)) = false := by simpa [keepZ] using hb
          rw [hb] at HTn
          clear hb
          have HT2 : Hid (l.take i = (zs.take (j + 1)).filter keepZ) := by
            show _ = _
            rw [HTs.out, List.filter_append, ← HT.out, List.filter_cons, hkeep]
            simp
          have HD2 : Hid (l.drop (j + 1) = zs.drop (j + 1)) := HDs.out l HD.out
          clear hkeep
          go_wp2_with fail
          rw [← hw2]
          clear hw2 q1 q2 r1 r2
          refine (HTn.out w2).mono ?_
          rintro e w3 ⟨rfl, hx⟩
          have HR3 := hidP (HRE.out w3 (HX2.out.trans hx))
          have hx3 := HX2.out.trans hx
          have HG3 : Hid (w.grownBy w3 (some g)) :=
            ⟨hx3.os.trans HG.out.os, hx3.tape.trans HG.out.tape, hx3.output.trans HG.out.output, Nat.le_trans HG.out.size hx3.size, fun k hk hne => by
              rw [hx3.block k (Nat.lt_of_lt_of_le hk HG.out.size)]
              exact HG.out.block k hk hne⟩
          clear hx hx3 s1 s2
          go_wp2
          go_roundw
          case rel => exact ⟨i, j + 1, l, by omega, by omega, rfl, by go_num, HR3, HT2, HD2, HG3⟩
          case measure => simp [intOf]; omega
      · obtain rfl : n = j := by omega
        have hll := HR.out.len
        have HTf : Hid (l.take i = zs.filter keepZ) := by
          show _ = _
          rw [HT.out, List.take_of_length_le (by have := HZl.out; omega)]
        have hci : ¬ (c = i) := by omega
        have hi1 : (i : Int) ≤ (c : Int) := by omega
        have hi2 : (0 : Int) ≤ (i : Int) := by omega
        have hi3 : (i : Int) ≤ (n : Int) := by omega
        have hi4 : (n : Int) ≤ (c : Int) := by omega
        have HCell : Hid (∀ q, q < (n - i) * 2 → (wr.cell? ⟨g, i * 2 + q, none⟩).isSome = true ∧ wr.frozen? ⟨g, i * 2 + q, none⟩ = false) := by
          intro q hq
          obtain ⟨k1, k2, k3, k4⟩ := HR.out.cells (i + q / 2) (by omega)
          rcases (by omega : q % 2 = 0 ∨ q % 2 = 1) with h2 | h2
          · rw [show i * 2 + q = (i + q / 2) * 2 by omega, k1, k3]; simp
          · rw [show i * 2 + q = (i + q / 2) * 2 + 1 by omega, k2, k4]; simp
        have HFin : Hid (∀ vs, OwnK stepK (wr.setCells g (i * 2) vs) B U (some ⟨g, 0, none⟩) i c ((l.take i).map (·.1)) (xs.filter fun s => s.2 != 0) ∧ w.grownBy (wr.setCells g (i * 2) vs) (some g)) := by
          intro vs
          obtain ⟨ys, h1, h2, h3⟩ := row_setCells vs (i * 2) wr _ HR.out.row
          have hg : w.grownBy (wr.setCells g (i * 2) vs) (some g) := ⟨h3.os.trans HG.out.os, h3.tape.trans HG.out.tape, h3.output.trans HG.out.output, Nat.le_trans HG.out.size h3.size, fun k hk hne => (h3.block k (Nat.lt_of_lt_of_le hk HG.out.size) hne).trans (HG.out.block k hk hne)⟩
          exact ⟨HOut.out _ i l ys h1 h2 (by omega) hll HTf.out hg, hg⟩
        obtain ⟨vs, hrun⟩ := run_clear_steps g (i * 2) (n - i) (c - i) 0 wr (by omega) (fun q hq => (HCell.out q hq).1) (fun q hq => (HCell.out q hq).2)
        obtain ⟨hk1, hk2⟩ := HFin.out vs
        have HK1 := hidP hk1
        have HK2 := hidP hk2
        clear hk1 hk2 hll
        go_wp2
        go_ret
        exact ⟨i, _, rfl, HK1.out, HK2.out⟩
end Go.Proofs.YtfikkfbnlegflaaGreatDoor
