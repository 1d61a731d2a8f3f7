/-
  A reflection applied between two times of a path, by the program: turned. Printed by gen/pthI.py.
-/
import Derived.Test.YtfikkfbnlegflaaGreatDoorPthH
import Derived.Test.YtfikkfbnlegflaaGreatDoorDel
namespace Go.Proofs.YtfikkfbnlegflaaGreatDoor
open Go.RowKit

variable {α : Type}
/-- a new block with elements of one's own -/
theorem ElemK.lit {K : Knd α} {w : World} {B : Nat} {l : List (Hdr × α)} (h : ElemK K w B w.heap.size l) (hB : B ≤ w.heap.size) (hm : l.length ≤ maxLen) :
    OwnK K (w.alloc (.cells (K.all (l.map (·.1)) (l.map (·.2))).toArray K.E)) B (w.heap.size + 1) (some ⟨w.heap.size, 0, none⟩) l.length l.length (l.map (·.1)) (l.map (·.2)) := by
  have hx := Ext.alloc w (.cells (K.all (l.map (·.1)) (l.map (·.2))).toArray K.E)
  have h1 : ElemK K (w.alloc (.cells (K.all (l.map (·.1)) (l.map (·.2))).toArray K.E)) B (w.heap.size + 1) l :=
    ⟨fun z hz => (h.each z hz).below hx, h.apart, fun z hz b o e => by have := h.lt z hz b o e; omega⟩
  refine h1.own ?_ rfl (fun b o e => by simp only [Option.some.injEq, Addr.mk.injEq, and_true] at e; omega)
  have hl : (K.all (l.map (·.1)) (l.map (·.2))).toArray.size = l.length * K.size := by
    rw [List.size_toArray, K.all_length _ _ (by simp)]
    simp
  have := World.ownsRow_lit (e := K.E) (size := K.size) (base := B) w (K.all (l.map (·.1)) (l.map (·.2))).toArray l.length hB hm hl
  simpa using this
theorem turn_le_len (R : List Int → List Int) {r : Nat} {p : List Stp} (hp : PathP r p) {a b : Nat} {fr tq : Int} (h : Turn p a fr b tq) (n : Nat) (hn : n ≤ p.length) : ∀ s ∈ turnTo R p a fr b tq n, 0 ≤ s.2 ∧ s.2 ≤ 83160 := by
  intro s hs
  refine ⟨turn_nonneg R (lens_of_path hp) h n hn s hs, ?_⟩
  simp only [turnTo, List.mem_flatMap, List.mem_range] at hs
  obtain ⟨k, hk, hs⟩ := hs
  have h1 := hp.dur k (by omega)
  obtain ⟨g1, g2, g3, g4, g5, g6, g7, g8, g9⟩ := h
  unfold turnK at hs
  split at hs
  · simp only [List.mem_singleton] at hs
    subst hs
    exact h1.2
  · simp only [List.mem_cons, List.not_mem_nil, or_false] at hs
    have e1 : k = b → tq ≤ lenAt p k := by rintro rfl; exact g7 (by omega)
    have e2 : k = a → fr ≤ lenAt p k := by rintro rfl; exact g5
    rcases hs with rfl | rfl | rfl
    · show (if k = a then fr else 0) ≤ _
      split <;> omega
    · show ((if k = b then tq else lenAt p k) - if k = a then fr else 0) ≤ _
      split <;> split <;> omega
    · show (lenAt p k - if k = b then tq else lenAt p k) ≤ _
      split <;> omega
theorem turn_way {r : Nat} {ts : List Int} {i : Nat} {p : List Stp} (hp : PathP r p) (a : Nat) (fr : Int) (b : Nat) (tq : Int) (n : Nat) (hn : n ≤ p.length) : ∀ s ∈ turnTo (refl r ts i) p a fr b tq n, s.1.length = r := by
  intro s hs
  simp only [turnTo, List.mem_flatMap, List.mem_range] at hs
  obtain ⟨k, hk, hs⟩ := hs
  have h1 := (hp.way k (by omega)).1
  unfold turnK at hs
  split at hs
  · simp only [List.mem_singleton] at hs
    subst hs
    exact h1
  · simp only [List.mem_cons, List.not_mem_nil, or_false] at hs
    rcases hs with rfl | rfl | rfl
    · exact h1
    · exact refl_length _ _ _ _
    · exact h1
theorem turnTo_length (R : List Int → List Int) (p : List Stp) (a : Nat) (fr : Int) (b : Nat) (tq : Int) : ∀ n, (turnTo R p a fr b tq n).length ≤ 3 * n
  | 0 => Nat.le_refl _
  | n + 1 => by
    have ih := turnTo_length R p a fr b tq n
    rw [turnTo_succ, List.length_append]
    have : (turnK R p a fr b tq n).length ≤ 3 := by
      unfold turnK
      split <;> simp
    omega
/-- what 'turned' gives -/
def turnR (r : Nat) (ts : List Int) (i : Nat) (p : List Stp) (a : Nat) (fr : Int) (b : Nat) (tq : Int) : Bool × List Stp := chk r ((turnTo (refl r ts i) p a fr b tq p.length).filter fun s => s.2 != 0)

set_option maxRecDepth 100000 in
set_option maxHeartbeats 8000000 in
theorem turned_any (R : Nat) (ta : Option Addr) (tn tc : Nat) (ts : List Int) (i : Nat) (a : Option Addr) (n c : Nat) (xs : List Stp) (A Bq : Nat) (fr tq : Int) (w : World) (hc : IntsAt w ta tn ts) (hT : typeB R ts = true) (hi : i < R)
    (h : StepsAt w a n xs) (hp : PathP R xs) (hTu : Turn xs A fr Bq tq)
    (HIs : ∀ w', Ext w w' → Calls Tryz.prog 77 #[carV R ta tn tc] w' fun e w'' => e = .returned (.bool (typeB R ts)) ∧ Ext w' w'') :
    PathRes 99 #[carV R ta tn tc, .int .i64 i, .slice a n c, .int .i64 A, .int .i64 fr, .int .i64 Bq, .int .i64 tq] w (turnR R ts i xs A fr Bq tq) := by
  unfold PathRes
  obtain ⟨⟨J1, J2⟩, hJ⟩ : ∃ J, J = turnR R ts i xs A fr Bq tq := ⟨_, rfl⟩
  rw [← hJ]
  have HJ := hidP hJ
  clear hJ
  dsimp only
  have hx1 := Ext.alloc w (.cells #[.int .i64 R, .slice ta tn tc] 31)
  have HC := hidP (fun w' (hx : Ext (w.alloc (.cells #[.int .i64 R, .slice ta tn tc] 31)) w') => (CarAt.new w _ rfl (R : Int) ta tn tc 31).below hx)
  have HX1 := hidP hx1
  have HT := hidP hT
  have HP := hidP hp
  have HTu := hidP hTu
  have HIs1 := hidP HIs
  have Hc := hidP hc
  have Hh := hidP h
  have Hl := hidP h.len
  have hn60 : n ≤ 60 := by have := hp.len; have := h.len; omega
  have hr4 := typeB_rank hT
  have hR4 : R ≤ 4 := by omega
  have hRf := hidP (fun w' (hx : Ext w w') (aw : Option Addr) (cw : Nat) (W : List Int) (hI : IntsAt w' aw W.length W) (hnl : aw = none → cw = 0) (hW : W.length = R) (hb : ∀ j, j < R → -1000 ≤ W.getD j 0 ∧ W.getD j 0 ≤ 1000) => reflectWeight_any R ta tn tc ts i aw W.length cw W w' (hc.below hx) hT hi hI hnl hW hb)
  have HM0 := hidP (OwnK.made0 stepK (w.alloc (.cells #[.int .i64 R, .slice ta tn tc] 31)))
  have HXM := hidP (Ext.alloc (w.alloc (.cells #[.int .i64 R, .slice ta tn tc] 31)) (.cells #[] 69))
  have hA := hTu.an
  have hAB := hTu.ab
  have hBn := hTu.bn
  have hln := h.len
  have hAn : A < n := by omega
  have hBn' : Bq ≤ n := by omega
  have hfr0 := hTu.fr0
  have hto0 := hTu.to0
  clear hc h hx1 hT hp hTu HIs hr4 hA hBn hln
  go_enter Tryz.func99, Tryz.ntmps99
  go_wp2
  obtain ⟨w1, hw1⟩ : ∃ w1, w1 = w.alloc (.cells #[.int .i64 R, .slice ta tn tc] 31) := ⟨_, rfl⟩
  have hws : w.heap.size + 1 = w1.heap.size := by rw [hw1]; simp
  rw [← hw1] at HM0 HXM HC HX1 ⊢
  have HWS := hidP hws
  clear hw1 hws
  go_loopw [16, 24] (fun out ii wr => ∃ (k g m co : Nat) (hs : List Hdr), k ≤ n ∧ m ≤ 3 * k ∧ out = .slice (some ⟨g, 0, none⟩) m co ∧ ii = .int .i64 k ∧ Hid (OwnK stepK wr w1.heap.size wr.heap.size (some ⟨g, 0, none⟩) m co hs (turnTo (refl R ts i) xs A fr Bq tq k)) ∧ Hid (Ext w1 wr)) (fun _ ii _ => n - (intOf ii).toNat)
  case atStart => exact ⟨0, _, _, _, [], Nat.zero_le _, Nat.zero_le _, rfl, rfl, by rw [HWS.out]; exact HM0, HXM⟩
  case round =>
    obtain ⟨k, g, m, co, hs, hk, hm3, rfl, rfl, HO, HX⟩ := hrel
    by_cases hlt : k < n
    · obtain ⟨b, o, aw, cw, W, L, rfl, HW, HL, hwl, HNl, hq⟩ := (Hh.out.below (HX1.out.trans HX.out)).way k hlt
      have HQ := hidP hq
      obtain ⟨q1, q2, _⟩ := hq wr (Ext.refl wr)
      have hwy := HP.out.way k (by have := Hl.out; omega)
      have hdur := HP.out.dur k (by have := Hl.out; omega)
      rw [HW.out] at hwy
      rw [HL.out] at hdur
      have HWy := hidP hwy
      have hWle : W.length ≤ 4 := by omega
      have hfrA : k = A → fr ≤ L := fun e => by have := HTu.out.fr1; rw [← e, HL.out] at this; exact this
      have htoB : k = Bq → tq ≤ L := fun e => by have := HTu.out.to1 (by have := Hl.out; omega); rw [← e, HL.out] at this; exact this
      have hTS : Hid (turnTo (refl R ts i) xs A fr Bq tq (k + 1) = turnTo (refl R ts i) xs A fr Bq tq k ++ turnK (refl R ts i) xs A fr Bq tq k) := turnTo_succ _ _ _ _ _ _ _
      have HA2 := hidP (Ext.alloc wr (.cells #[.slice aw W.length cw, .int .i64 L] 69))
      have HS := hidP (fun w' (hx : Ext (wr.alloc (.cells #[.slice aw W.length cw, .int .i64 L] 69)) w') => (StpAt.new wr _ rfl aw W.length cw L 69).below hx)
      obtain ⟨w2, hw2⟩ : ∃ w2, w2 = wr.alloc (.cells #[.slice aw W.length cw, .int .i64 L] 69) := ⟨_, rfl⟩
      rw [← hw2] at HA2 HS
      have HCl := hidP (fun w' (hx : Ext w2 w') => clone_any aw W.length cw W w' (HQ.out w' (HA2.out.trans hx)).2.2 HNl.out (by omega))
      have HRf := hidP (fun w' (hx : Ext w2 w') => hRf.out w' ((HX1.out.trans HX.out).trans (HA2.out.trans hx)) aw cw W (HQ.out w' (HA2.out.trans hx)).2.2 HNl.out HWy.out.1 HWy.out.2)
      have HX2 := hidP (HX.out.trans HA2.out)
      have hE : Ext w2 w2.drew := Ext.drew w2
      obtain ⟨s1, s2⟩ := HS.out w2 (Ext.refl _)
      have hz0 : wr.heap.size < w2.heap.size := World.block_lt_of_cell? w2 _ s1
      clear hq hwy
      by_cases hkl : k < A
      · -- ahead of the part
        have HTK : Hid (turnTo (refl R ts i) xs A fr Bq tq (k + 1) = turnTo (refl R ts i) xs A fr Bq tq k ++ [(W, L)]) := by
          show _ = _
          rw [hTS.out]
          unfold turnK
          rw [if_pos (by omega), HW.out, HL.out]
        have hA : ((k : Int) == (A : Int)) = false := by simp; omega
        have hB : ((k : Int) == (Bq : Int)) = false := by simp; omega
        have hl1 : (k : Int) < (A : Int) := by omega
        have hl2 : ¬ ((A : Int) ≤ (k : Int)) := by omega
        clear hTS hfrA htoB
        go_wp2
        rw [← hw2]
        clear hw2 q1 q2 s1 s2
        (refine walkR_start (fun w' => Ext w2 w') 8 (by kernel_rfl) ?_; simp only [numbered, List.take_succ_cons, List.take_zero, Nat.zero_add, Nat.reduceAdd, List.length_cons, List.length_nil])
        (repeat (first | (refine walkR_still (v := ?_) rfl (by decide +kernel) rfl (fun _ _ _ h => h) hE ?_ ?_; rotate_left; (focus (intro w' hw'; obtain ⟨s1, s2⟩ := HS.out w' hw'; go_simp; all_goals (with_reducible rfl))); simp only [Act.put, List.setIfInBounds_toArray, List.set_cons_zero, List.set_cons_succ]) | (refine walkR_skip rfl (by decide +kernel) rfl (fun _ _ _ h => h) hE ?_; simp only [Act.put, List.setIfInBounds_toArray, List.set_cons_zero, List.set_cons_succ])))
        (refine walkR_later ?_; simp only [List.cons_append, List.nil_append])
        (repeat (first | (refine walkR_still (v := ?_) rfl (by decide +kernel) rfl (fun _ _ _ h => h) hE ?_ ?_; rotate_left; (focus (intro w' hw'; obtain ⟨s1, s2⟩ := HS.out w' hw'; go_simp; all_goals (with_reducible rfl))); simp only [Act.put, List.setIfInBounds_toArray, List.set_cons_zero, List.set_cons_succ]) | (refine walkR_skip rfl (by decide +kernel) rfl (fun _ _ _ h => h) hE ?_; simp only [Act.put, List.setIfInBounds_toArray, List.set_cons_zero, List.set_cons_succ])))
        (refine walkR_later ?_; simp only [List.cons_append, List.nil_append]); (refine walkR_later ?_; simp only [List.cons_append, List.nil_append])
        (refine walkR_only (fun w' => Ext w2 w') rfl (by decide +kernel) rfl (fun _ h => h) ?_; intro K hK; go_simp; refine (HCl.out _ hE).mono ?_; rintro e w3 ⟨a1, c1, rfl, ho1, hx1⟩; refine hK _ _ (hE.trans hx1) ?_; clear hK K; (try simp only [Act.put, List.setIfInBounds_toArray, List.set_cons_zero, List.set_cons_succ]))
        have HE3 := hidP (HA2.out.trans ((hE.trans hx1).trans (Ext.alloc w3 (.cells #[.slice a1 W.length c1, .int .i64 L] 69))))
        have HO3 := hidP (HO.out.below HE3.out)
        have HI3 := hidP (ho1.below (Ext.alloc w3 (.cells #[.slice a1 W.length c1, .int .i64 L] 69)))
        have HAp := hidP (HO.out.new_apart ho1 (by have := HA2.out.size; simpa using this))
        have HB3 : Hid (w1.heap.size ≤ w2.drew.heap.size) := Nat.le_trans HX.out.size (HA2.out.trans hE).size
        have HCe : Hid (∀ j, j < stepK.size → (w3.alloc (.cells #[.slice a1 W.length c1, .int .i64 L] 69)).cell? ⟨w3.heap.size, j, none⟩ = (stepK.cells a1 c1 (W, L))[j]?) := fun j _ => (cell_top _ _ _ _ _ rfl).trans (by simp [stepK])
        have hE3 := hE.trans hx1
        clear ho1 hx1 hE
        (repeat (first | (refine walkR_still (v := ?_) rfl (by decide +kernel) rfl (fun _ _ _ h => h) hE3 ?_ ?_; rotate_left; (focus (intro w' hw'; skip; go_simp; all_goals (with_reducible rfl))); simp only [Act.put, List.setIfInBounds_toArray, List.set_cons_zero, List.set_cons_succ]) | (refine walkR_skip rfl (by decide +kernel) rfl (fun _ _ _ h => h) hE3 ?_; simp only [Act.put, List.setIfInBounds_toArray, List.set_cons_zero, List.set_cons_succ])))
        (refine walkR_only (fun w' => Ext w2 w') rfl (by decide +kernel) rfl ?_ ?_)
        · exact fun _ h => h
        intro K hK
        go_simp
        refine hK _ _ (hE3.trans (Ext.alloc w3 (.cells #[.slice a1 W.length c1, .int .i64 L] 69))) ?_
        clear hK K hE3
        (try simp only [Act.put, List.setIfInBounds_toArray, List.set_cons_zero, List.set_cons_succ])
        (refine walkR_tail (by rfl) (by kernel_rfl) ?_; simp only [List.drop_succ_cons, List.drop_zero])
        go_wp2_with (at_builtin; refine wpList_append_elem2 stepK 28 (.agg #[.slice none 0 0, .int .i64 0]) 32 rfl (.tmp 57) (.tmp 64) rfl Tryz.underlying28 Tryz.info69 rfl (by omega) w1.heap.size _ (some ⟨g, 0, none⟩) m co hs _ rfl HO3.out w3.heap.size 1 (a1, c1) (W, L) rfl HCe.out (HI3.out.base HB3.out) HAp.out.1 HAp.out.2 (by omega) (Nat.le_trans HX.out.size HE3.out.size) ?_; intro a4 c4 w4 ho4 hg4 _; have HX4 := hidP (Below.own (HX.out.trans HE3.out) hg4 (HX.out.trans HE3.out).size (fun b o e => by have := HO.out.base_lt b o e; omega) HO3.out.addr); rw [← HTK.out] at ho4; have HO4 := hidP ho4; clear ho4 hg4)
        obtain ⟨g4, rfl⟩ : ∃ g4, a4 = some ⟨g4, 0, none⟩ := by
          rcases HO4.out.form with ⟨_, h0, _⟩ | ⟨g4, _, e4, _⟩
          · omega
          · exact ⟨g4, e4⟩
        go_roundw
        case rel => exact ⟨k + 1, g4, m + 1, c4, _, by omega, by omega, rfl, by go_num, HO4, HX4⟩
        case measure => simp [intOf]; omega
      · by_cases hkg : Bq < k
        · -- behind the part
          have HTK : Hid (turnTo (refl R ts i) xs A fr Bq tq (k + 1) = turnTo (refl R ts i) xs A fr Bq tq k ++ [(W, L)]) := by
            show _ = _
            rw [hTS.out]
            unfold turnK
            rw [if_pos (by omega), HW.out, HL.out]
          have hA : ((k : Int) == (A : Int)) = false := by simp; omega
          have hB : ((k : Int) == (Bq : Int)) = false := by simp; omega
          have hl1 : ¬ ((k : Int) < (A : Int)) := by omega
          have hl2 : (A : Int) ≤ (k : Int) := by omega
          have hl3 : (Bq : Int) < (k : Int) := by omega
          have hl4 : ¬ ((k : Int) < (Bq : Int)) := by omega
          clear hTS hfrA htoB
          go_wp2
          rw [← hw2]
          clear hw2 q1 q2 s1 s2
          (refine walkR_start (fun w' => Ext w2 w') 8 (by kernel_rfl) ?_; simp only [numbered, List.take_succ_cons, List.take_zero, Nat.zero_add, Nat.reduceAdd, List.length_cons, List.length_nil])
          (repeat (first | (refine walkR_still (v := ?_) rfl (by decide +kernel) rfl (fun _ _ _ h => h) hE ?_ ?_; rotate_left; (focus (intro w' hw'; obtain ⟨s1, s2⟩ := HS.out w' hw'; go_simp; all_goals (with_reducible rfl))); simp only [Act.put, List.setIfInBounds_toArray, List.set_cons_zero, List.set_cons_succ]) | (refine walkR_skip rfl (by decide +kernel) rfl (fun _ _ _ h => h) hE ?_; simp only [Act.put, List.setIfInBounds_toArray, List.set_cons_zero, List.set_cons_succ])))
          (refine walkR_later ?_; simp only [List.cons_append, List.nil_append])
          (repeat (first | (refine walkR_still (v := ?_) rfl (by decide +kernel) rfl (fun _ _ _ h => h) hE ?_ ?_; rotate_left; (focus (intro w' hw'; obtain ⟨s1, s2⟩ := HS.out w' hw'; go_simp; all_goals (with_reducible rfl))); simp only [Act.put, List.setIfInBounds_toArray, List.set_cons_zero, List.set_cons_succ]) | (refine walkR_skip rfl (by decide +kernel) rfl (fun _ _ _ h => h) hE ?_; simp only [Act.put, List.setIfInBounds_toArray, List.set_cons_zero, List.set_cons_succ])))
          (refine walkR_later ?_; simp only [List.cons_append, List.nil_append]); (refine walkR_later ?_; simp only [List.cons_append, List.nil_append])
          (refine walkR_only (fun w' => Ext w2 w') rfl (by decide +kernel) rfl (fun _ h => h) ?_; intro K hK; go_simp; refine (HCl.out _ hE).mono ?_; rintro e w3 ⟨a1, c1, rfl, ho1, hx1⟩; refine hK _ _ (hE.trans hx1) ?_; clear hK K; (try simp only [Act.put, List.setIfInBounds_toArray, List.set_cons_zero, List.set_cons_succ]))
          have HE3 := hidP (HA2.out.trans ((hE.trans hx1).trans (Ext.alloc w3 (.cells #[.slice a1 W.length c1, .int .i64 L] 69))))
          have HO3 := hidP (HO.out.below HE3.out)
          have HI3 := hidP (ho1.below (Ext.alloc w3 (.cells #[.slice a1 W.length c1, .int .i64 L] 69)))
          have HAp := hidP (HO.out.new_apart ho1 (by have := HA2.out.size; simpa using this))
          have HB3 : Hid (w1.heap.size ≤ w2.drew.heap.size) := Nat.le_trans HX.out.size (HA2.out.trans hE).size
          have HCe : Hid (∀ j, j < stepK.size → (w3.alloc (.cells #[.slice a1 W.length c1, .int .i64 L] 69)).cell? ⟨w3.heap.size, j, none⟩ = (stepK.cells a1 c1 (W, L))[j]?) := fun j _ => (cell_top _ _ _ _ _ rfl).trans (by simp [stepK])
          have hE3 := hE.trans hx1
          clear ho1 hx1 hE
          (repeat (first | (refine walkR_still (v := ?_) rfl (by decide +kernel) rfl (fun _ _ _ h => h) hE3 ?_ ?_; rotate_left; (focus (intro w' hw'; skip; go_simp; all_goals (with_reducible rfl))); simp only [Act.put, List.setIfInBounds_toArray, List.set_cons_zero, List.set_cons_succ]) | (refine walkR_skip rfl (by decide +kernel) rfl (fun _ _ _ h => h) hE3 ?_; simp only [Act.put, List.setIfInBounds_toArray, List.set_cons_zero, List.set_cons_succ])))
          (refine walkR_only (fun w' => Ext w2 w') rfl (by decide +kernel) rfl ?_ ?_)
          · exact fun _ h => h
          intro K hK
          go_simp
          refine hK _ _ (hE3.trans (Ext.alloc w3 (.cells #[.slice a1 W.length c1, .int .i64 L] 69))) ?_
          clear hK K hE3
          (try simp only [Act.put, List.setIfInBounds_toArray, List.set_cons_zero, List.set_cons_succ])
          (refine walkR_tail (by rfl) (by kernel_rfl) ?_; simp only [List.drop_succ_cons, List.drop_zero])
          go_wp2_with (at_builtin; refine wpList_append_elem2 stepK 28 (.agg #[.slice none 0 0, .int .i64 0]) 32 rfl (.tmp 57) (.tmp 64) rfl Tryz.underlying28 Tryz.info69 rfl (by omega) w1.heap.size _ (some ⟨g, 0, none⟩) m co hs _ rfl HO3.out w3.heap.size 1 (a1, c1) (W, L) rfl HCe.out (HI3.out.base HB3.out) HAp.out.1 HAp.out.2 (by omega) (Nat.le_trans HX.out.size HE3.out.size) ?_; intro a4 c4 w4 ho4 hg4 _; have HX4 := hidP (Below.own (HX.out.trans HE3.out) hg4 (HX.out.trans HE3.out).size (fun b o e => by have := HO.out.base_lt b o e; omega) HO3.out.addr); rw [← HTK.out] at ho4; have HO4 := hidP ho4; clear ho4 hg4)
          obtain ⟨g4, rfl⟩ : ∃ g4, a4 = some ⟨g4, 0, none⟩ := by
            rcases HO4.out.form with ⟨_, h0, _⟩ | ⟨g4, _, e4, _⟩
            · omega
            · exact ⟨g4, e4⟩
          go_roundw
          case rel => exact ⟨k + 1, g4, m + 1, c4, _, by omega, by omega, rfl, by go_num, HO4, HX4⟩
          case measure => simp [intOf]; omega
        · by_cases hkA : k = A
          · by_cases hkB : k = Bq
            · have hfl := hfrA hkA
              have htl := htoB hkB
              have hft : fr ≤ tq := HTu.out.eq (by omega)
              have HTK : Hid (turnTo (refl R ts i) xs A fr Bq tq (k + 1) = turnTo (refl R ts i) xs A fr Bq tq k ++ [(W, fr), (refl R ts i W, tq - fr), (W, L - tq)]) := by
                show _ = _
                rw [hTS.out]
                unfold turnK
                rw [if_neg (by omega), HW.out, HL.out]
                rw [if_pos hkA, if_pos hkB]
              have hge : (A : Int) ≤ (k : Int) := by omega
              have hng : ¬ ((k : Int) < (A : Int)) := by omega
              have hnb : ¬ ((Bq : Int) < (k : Int)) := by omega
              have hA : ((k : Int) == (A : Int)) = true := by simp [hkA]
              have hBq : ((k : Int) == (Bq : Int)) = true := by simp [hkB]
              have hwr1 : IntKind.i64.wrap (tq - fr) = tq - fr := wrap_in (by omega) (by omega)
              have hwr2 : IntKind.i64.wrap (L - tq) = L - tq := wrap_in (by omega) (by omega)
              have hlb : ¬ ((k : Int) < (Bq : Int)) := by omega
              have HkA := hidP hkA
              have HkB := hidP hkB
              clear hTS hfrA htoB hkA hkB
              go_wp2
              rw [← hw2]
              clear hw2 q1 q2 s1 s2
              (refine walkR_start (fun w' => Ext w2 w') 24 (by kernel_rfl) ?_; simp only [numbered, List.take_succ_cons, List.take_zero, Nat.zero_add, Nat.reduceAdd, List.length_cons, List.length_nil])
              (repeat (first | (refine walkR_still (v := ?_) rfl (by decide +kernel) rfl (fun _ _ _ h => h) hE ?_ ?_; rotate_left; (focus (intro w' hw'; obtain ⟨s1, s2⟩ := HS.out w' hw'; go_simp; all_goals (with_reducible rfl))); simp only [Act.put, List.setIfInBounds_toArray, List.set_cons_zero, List.set_cons_succ]) | (refine walkR_skip rfl (by decide +kernel) rfl (fun _ _ _ h => h) hE ?_; simp only [Act.put, List.setIfInBounds_toArray, List.set_cons_zero, List.set_cons_succ])))
              (refine walkR_later ?_; simp only [List.cons_append, List.nil_append])
              (repeat (first | (refine walkR_still (v := ?_) rfl (by decide +kernel) rfl (fun _ _ _ h => h) hE ?_ ?_; rotate_left; (focus (intro w' hw'; skip; go_simp; all_goals (with_reducible rfl))); simp only [Act.put, List.setIfInBounds_toArray, List.set_cons_zero, List.set_cons_succ]) | (refine walkR_skip rfl (by decide +kernel) rfl (fun _ _ _ h => h) hE ?_; simp only [Act.put, List.setIfInBounds_toArray, List.set_cons_zero, List.set_cons_succ])))
              (refine walkR_later ?_; simp only [List.cons_append, List.nil_append])
              (repeat (first | (refine walkR_still (v := ?_) rfl (by decide +kernel) rfl (fun _ _ _ h => h) hE ?_ ?_; rotate_left; (focus (intro w' hw'; obtain ⟨s1, s2⟩ := HS.out w' hw'; obtain ⟨f0, f1⟩ := HC.out w' (HX2.out.trans hw'); go_simp; all_goals (with_reducible rfl))); simp only [Act.put, List.setIfInBounds_toArray, List.set_cons_zero, List.set_cons_succ]) | (refine walkR_skip rfl (by decide +kernel) rfl (fun _ _ _ h => h) hE ?_; simp only [Act.put, List.setIfInBounds_toArray, List.set_cons_zero, List.set_cons_succ])))
              (refine walkR_later ?_; simp only [List.cons_append, List.nil_append])
              (repeat (first | (refine walkR_still (v := ?_) rfl (by decide +kernel) rfl (fun _ _ _ h => h) hE ?_ ?_; rotate_left; (focus (intro w' hw'; skip; go_simp; all_goals (with_reducible rfl))); simp only [Act.put, List.setIfInBounds_toArray, List.set_cons_zero, List.set_cons_succ]) | (refine walkR_skip rfl (by decide +kernel) rfl (fun _ _ _ h => h) hE ?_; simp only [Act.put, List.setIfInBounds_toArray, List.set_cons_zero, List.set_cons_succ])))
              (refine walkR_later ?_; simp only [List.cons_append, List.nil_append])
              (repeat (first | (refine walkR_still (v := ?_) rfl (by decide +kernel) rfl (fun _ _ _ h => h) hE ?_ ?_; rotate_left; (focus (intro w' hw'; obtain ⟨s1, s2⟩ := HS.out w' hw'; go_simp; all_goals (with_reducible rfl))); simp only [Act.put, List.setIfInBounds_toArray, List.set_cons_zero, List.set_cons_succ]) | (refine walkR_skip rfl (by decide +kernel) rfl (fun _ _ _ h => h) hE ?_; simp only [Act.put, List.setIfInBounds_toArray, List.set_cons_zero, List.set_cons_succ])))
              (refine walkR_later ?_; simp only [List.cons_append, List.nil_append])
              (repeat (first | (refine walkR_still (v := ?_) rfl (by decide +kernel) rfl (fun _ _ _ h => h) hE ?_ ?_; rotate_left; (focus (intro w' hw'; obtain ⟨s1, s2⟩ := HS.out w' hw'; go_simp; all_goals (with_reducible rfl))); simp only [Act.put, List.setIfInBounds_toArray, List.set_cons_zero, List.set_cons_succ]) | (refine walkR_skip rfl (by decide +kernel) rfl (fun _ _ _ h => h) hE ?_; simp only [Act.put, List.setIfInBounds_toArray, List.set_cons_zero, List.set_cons_succ])))
              (refine walkR_later ?_; simp only [List.cons_append, List.nil_append]); (refine walkR_later ?_; simp only [List.cons_append, List.nil_append])
              (refine walkR_only (fun w' => Ext w2 w') rfl (by decide +kernel) rfl (fun _ h => h) ?_; intro K hK; go_simp; refine (HCl.out _ hE).mono ?_; rintro e w3 ⟨a1, c1, rfl, ho1, hx1⟩; refine hK _ _ (hE.trans hx1) ?_; clear hK K; (try simp only [Act.put, List.setIfInBounds_toArray, List.set_cons_zero, List.set_cons_succ]))
              have hE3 := hE.trans hx1
              have HI1 := hidP ho1
              have hz1 := hidP (hidP hx1.size).out
              clear ho1 hx1
              (repeat (first | (refine walkR_still (v := ?_) rfl (by decide +kernel) rfl (fun _ _ _ h => h) hE3 ?_ ?_; rotate_left; (focus (intro w' hw'; skip; go_simp; all_goals (with_reducible rfl))); simp only [Act.put, List.setIfInBounds_toArray, List.set_cons_zero, List.set_cons_succ]) | (refine walkR_skip rfl (by decide +kernel) rfl (fun _ _ _ h => h) hE3 ?_; simp only [Act.put, List.setIfInBounds_toArray, List.set_cons_zero, List.set_cons_succ])))
              (refine walkR_only (fun w' => Ext w2 w') rfl (by decide +kernel) rfl (fun _ h => h) ?_; intro K hK; go_simp; refine (HRf.out _ hE3).mono ?_; rintro e w4 ⟨a2, c2, rfl, ho2, hx2⟩; refine hK _ _ (hE3.trans hx2) ?_; clear hK K; (try simp only [Act.put, List.setIfInBounds_toArray, List.set_cons_zero, List.set_cons_succ]))
              have hE4 := hE3.trans hx2
              have HI2 := hidP ho2
              have HI12 := hidP (HI1.out.below hx2)
              have hz2 := hidP (hidP hx2.size).out
              clear ho2 hx2 hE3
              (repeat (first | (refine walkR_still (v := ?_) rfl (by decide +kernel) rfl (fun _ _ _ h => h) hE4 ?_ ?_; rotate_left; (focus (intro w' hw'; skip; go_simp; all_goals (with_reducible rfl))); simp only [Act.put, List.setIfInBounds_toArray, List.set_cons_zero, List.set_cons_succ]) | (refine walkR_skip rfl (by decide +kernel) rfl (fun _ _ _ h => h) hE4 ?_; simp only [Act.put, List.setIfInBounds_toArray, List.set_cons_zero, List.set_cons_succ])))
              (refine walkR_only (fun w' => Ext w2 w') rfl (by decide +kernel) rfl (fun _ h => h) ?_; intro K hK; go_simp; refine (HCl.out _ hE4).mono ?_; rintro e w5 ⟨a3, c3, rfl, ho3, hx3⟩; refine hK _ _ (hE4.trans hx3) ?_; clear hK K; (try simp only [Act.put, List.setIfInBounds_toArray, List.set_cons_zero, List.set_cons_succ]))
              have hE5 := hE4.trans hx3
              have HI3 := hidP ho3
              have HI23 := hidP (HI2.out.below hx3)
              have HI13 := hidP (HI12.out.below hx3)
              clear ho3 hx3 hE4
              (repeat (first | (refine walkR_still (v := ?_) rfl (by decide +kernel) rfl (fun _ _ _ h => h) hE5 ?_ ?_; rotate_left; (focus (intro w' hw'; skip; go_simp; all_goals (with_reducible rfl))); simp only [Act.put, List.setIfInBounds_toArray, List.set_cons_zero, List.set_cons_succ]) | (refine walkR_skip rfl (by decide +kernel) rfl (fun _ _ _ h => h) hE5 ?_; simp only [Act.put, List.setIfInBounds_toArray, List.set_cons_zero, List.set_cons_succ])))
              have HRl : Hid ((refl R ts i W).length = R) := refl_length _ _ _ _
              have HEl : Hid (ElemK stepK w5 w1.heap.size w5.heap.size [((a1, c1), (W, fr)), ((a2, c2), (refl R ts i W, tq - fr)), ((a3, c3), (W, L - tq))]) := by
                have hb1 := fun b o e => HI1.out.at_base b o e
                have hb2 := fun b o e => HI2.out.at_base b o e
                have hb3 := fun b o e => HI3.out.at_base b o e
                have hs2 := hE.size
                have hs0 := HX2.out.size
                have hl13 := fun b o e => HI13.out.at_base b o e
                have hl23 := fun b o e => HI23.out.at_base b o e
                refine ⟨fun z hz => ?_, ?_, fun z hz b o e => ?_⟩
                · simp only [List.mem_cons, List.not_mem_nil, or_false] at hz
                  rcases hz with rfl | rfl | rfl
                  · exact HI13.out.base (Nat.le_trans hs0 hs2)
                  · have h1 : OwnI w5 w1.heap.size a2 W.length c2 (refl R ts i W) := HI23.out.base (by have := hz1.out; omega)
                    show OwnI w5 w1.heap.size a2 (refl R ts i W).length c2 (refl R ts i W)
                    rw [show (refl R ts i W).length = W.length by rw [HRl.out, HWy.out.1]]
                    exact h1
                  · exact HI3.out.base (by have := hz1.out; have := hz2.out; omega)
                · refine .cons (fun z hz => ?_) (.cons (fun z hz => ?_) (.cons (fun z hz => by cases hz) .nil))
                  · simp only [List.mem_cons, List.not_mem_nil, or_false] at hz
                    rcases hz with rfl | rfl
                    · intro b o b' o' e e'
                      have := hb1 b o e
                      have := hb2 b' o' e'
                      omega
                    · intro b o b' o' e e'
                      have := hb1 b o e
                      have := hb3 b' o' e'
                      have := hz2.out
                      omega
                  · simp only [List.mem_cons, List.not_mem_nil, or_false] at hz
                    rcases hz with rfl
                    intro b o b' o' e e'
                    have := hb2 b o e
                    have := hb3 b' o' e'
                    omega
                · simp only [List.mem_cons, List.not_mem_nil, or_false] at hz
                  rcases hz with rfl | rfl | rfl
                  · exact (hl13 b o e).2
                  · exact (hl23 b o e).2
                  · exact (hb3 b o e).2
              have hB5 : w1.heap.size ≤ w5.heap.size := (HX2.out.trans hE5).size
              have HLit : Hid (OwnK stepK (w5.alloc (.cells #[.slice a1 W.length c1, .int .i64 (fr), .slice a2 W.length c2, .int .i64 (tq - fr), .slice a3 W.length c3, .int .i64 (L - tq)] 69)) w1.heap.size (w5.heap.size + 1) (some ⟨w5.heap.size, 0, none⟩) 3 3 [(a1, c1), (a2, c2), (a3, c3)] [(W, fr), (refl R ts i W, tq - fr), (W, L - tq)]) := by
                have h1 := HEl.out.lit hB5 (by unfold maxLen; simp)
                have e1 : (stepK.all ([((a1, c1), (W, fr)), ((a2, c2), (refl R ts i W, tq - fr)), ((a3, c3), (W, L - tq))].map (·.1)) ([((a1, c1), (W, fr)), ((a2, c2), (refl R ts i W, tq - fr)), ((a3, c3), (W, L - tq))].map (·.2))).toArray = #[Value.slice a1 W.length c1, .int .i64 (fr), .slice a2 W.length c2, .int .i64 (tq - fr), .slice a3 W.length c3, .int .i64 (L - tq)] := by
                  have e2 : (refl R ts i W).length = W.length := by rw [HRl.out, HWy.out.1]
                  simp only [List.map_cons, List.map_nil, Knd.all, stepK, e2]
                  rfl
                rw [e1] at h1
                exact h1
              have HX5 := hidP (HX2.out.trans (hE5.trans (Ext.alloc w5 (.cells #[.slice a1 W.length c1, .int .i64 (fr), .slice a2 W.length c2, .int .i64 (tq - fr), .slice a3 W.length c3, .int .i64 (L - tq)] 69))))
              have HO5 := hidP (HO.out.below ((HA2.out.trans hE5).trans (Ext.alloc w5 (.cells #[.slice a1 W.length c1, .int .i64 (fr), .slice a2 W.length c2, .int .i64 (tq - fr), .slice a3 W.length c3, .int .i64 (L - tq)] 69))))
              have HAp : Hid (∀ p q, p < m → q < 3 → Apart (hs.getD p (none, 0)).1 ([(a1, c1), (a2, c2), (a3, c3)].getD q (none, 0)).1) := by
                intro p q hp hq b o b' o' e e'
                have h1 := ((HO.out.each p hp).at_base b o e).2
                have h2 := HA2.out.size
                have h3 := hE.size
                have h4 := hz1.out
                have h5 := hz2.out
                rcases (by omega : q = 0 ∨ q = 1 ∨ q = 2) with rfl | rfl | rfl
                · have := (HI1.out.at_base b' o' e').1; omega
                · have := (HI2.out.at_base b' o' e').1; omega
                · have := (HI3.out.at_base b' o' e').1; omega
              (refine walkR_only (fun w' => Ext w2 w') rfl (by decide +kernel) rfl ?_ ?_)
              · exact fun _ h => h
              intro K hK
              go_simp
              refine hK _ _ (hE5.trans (Ext.alloc w5 (.cells #[.slice a1 W.length c1, .int .i64 (fr), .slice a2 W.length c2, .int .i64 (tq - fr), .slice a3 W.length c3, .int .i64 (L - tq)] 69))) ?_
              clear hK K hE5 hE hB5
              (try simp only [Act.put, List.setIfInBounds_toArray, List.set_cons_zero, List.set_cons_succ])
              (refine walkR_tail (by rfl) (by kernel_rfl) ?_; simp only [List.drop_succ_cons, List.drop_zero])
              go_wp2_with (at_builtin; refine wpList_append_elems stepK 28 (.agg #[.slice none 0 0, .int .i64 0]) 32 rfl (.tmp 66) (.tmp 89) rfl Tryz.underlying28 Tryz.info69 rfl (by omega) w1.heap.size _ _ (some ⟨g, 0, none⟩) m co hs [(a1, c1), (a2, c2), (a3, c3)] _ [(W, fr), (refl R ts i W, tq - fr), (W, L - tq)] rfl HO5.out w5.heap.size 3 3 rfl HLit.out HAp.out (by omega) (by simp) HX5.out.size ?_; intro a6 c6 w6 ho6 hg6 _; have HX6 := hidP (Below.own HX5.out hg6 HX5.out.size (fun b o e => by have := HO.out.base_lt b o e; omega) HO5.out.addr); rw [← HTK.out] at ho6; have HO6 := hidP ho6; clear ho6 hg6)
              obtain ⟨g6, rfl⟩ : ∃ g6, a6 = some ⟨g6, 0, none⟩ := by
                rcases HO6.out.form with ⟨_, h0, _⟩ | ⟨g6, _, e6, _⟩
                · omega
                · exact ⟨g6, e6⟩
              go_roundw
              case rel => exact ⟨k + 1, g6, m + 3, c6, _, by omega, by omega, rfl, by go_num, HO6, HX6⟩
              case measure => simp [intOf]; omega
            · have hfl := hfrA hkA
              have HTK : Hid (turnTo (refl R ts i) xs A fr Bq tq (k + 1) = turnTo (refl R ts i) xs A fr Bq tq k ++ [(W, fr), (refl R ts i W, L - fr), (W, 0)]) := by
                show _ = _
                rw [hTS.out]
                unfold turnK
                rw [if_neg (by omega), HW.out, HL.out]
                rw [if_pos hkA, if_neg hkB, Int.sub_self]
              have hge : (A : Int) ≤ (k : Int) := by omega
              have hng : ¬ ((k : Int) < (A : Int)) := by omega
              have hnb : ¬ ((Bq : Int) < (k : Int)) := by omega
              have hA : ((k : Int) == (A : Int)) = true := by simp [hkA]
              have hBq : ((k : Int) == (Bq : Int)) = false := by simp; omega
              have hwr1 : IntKind.i64.wrap (L - fr) = L - fr := wrap_in (by omega) (by omega)
              have hwr2 : IntKind.i64.wrap L = L := wrap_in (by omega) (by omega)
              have hlb : (k : Int) < (Bq : Int) := by omega
              have HkA := hidP hkA
              have HkB := hidP hkB
              clear hTS hfrA htoB hkA hkB
              go_wp2
              rw [← hw2]
              clear hw2 q1 q2 s1 s2
              (refine walkR_start (fun w' => Ext w2 w') 24 (by kernel_rfl) ?_; simp only [numbered, List.take_succ_cons, List.take_zero, Nat.zero_add, Nat.reduceAdd, List.length_cons, List.length_nil])
              (repeat (first | (refine walkR_still (v := ?_) rfl (by decide +kernel) rfl (fun _ _ _ h => h) hE ?_ ?_; rotate_left; (focus (intro w' hw'; obtain ⟨s1, s2⟩ := HS.out w' hw'; go_simp; all_goals (with_reducible rfl))); simp only [Act.put, List.setIfInBounds_toArray, List.set_cons_zero, List.set_cons_succ]) | (refine walkR_skip rfl (by decide +kernel) rfl (fun _ _ _ h => h) hE ?_; simp only [Act.put, List.setIfInBounds_toArray, List.set_cons_zero, List.set_cons_succ])))
              (refine walkR_later ?_; simp only [List.cons_append, List.nil_append])
              (repeat (first | (refine walkR_still (v := ?_) rfl (by decide +kernel) rfl (fun _ _ _ h => h) hE ?_ ?_; rotate_left; (focus (intro w' hw'; skip; go_simp; all_goals (with_reducible rfl))); simp only [Act.put, List.setIfInBounds_toArray, List.set_cons_zero, List.set_cons_succ]) | (refine walkR_skip rfl (by decide +kernel) rfl (fun _ _ _ h => h) hE ?_; simp only [Act.put, List.setIfInBounds_toArray, List.set_cons_zero, List.set_cons_succ])))
              (refine walkR_later ?_; simp only [List.cons_append, List.nil_append])
              (repeat (first | (refine walkR_still (v := ?_) rfl (by decide +kernel) rfl (fun _ _ _ h => h) hE ?_ ?_; rotate_left; (focus (intro w' hw'; obtain ⟨s1, s2⟩ := HS.out w' hw'; obtain ⟨f0, f1⟩ := HC.out w' (HX2.out.trans hw'); go_simp; all_goals (with_reducible rfl))); simp only [Act.put, List.setIfInBounds_toArray, List.set_cons_zero, List.set_cons_succ]) | (refine walkR_skip rfl (by decide +kernel) rfl (fun _ _ _ h => h) hE ?_; simp only [Act.put, List.setIfInBounds_toArray, List.set_cons_zero, List.set_cons_succ])))
              (refine walkR_later ?_; simp only [List.cons_append, List.nil_append])
              (repeat (first | (refine walkR_still (v := ?_) rfl (by decide +kernel) rfl (fun _ _ _ h => h) hE ?_ ?_; rotate_left; (focus (intro w' hw'; skip; go_simp; all_goals (with_reducible rfl))); simp only [Act.put, List.setIfInBounds_toArray, List.set_cons_zero, List.set_cons_succ]) | (refine walkR_skip rfl (by decide +kernel) rfl (fun _ _ _ h => h) hE ?_; simp only [Act.put, List.setIfInBounds_toArray, List.set_cons_zero, List.set_cons_succ])))
              (refine walkR_later ?_; simp only [List.cons_append, List.nil_append])
              (repeat (first | (refine walkR_still (v := ?_) rfl (by decide +kernel) rfl (fun _ _ _ h => h) hE ?_ ?_; rotate_left; (focus (intro w' hw'; obtain ⟨s1, s2⟩ := HS.out w' hw'; go_simp; all_goals (with_reducible rfl))); simp only [Act.put, List.setIfInBounds_toArray, List.set_cons_zero, List.set_cons_succ]) | (refine walkR_skip rfl (by decide +kernel) rfl (fun _ _ _ h => h) hE ?_; simp only [Act.put, List.setIfInBounds_toArray, List.set_cons_zero, List.set_cons_succ])))
              (refine walkR_later ?_; simp only [List.cons_append, List.nil_append])
              (repeat (first | (refine walkR_still (v := ?_) rfl (by decide +kernel) rfl (fun _ _ _ h => h) hE ?_ ?_; rotate_left; (focus (intro w' hw'; obtain ⟨s1, s2⟩ := HS.out w' hw'; go_simp; all_goals (with_reducible rfl))); simp only [Act.put, List.setIfInBounds_toArray, List.set_cons_zero, List.set_cons_succ]) | (refine walkR_skip rfl (by decide +kernel) rfl (fun _ _ _ h => h) hE ?_; simp only [Act.put, List.setIfInBounds_toArray, List.set_cons_zero, List.set_cons_succ])))
              (refine walkR_later ?_; simp only [List.cons_append, List.nil_append]); (refine walkR_later ?_; simp only [List.cons_append, List.nil_append])
              (refine walkR_only (fun w' => Ext w2 w') rfl (by decide +kernel) rfl (fun _ h => h) ?_; intro K hK; go_simp; refine (HCl.out _ hE).mono ?_; rintro e w3 ⟨a1, c1, rfl, ho1, hx1⟩; refine hK _ _ (hE.trans hx1) ?_; clear hK K; (try simp only [Act.put, List.setIfInBounds_toArray, List.set_cons_zero, List.set_cons_succ]))
              have hE3 := hE.trans hx1
              have HI1 := hidP ho1
              have hz1 := hidP (hidP hx1.size).out
              clear ho1 hx1
              (repeat (first | (refine walkR_still (v := ?_) rfl (by decide +kernel) rfl (fun _ _ _ h => h) hE3 ?_ ?_; rotate_left; (focus (intro w' hw'; skip; go_simp; all_goals (with_reducible rfl))); simp only [Act.put, List.setIfInBounds_toArray, List.set_cons_zero, List.set_cons_succ]) | (refine walkR_skip rfl (by decide +kernel) rfl (fun _ _ _ h => h) hE3 ?_; simp only [Act.put, List.setIfInBounds_toArray, List.set_cons_zero, List.set_cons_succ])))
              (refine walkR_only (fun w' => Ext w2 w') rfl (by decide +kernel) rfl (fun _ h => h) ?_; intro K hK; go_simp; refine (HRf.out _ hE3).mono ?_; rintro e w4 ⟨a2, c2, rfl, ho2, hx2⟩; refine hK _ _ (hE3.trans hx2) ?_; clear hK K; (try simp only [Act.put, List.setIfInBounds_toArray, List.set_cons_zero, List.set_cons_succ]))
              have hE4 := hE3.trans hx2
              have HI2 := hidP ho2
              have HI12 := hidP (HI1.out.below hx2)
              have hz2 := hidP (hidP hx2.size).out
              clear ho2 hx2 hE3
              (repeat (first | (refine walkR_still (v := ?_) rfl (by decide +kernel) rfl (fun _ _ _ h => h) hE4 ?_ ?_; rotate_left; (focus (intro w' hw'; skip; go_simp; all_goals (with_reducible rfl))); simp only [Act.put, List.setIfInBounds_toArray, List.set_cons_zero, List.set_cons_succ]) | (refine walkR_skip rfl (by decide +kernel) rfl (fun _ _ _ h => h) hE4 ?_; simp only [Act.put, List.setIfInBounds_toArray, List.set_cons_zero, List.set_cons_succ])))
              (refine walkR_only (fun w' => Ext w2 w') rfl (by decide +kernel) rfl (fun _ h => h) ?_; intro K hK; go_simp; refine (HCl.out _ hE4).mono ?_; rintro e w5 ⟨a3, c3, rfl, ho3, hx3⟩; refine hK _ _ (hE4.trans hx3) ?_; clear hK K; (try simp only [Act.put, List.setIfInBounds_toArray, List.set_cons_zero, List.set_cons_succ]))
              have hE5 := hE4.trans hx3
              have HI3 := hidP ho3
              have HI23 := hidP (HI2.out.below hx3)
              have HI13 := hidP (HI12.out.below hx3)
              clear ho3 hx3 hE4
              (repeat (first | (refine walkR_still (v := ?_) rfl (by decide +kernel) rfl (fun _ _ _ h => h) hE5 ?_ ?_; rotate_left; (focus (intro w' hw'; skip; go_simp; all_goals (with_reducible rfl))); simp only [Act.put, List.setIfInBounds_toArray, List.set_cons_zero, List.set_cons_succ]) | (refine walkR_skip rfl (by decide +kernel) rfl (fun _ _ _ h => h) hE5 ?_; simp only [Act.put, List.setIfInBounds_toArray, List.set_cons_zero, List.set_cons_succ])))
              have HRl : Hid ((refl R ts i W).length = R) := refl_length _ _ _ _
              have HEl : Hid (ElemK stepK w5 w1.heap.size w5.heap.size [((a1, c1), (W, fr)), ((a2, c2), (refl R ts i W, L - fr)), ((a3, c3), (W, 0))]) := by
                have hb1 := fun b o e => HI1.out.at_base b o e
                have hb2 := fun b o e => HI2.out.at_base b o e
                have hb3 := fun b o e => HI3.out.at_base b o e
                have hs2 := hE.size
                have hs0 := HX2.out.size
                have hl13 := fun b o e => HI13.out.at_base b o e
                have hl23 := fun b o e => HI23.out.at_base b o e
                refine ⟨fun z hz => ?_, ?_, fun z hz b o e => ?_⟩
                · simp only [List.mem_cons, List.not_mem_nil, or_false] at hz
                  rcases hz with rfl | rfl | rfl
                  · exact HI13.out.base (Nat.le_trans hs0 hs2)
                  · have h1 : OwnI w5 w1.heap.size a2 W.length c2 (refl R ts i W) := HI23.out.base (by have := hz1.out; omega)
                    show OwnI w5 w1.heap.size a2 (refl R ts i W).length c2 (refl R ts i W)
                    rw [show (refl R ts i W).length = W.length by rw [HRl.out, HWy.out.1]]
                    exact h1
                  · exact HI3.out.base (by have := hz1.out; have := hz2.out; omega)
                · refine .cons (fun z hz => ?_) (.cons (fun z hz => ?_) (.cons (fun z hz => by cases hz) .nil))
                  · simp only [List.mem_cons, List.not_mem_nil, or_false] at hz
                    rcases hz with rfl | rfl
                    · intro b o b' o' e e'
                      have := hb1 b o e
                      have := hb2 b' o' e'
                      omega
                    · intro b o b' o' e e'
                      have := hb1 b o e
                      have := hb3 b' o' e'
                      have := hz2.out
                      omega
                  · simp only [List.mem_cons, List.not_mem_nil, or_false] at hz
                    rcases hz with rfl
                    intro b o b' o' e e'
                    have := hb2 b o e
                    have := hb3 b' o' e'
                    omega
                · simp only [List.mem_cons, List.not_mem_nil, or_false] at hz
                  rcases hz with rfl | rfl | rfl
                  · exact (hl13 b o e).2
                  · exact (hl23 b o e).2
                  · exact (hb3 b o e).2
              have hB5 : w1.heap.size ≤ w5.heap.size := (HX2.out.trans hE5).size
              have HLit : Hid (OwnK stepK (w5.alloc (.cells #[.slice a1 W.length c1, .int .i64 (fr), .slice a2 W.length c2, .int .i64 (L - fr), .slice a3 W.length c3, .int .i64 (0)] 69)) w1.heap.size (w5.heap.size + 1) (some ⟨w5.heap.size, 0, none⟩) 3 3 [(a1, c1), (a2, c2), (a3, c3)] [(W, fr), (refl R ts i W, L - fr), (W, 0)]) := by
                have h1 := HEl.out.lit hB5 (by unfold maxLen; simp)
                have e1 : (stepK.all ([((a1, c1), (W, fr)), ((a2, c2), (refl R ts i W, L - fr)), ((a3, c3), (W, 0))].map (·.1)) ([((a1, c1), (W, fr)), ((a2, c2), (refl R ts i W, L - fr)), ((a3, c3), (W, 0))].map (·.2))).toArray = #[Value.slice a1 W.length c1, .int .i64 (fr), .slice a2 W.length c2, .int .i64 (L - fr), .slice a3 W.length c3, .int .i64 (0)] := by
                  have e2 : (refl R ts i W).length = W.length := by rw [HRl.out, HWy.out.1]
                  simp only [List.map_cons, List.map_nil, Knd.all, stepK, e2]
                  rfl
                rw [e1] at h1
                exact h1
              have HX5 := hidP (HX2.out.trans (hE5.trans (Ext.alloc w5 (.cells #[.slice a1 W.length c1, .int .i64 (fr), .slice a2 W.length c2, .int .i64 (L - fr), .slice a3 W.length c3, .int .i64 (0)] 69))))
              have HO5 := hidP (HO.out.below ((HA2.out.trans hE5).trans (Ext.alloc w5 (.cells #[.slice a1 W.length c1, .int .i64 (fr), .slice a2 W.length c2, .int .i64 (L - fr), .slice a3 W.length c3, .int .i64 (0)] 69))))
              have HAp : Hid (∀ p q, p < m → q < 3 → Apart (hs.getD p (none, 0)).1 ([(a1, c1), (a2, c2), (a3, c3)].getD q (none, 0)).1) := by
                intro p q hp hq b o b' o' e e'
                have h1 := ((HO.out.each p hp).at_base b o e).2
                have h2 := HA2.out.size
                have h3 := hE.size
                have h4 := hz1.out
                have h5 := hz2.out
                rcases (by omega : q = 0 ∨ q = 1 ∨ q = 2) with rfl | rfl | rfl
                · have := (HI1.out.at_base b' o' e').1; omega
                · have := (HI2.out.at_base b' o' e').1; omega
                · have := (HI3.out.at_base b' o' e').1; omega
              (refine walkR_only (fun w' => Ext w2 w') rfl (by decide +kernel) rfl ?_ ?_)
              · exact fun _ h => h
              intro K hK
              go_simp
              refine hK _ _ (hE5.trans (Ext.alloc w5 (.cells #[.slice a1 W.length c1, .int .i64 (fr), .slice a2 W.length c2, .int .i64 (L - fr), .slice a3 W.length c3, .int .i64 (0)] 69))) ?_
              clear hK K hE5 hE hB5
              (try simp only [Act.put, List.setIfInBounds_toArray, List.set_cons_zero, List.set_cons_succ])
              (refine walkR_tail (by rfl) (by kernel_rfl) ?_; simp only [List.drop_succ_cons, List.drop_zero])
              go_wp2_with (at_builtin; refine wpList_append_elems stepK 28 (.agg #[.slice none 0 0, .int .i64 0]) 32 rfl (.tmp 66) (.tmp 89) rfl Tryz.underlying28 Tryz.info69 rfl (by omega) w1.heap.size _ _ (some ⟨g, 0, none⟩) m co hs [(a1, c1), (a2, c2), (a3, c3)] _ [(W, fr), (refl R ts i W, L - fr), (W, 0)] rfl HO5.out w5.heap.size 3 3 rfl HLit.out HAp.out (by omega) (by simp) HX5.out.size ?_; intro a6 c6 w6 ho6 hg6 _; have HX6 := hidP (Below.own HX5.out hg6 HX5.out.size (fun b o e => by have := HO.out.base_lt b o e; omega) HO5.out.addr); rw [← HTK.out] at ho6; have HO6 := hidP ho6; clear ho6 hg6)
              obtain ⟨g6, rfl⟩ : ∃ g6, a6 = some ⟨g6, 0, none⟩ := by
                rcases HO6.out.form with ⟨_, h0, _⟩ | ⟨g6, _, e6, _⟩
                · omega
                · exact ⟨g6, e6⟩
              go_roundw
              case rel => exact ⟨k + 1, g6, m + 3, c6, _, by omega, by omega, rfl, by go_num, HO6, HX6⟩
              case measure => simp [intOf]; omega
          · by_cases hkB : k = Bq
            · have htl := htoB hkB
              have HTK : Hid (turnTo (refl R ts i) xs A fr Bq tq (k + 1) = turnTo (refl R ts i) xs A fr Bq tq k ++ [(W, 0), (refl R ts i W, tq), (W, L - tq)]) := by
                show _ = _
                rw [hTS.out]
                unfold turnK
                rw [if_neg (by omega), HW.out, HL.out]
                rw [if_neg hkA, if_pos hkB, Int.sub_zero]
              have hge : (A : Int) ≤ (k : Int) := by omega
              have hng : ¬ ((k : Int) < (A : Int)) := by omega
              have hnb : ¬ ((Bq : Int) < (k : Int)) := by omega
              have hA : ((k : Int) == (A : Int)) = false := by simp; omega
              have hBq : ((k : Int) == (Bq : Int)) = true := by simp [hkB]
              have hwr1 : IntKind.i64.wrap (tq) = tq := wrap_in (by omega) (by omega)
              have hwr2 : IntKind.i64.wrap (L - tq) = L - tq := wrap_in (by omega) (by omega)
              have hlb : ¬ ((k : Int) < (Bq : Int)) := by omega
              have HkA := hidP hkA
              have HkB := hidP hkB
              clear hTS hfrA htoB hkA hkB
              go_wp2
              rw [← hw2]
              clear hw2 q1 q2 s1 s2
              (refine walkR_start (fun w' => Ext w2 w') 24 (by kernel_rfl) ?_; simp only [numbered, List.take_succ_cons, List.take_zero, Nat.zero_add, Nat.reduceAdd, List.length_cons, List.length_nil])
              (repeat (first | (refine walkR_still (v := ?_) rfl (by decide +kernel) rfl (fun _ _ _ h => h) hE ?_ ?_; rotate_left; (focus (intro w' hw'; obtain ⟨s1, s2⟩ := HS.out w' hw'; go_simp; all_goals (with_reducible rfl))); simp only [Act.put, List.setIfInBounds_toArray, List.set_cons_zero, List.set_cons_succ]) | (refine walkR_skip rfl (by decide +kernel) rfl (fun _ _ _ h => h) hE ?_; simp only [Act.put, List.setIfInBounds_toArray, List.set_cons_zero, List.set_cons_succ])))
              (refine walkR_later ?_; simp only [List.cons_append, List.nil_append])
              (repeat (first | (refine walkR_still (v := ?_) rfl (by decide +kernel) rfl (fun _ _ _ h => h) hE ?_ ?_; rotate_left; (focus (intro w' hw'; skip; go_simp; all_goals (with_reducible rfl))); simp only [Act.put, List.setIfInBounds_toArray, List.set_cons_zero, List.set_cons_succ]) | (refine walkR_skip rfl (by decide +kernel) rfl (fun _ _ _ h => h) hE ?_; simp only [Act.put, List.setIfInBounds_toArray, List.set_cons_zero, List.set_cons_succ])))
              (refine walkR_later ?_; simp only [List.cons_append, List.nil_append])
              (repeat (first | (refine walkR_still (v := ?_) rfl (by decide +kernel) rfl (fun _ _ _ h => h) hE ?_ ?_; rotate_left; (focus (intro w' hw'; obtain ⟨s1, s2⟩ := HS.out w' hw'; obtain ⟨f0, f1⟩ := HC.out w' (HX2.out.trans hw'); go_simp; all_goals (with_reducible rfl))); simp only [Act.put, List.setIfInBounds_toArray, List.set_cons_zero, List.set_cons_succ]) | (refine walkR_skip rfl (by decide +kernel) rfl (fun _ _ _ h => h) hE ?_; simp only [Act.put, List.setIfInBounds_toArray, List.set_cons_zero, List.set_cons_succ])))
              (refine walkR_later ?_; simp only [List.cons_append, List.nil_append])
              (repeat (first | (refine walkR_still (v := ?_) rfl (by decide +kernel) rfl (fun _ _ _ h => h) hE ?_ ?_; rotate_left; (focus (intro w' hw'; skip; go_simp; all_goals (with_reducible rfl))); simp only [Act.put, List.setIfInBounds_toArray, List.set_cons_zero, List.set_cons_succ]) | (refine walkR_skip rfl (by decide +kernel) rfl (fun _ _ _ h => h) hE ?_; simp only [Act.put, List.setIfInBounds_toArray, List.set_cons_zero, List.set_cons_succ])))
              (refine walkR_later ?_; simp only [List.cons_append, List.nil_append])
              (repeat (first | (refine walkR_still (v := ?_) rfl (by decide +kernel) rfl (fun _ _ _ h => h) hE ?_ ?_; rotate_left; (focus (intro w' hw'; obtain ⟨s1, s2⟩ := HS.out w' hw'; go_simp; all_goals (with_reducible rfl))); simp only [Act.put, List.setIfInBounds_toArray, List.set_cons_zero, List.set_cons_succ]) | (refine walkR_skip rfl (by decide +kernel) rfl (fun _ _ _ h => h) hE ?_; simp only [Act.put, List.setIfInBounds_toArray, List.set_cons_zero, List.set_cons_succ])))
              (refine walkR_later ?_; simp only [List.cons_append, List.nil_append])
              (repeat (first | (refine walkR_still (v := ?_) rfl (by decide +kernel) rfl (fun _ _ _ h => h) hE ?_ ?_; rotate_left; (focus (intro w' hw'; obtain ⟨s1, s2⟩ := HS.out w' hw'; go_simp; all_goals (with_reducible rfl))); simp only [Act.put, List.setIfInBounds_toArray, List.set_cons_zero, List.set_cons_succ]) | (refine walkR_skip rfl (by decide +kernel) rfl (fun _ _ _ h => h) hE ?_; simp only [Act.put, List.setIfInBounds_toArray, List.set_cons_zero, List.set_cons_succ])))
              (refine walkR_later ?_; simp only [List.cons_append, List.nil_append]); (refine walkR_later ?_; simp only [List.cons_append, List.nil_append])
              (refine walkR_only (fun w' => Ext w2 w') rfl (by decide +kernel) rfl (fun _ h => h) ?_; intro K hK; go_simp; refine (HCl.out _ hE).mono ?_; rintro e w3 ⟨a1, c1, rfl, ho1, hx1⟩; refine hK _ _ (hE.trans hx1) ?_; clear hK K; (try simp only [Act.put, List.setIfInBounds_toArray, List.set_cons_zero, List.set_cons_succ]))
              have hE3 := hE.trans hx1
              have HI1 := hidP ho1
              have hz1 := hidP (hidP hx1.size).out
              clear ho1 hx1
              (repeat (first | (refine walkR_still (v := ?_) rfl (by decide +kernel) rfl (fun _ _ _ h => h) hE3 ?_ ?_; rotate_left; (focus (intro w' hw'; skip; go_simp; all_goals (with_reducible rfl))); simp only [Act.put, List.setIfInBounds_toArray, List.set_cons_zero, List.set_cons_succ]) | (refine walkR_skip rfl (by decide +kernel) rfl (fun _ _ _ h => h) hE3 ?_; simp only [Act.put, List.setIfInBounds_toArray, List.set_cons_zero, List.set_cons_succ])))
              (refine walkR_only (fun w' => Ext w2 w') rfl (by decide +kernel) rfl (fun _ h => h) ?_; intro K hK; go_simp; refine (HRf.out _ hE3).mono ?_; rintro e w4 ⟨a2, c2, rfl, ho2, hx2⟩; refine hK _ _ (hE3.trans hx2) ?_; clear hK K; (try simp only [Act.put, List.setIfInBounds_toArray, List.set_cons_zero, List.set_cons_succ]))
              have hE4 := hE3.trans hx2
              have HI2 := hidP ho2
              have HI12 := hidP (HI1.out.below hx2)
              have hz2 := hidP (hidP hx2.size).out
              clear ho2 hx2 hE3
              (repeat (first | (refine walkR_still (v := ?_) rfl (by decide +kernel) rfl (fun _ _ _ h => h) hE4 ?_ ?_; rotate_left; (focus (intro w' hw'; skip; go_simp; all_goals (with_reducible rfl))); simp only [Act.put, List.setIfInBounds_toArray, List.set_cons_zero, List.set_cons_succ]) | (refine walkR_skip rfl (by decide +kernel) rfl (fun _ _ _ h => h) hE4 ?_; simp only [Act.put, List.setIfInBounds_toArray, List.set_cons_zero, List.set_cons_succ])))
              (refine walkR_only (fun w' => Ext w2 w') rfl (by decide +kernel) rfl (fun _ h => h) ?_; intro K hK; go_simp; refine (HCl.out _ hE4).mono ?_; rintro e w5 ⟨a3, c3, rfl, ho3, hx3⟩; refine hK _ _ (hE4.trans hx3) ?_; clear hK K; (try simp only [Act.put, List.setIfInBounds_toArray, List.set_cons_zero, List.set_cons_succ]))
              have hE5 := hE4.trans hx3
              have HI3 := hidP ho3
              have HI23 := hidP (HI2.out.below hx3)
              have HI13 := hidP (HI12.out.below hx3)
              clear ho3 hx3 hE4
              (repeat (first | (refine walkR_still (v := ?_) rfl (by decide +kernel) rfl (fun _ _ _ h => h) hE5 ?_ ?_; rotate_left; (focus (intro w' hw'; skip; go_simp; all_goals (with_reducible rfl))); simp only [Act.put, List.setIfInBounds_toArray, List.set_cons_zero, List.set_cons_succ]) | (refine walkR_skip rfl (by decide +kernel) rfl (fun _ _ _ h => h) hE5 ?_; simp only [Act.put, List.setIfInBounds_toArray, List.set_cons_zero, List.set_cons_succ])))
              have HRl : Hid ((refl R ts i W).length = R) := refl_length _ _ _ _
              have HEl : Hid (ElemK stepK w5 w1.heap.size w5.heap.size [((a1, c1), (W, 0)), ((a2, c2), (refl R ts i W, tq)), ((a3, c3), (W, L - tq))]) := by
                have hb1 := fun b o e => HI1.out.at_base b o e
                have hb2 := fun b o e => HI2.out.at_base b o e
                have hb3 := fun b o e => HI3.out.at_base b o e
                have hs2 := hE.size
                have hs0 := HX2.out.size
                have hl13 := fun b o e => HI13.out.at_base b o e
                have hl23 := fun b o e => HI23.out.at_base b o e
                refine ⟨fun z hz => ?_, ?_, fun z hz b o e => ?_⟩
                · simp only [List.mem_cons, List.not_mem_nil, or_false] at hz
                  rcases hz with rfl | rfl | rfl
                  · exact HI13.out.base (Nat.le_trans hs0 hs2)
                  · have h1 : OwnI w5 w1.heap.size a2 W.length c2 (refl R ts i W) := HI23.out.base (by have := hz1.out; omega)
                    show OwnI w5 w1.heap.size a2 (refl R ts i W).length c2 (refl R ts i W)
                    rw [show (refl R ts i W).length = W.length by rw [HRl.out, HWy.out.1]]
                    exact h1
                  · exact HI3.out.base (by have := hz1.out; have := hz2.out; omega)
                · refine .cons (fun z hz => ?_) (.cons (fun z hz => ?_) (.cons (fun z hz => by cases hz) .nil))
                  · simp only [List.mem_cons, List.not_mem_nil, or_false] at hz
                    rcases hz with rfl | rfl
                    · intro b o b' o' e e'
                      have := hb1 b o e
                      have := hb2 b' o' e'
                      omega
                    · intro b o b' o' e e'
                      have := hb1 b o e
                      have := hb3 b' o' e'
                      have := hz2.out
                      omega
                  · simp only [List.mem_cons, List.not_mem_nil, or_false] at hz
                    rcases hz with rfl
                    intro b o b' o' e e'
                    have := hb2 b o e
                    have := hb3 b' o' e'
                    omega
                · simp only [List.mem_cons, List.not_mem_nil, or_false] at hz
                  rcases hz with rfl | rfl | rfl
                  · exact (hl13 b o e).2
                  · exact (hl23 b o e).2
                  · exact (hb3 b o e).2
              have hB5 : w1.heap.size ≤ w5.heap.size := (HX2.out.trans hE5).size
              have HLit : Hid (OwnK stepK (w5.alloc (.cells #[.slice a1 W.length c1, .int .i64 (0), .slice a2 W.length c2, .int .i64 (tq), .slice a3 W.length c3, .int .i64 (L - tq)] 69)) w1.heap.size (w5.heap.size + 1) (some ⟨w5.heap.size, 0, none⟩) 3 3 [(a1, c1), (a2, c2), (a3, c3)] [(W, 0), (refl R ts i W, tq), (W, L - tq)]) := by
                have h1 := HEl.out.lit hB5 (by unfold maxLen; simp)
                have e1 : (stepK.all ([((a1, c1), (W, 0)), ((a2, c2), (refl R ts i W, tq)), ((a3, c3), (W, L - tq))].map (·.1)) ([((a1, c1), (W, 0)), ((a2, c2), (refl R ts i W, tq)), ((a3, c3), (W, L - tq))].map (·.2))).toArray = #[Value.slice a1 W.length c1, .int .i64 (0), .slice a2 W.length c2, .int .i64 (tq), .slice a3 W.length c3, .int .i64 (L - tq)] := by
                  have e2 : (refl R ts i W).length = W.length := by rw [HRl.out, HWy.out.1]
                  simp only [List.map_cons, List.map_nil, Knd.all, stepK, e2]
                  rfl
                rw [e1] at h1
                exact h1
              have HX5 := hidP (HX2.out.trans (hE5.trans (Ext.alloc w5 (.cells #[.slice a1 W.length c1, .int .i64 (0), .slice a2 W.length c2, .int .i64 (tq), .slice a3 W.length c3, .int .i64 (L - tq)] 69))))
              have HO5 := hidP (HO.out.below ((HA2.out.trans hE5).trans (Ext.alloc w5 (.cells #[.slice a1 W.length c1, .int .i64 (0), .slice a2 W.length c2, .int .i64 (tq), .slice a3 W.length c3, .int .i64 (L - tq)] 69))))
              have HAp : Hid (∀ p q, p < m → q < 3 → Apart (hs.getD p (none, 0)).1 ([(a1, c1), (a2, c2), (a3, c3)].getD q (none, 0)).1) := by
                intro p q hp hq b o b' o' e e'
                have h1 := ((HO.out.each p hp).at_base b o e).2
                have h2 := HA2.out.size
                have h3 := hE.size
                have h4 := hz1.out
                have h5 := hz2.out
                rcases (by omega : q = 0 ∨ q = 1 ∨ q = 2) with rfl | rfl | rfl
                · have := (HI1.out.at_base b' o' e').1; omega
                · have := (HI2.out.at_base b' o' e').1; omega
                · have := (HI3.out.at_base b' o' e').1; omega
              (refine walkR_only (fun w' => Ext w2 w') rfl (by decide +kernel) rfl ?_ ?_)
              · exact fun _ h => h
              intro K hK
              go_simp
              refine hK _ _ (hE5.trans (Ext.alloc w5 (.cells #[.slice a1 W.length c1, .int .i64 (0), .slice a2 W.length c2, .int .i64 (tq), .slice a3 W.length c3, .int .i64 (L - tq)] 69))) ?_
              clear hK K hE5 hE hB5
              (try simp only [Act.put, List.setIfInBounds_toArray, List.set_cons_zero, List.set_cons_succ])
              (refine walkR_tail (by rfl) (by kernel_rfl) ?_; simp only [List.drop_succ_cons, List.drop_zero])
              go_wp2_with (at_builtin; refine wpList_append_elems stepK 28 (.agg #[.slice none 0 0, .int .i64 0]) 32 rfl (.tmp 66) (.tmp 89) rfl Tryz.underlying28 Tryz.info69 rfl (by omega) w1.heap.size _ _ (some ⟨g, 0, none⟩) m co hs [(a1, c1), (a2, c2), (a3, c3)] _ [(W, 0), (refl R ts i W, tq), (W, L - tq)] rfl HO5.out w5.heap.size 3 3 rfl HLit.out HAp.out (by omega) (by simp) HX5.out.size ?_; intro a6 c6 w6 ho6 hg6 _; have HX6 := hidP (Below.own HX5.out hg6 HX5.out.size (fun b o e => by have := HO.out.base_lt b o e; omega) HO5.out.addr); rw [← HTK.out] at ho6; have HO6 := hidP ho6; clear ho6 hg6)
              obtain ⟨g6, rfl⟩ : ∃ g6, a6 = some ⟨g6, 0, none⟩ := by
                rcases HO6.out.form with ⟨_, h0, _⟩ | ⟨g6, _, e6, _⟩
                · omega
                · exact ⟨g6, e6⟩
              go_roundw
              case rel => exact ⟨k + 1, g6, m + 3, c6, _, by omega, by omega, rfl, by go_num, HO6, HX6⟩
              case measure => simp [intOf]; omega
            · skip
              have HTK : Hid (turnTo (refl R ts i) xs A fr Bq tq (k + 1) = turnTo (refl R ts i) xs A fr Bq tq k ++ [(W, 0), (refl R ts i W, L), (W, 0)]) := by
                show _ = _
                rw [hTS.out]
                unfold turnK
                rw [if_neg (by omega), HW.out, HL.out]
                rw [if_neg hkA, if_neg hkB, Int.sub_zero, Int.sub_self]
              have hge : (A : Int) ≤ (k : Int) := by omega
              have hng : ¬ ((k : Int) < (A : Int)) := by omega
              have hnb : ¬ ((Bq : Int) < (k : Int)) := by omega
              have hA : ((k : Int) == (A : Int)) = false := by simp; omega
              have hBq : ((k : Int) == (Bq : Int)) = false := by simp; omega
              have hwr1 : IntKind.i64.wrap (L) = L := wrap_in (by omega) (by omega)
              have hlb : (k : Int) < (Bq : Int) := by omega
              have HkA := hidP hkA
              have HkB := hidP hkB
              clear hTS hfrA htoB hkA hkB
              go_wp2
              rw [← hw2]
              clear hw2 q1 q2 s1 s2
              (refine walkR_start (fun w' => Ext w2 w') 24 (by kernel_rfl) ?_; simp only [numbered, List.take_succ_cons, List.take_zero, Nat.zero_add, Nat.reduceAdd, List.length_cons, List.length_nil])
              (repeat (first | (refine walkR_still (v := ?_) rfl (by decide +kernel) rfl (fun _ _ _ h => h) hE ?_ ?_; rotate_left; (focus (intro w' hw'; obtain ⟨s1, s2⟩ := HS.out w' hw'; go_simp; all_goals (with_reducible rfl))); simp only [Act.put, List.setIfInBounds_toArray, List.set_cons_zero, List.set_cons_succ]) | (refine walkR_skip rfl (by decide +kernel) rfl (fun _ _ _ h => h) hE ?_; simp only [Act.put, List.setIfInBounds_toArray, List.set_cons_zero, List.set_cons_succ])))
              (refine walkR_later ?_; simp only [List.cons_append, List.nil_append])
              (repeat (first | (refine walkR_still (v := ?_) rfl (by decide +kernel) rfl (fun _ _ _ h => h) hE ?_ ?_; rotate_left; (focus (intro w' hw'; skip; go_simp; all_goals (with_reducible rfl))); simp only [Act.put, List.setIfInBounds_toArray, List.set_cons_zero, List.set_cons_succ]) | (refine walkR_skip rfl (by decide +kernel) rfl (fun _ _ _ h => h) hE ?_; simp only [Act.put, List.setIfInBounds_toArray, List.set_cons_zero, List.set_cons_succ])))
              (refine walkR_later ?_; simp only [List.cons_append, List.nil_append])
              (repeat (first | (refine walkR_still (v := ?_) rfl (by decide +kernel) rfl (fun _ _ _ h => h) hE ?_ ?_; rotate_left; (focus (intro w' hw'; obtain ⟨s1, s2⟩ := HS.out w' hw'; obtain ⟨f0, f1⟩ := HC.out w' (HX2.out.trans hw'); go_simp; all_goals (with_reducible rfl))); simp only [Act.put, List.setIfInBounds_toArray, List.set_cons_zero, List.set_cons_succ]) | (refine walkR_skip rfl (by decide +kernel) rfl (fun _ _ _ h => h) hE ?_; simp only [Act.put, List.setIfInBounds_toArray, List.set_cons_zero, List.set_cons_succ])))
              (refine walkR_later ?_; simp only [List.cons_append, List.nil_append])
              (repeat (first | (refine walkR_still (v := ?_) rfl (by decide +kernel) rfl (fun _ _ _ h => h) hE ?_ ?_; rotate_left; (focus (intro w' hw'; skip; go_simp; all_goals (with_reducible rfl))); simp only [Act.put, List.setIfInBounds_toArray, List.set_cons_zero, List.set_cons_succ]) | (refine walkR_skip rfl (by decide +kernel) rfl (fun _ _ _ h => h) hE ?_; simp only [Act.put, List.setIfInBounds_toArray, List.set_cons_zero, List.set_cons_succ])))
              (refine walkR_later ?_; simp only [List.cons_append, List.nil_append])
              (repeat (first | (refine walkR_still (v := ?_) rfl (by decide +kernel) rfl (fun _ _ _ h => h) hE ?_ ?_; rotate_left; (focus (intro w' hw'; obtain ⟨s1, s2⟩ := HS.out w' hw'; go_simp; all_goals (with_reducible rfl))); simp only [Act.put, List.setIfInBounds_toArray, List.set_cons_zero, List.set_cons_succ]) | (refine walkR_skip rfl (by decide +kernel) rfl (fun _ _ _ h => h) hE ?_; simp only [Act.put, List.setIfInBounds_toArray, List.set_cons_zero, List.set_cons_succ])))
              (refine walkR_later ?_; simp only [List.cons_append, List.nil_append])
              (repeat (first | (refine walkR_still (v := ?_) rfl (by decide +kernel) rfl (fun _ _ _ h => h) hE ?_ ?_; rotate_left; (focus (intro w' hw'; obtain ⟨s1, s2⟩ := HS.out w' hw'; go_simp; all_goals (with_reducible rfl))); simp only [Act.put, List.setIfInBounds_toArray, List.set_cons_zero, List.set_cons_succ]) | (refine walkR_skip rfl (by decide +kernel) rfl (fun _ _ _ h => h) hE ?_; simp only [Act.put, List.setIfInBounds_toArray, List.set_cons_zero, List.set_cons_succ])))
              (refine walkR_later ?_; simp only [List.cons_append, List.nil_append]); (refine walkR_later ?_; simp only [List.cons_append, List.nil_append])
              (refine walkR_only (fun w' => Ext w2 w') rfl (by decide +kernel) rfl (fun _ h => h) ?_; intro K hK; go_simp; refine (HCl.out _ hE).mono ?_; rintro e w3 ⟨a1, c1, rfl, ho1, hx1⟩; refine hK _ _ (hE.trans hx1) ?_; clear hK K; (try simp only [Act.put, List.setIfInBounds_toArray, List.set_cons_zero, List.set_cons_succ]))
              have hE3 := hE.trans hx1
              have HI1 := hidP ho1
              have hz1 := hidP (hidP hx1.size).out
              clear ho1 hx1
              (repeat (first | (refine walkR_still (v := ?_) rfl (by decide +kernel) rfl (fun _ _ _ h => h) hE3 ?_ ?_; rotate_left; (focus (intro w' hw'; skip; go_simp; all_goals (with_reducible rfl))); simp only [Act.put, List.setIfInBounds_toArray, List.set_cons_zero, List.set_cons_succ]) | (refine walkR_skip rfl (by decide +kernel) rfl (fun _ _ _ h => h) hE3 ?_; simp only [Act.put, List.setIfInBounds_toArray, List.set_cons_zero, List.set_cons_succ])))
              (refine walkR_only (fun w' => Ext w2 w') rfl (by decide +kernel) rfl (fun _ h => h) ?_; intro K hK; go_simp; refine (HRf.out _ hE3).mono ?_; rintro e w4 ⟨a2, c2, rfl, ho2, hx2⟩; refine hK _ _ (hE3.trans hx2) ?_; clear hK K; (try simp only [Act.put, List.setIfInBounds_toArray, List.set_cons_zero, List.set_cons_succ]))
              have hE4 := hE3.trans hx2
              have HI2 := hidP ho2
              have HI12 := hidP (HI1.out.below hx2)
              have hz2 := hidP (hidP hx2.size).out
              clear ho2 hx2 hE3
              (repeat (first | (refine walkR_still (v := ?_) rfl (by decide +kernel) rfl (fun _ _ _ h => h) hE4 ?_ ?_; rotate_left; (focus (intro w' hw'; skip; go_simp; all_goals (with_reducible rfl))); simp only [Act.put, List.setIfInBounds_toArray, List.set_cons_zero, List.set_cons_succ]) | (refine walkR_skip rfl (by decide +kernel) rfl (fun _ _ _ h => h) hE4 ?_; simp only [Act.put, List.setIfInBounds_toArray, List.set_cons_zero, List.set_cons_succ])))
              (refine walkR_only (fun w' => Ext w2 w') rfl (by decide +kernel) rfl (fun _ h => h) ?_; intro K hK; go_simp; refine (HCl.out _ hE4).mono ?_; rintro e w5 ⟨a3, c3, rfl, ho3, hx3⟩; refine hK _ _ (hE4.trans hx3) ?_; clear hK K; (try simp only [Act.put, List.setIfInBounds_toArray, List.set_cons_zero, List.set_cons_succ]))
              have hE5 := hE4.trans hx3
              have HI3 := hidP ho3
              have HI23 := hidP (HI2.out.below hx3)
              have HI13 := hidP (HI12.out.below hx3)
              clear ho3 hx3 hE4
              (repeat (first | (refine walkR_still (v := ?_) rfl (by decide +kernel) rfl (fun _ _ _ h => h) hE5 ?_ ?_; rotate_left; (focus (intro w' hw'; skip; go_simp; all_goals (with_reducible rfl))); simp only [Act.put, List.setIfInBounds_toArray, List.set_cons_zero, List.set_cons_succ]) | (refine walkR_skip rfl (by decide +kernel) rfl (fun _ _ _ h => h) hE5 ?_; simp only [Act.put, List.setIfInBounds_toArray, List.set_cons_zero, List.set_cons_succ])))
              have HRl : Hid ((refl R ts i W).length = R) := refl_length _ _ _ _
              have HEl : Hid (ElemK stepK w5 w1.heap.size w5.heap.size [((a1, c1), (W, 0)), ((a2, c2), (refl R ts i W, L)), ((a3, c3), (W, 0))]) := by
                have hb1 := fun b o e => HI1.out.at_base b o e
                have hb2 := fun b o e => HI2.out.at_base b o e
                have hb3 := fun b o e => HI3.out.at_base b o e
                have hs2 := hE.size
                have hs0 := HX2.out.size
                have hl13 := fun b o e => HI13.out.at_base b o e
                have hl23 := fun b o e => HI23.out.at_base b o e
                refine ⟨fun z hz => ?_, ?_, fun z hz b o e => ?_⟩
                · simp only [List.mem_cons, List.not_mem_nil, or_false] at hz
                  rcases hz with rfl | rfl | rfl
                  · exact HI13.out.base (Nat.le_trans hs0 hs2)
                  · have h1 : OwnI w5 w1.heap.size a2 W.length c2 (refl R ts i W) := HI23.out.base (by have := hz1.out; omega)
                    show OwnI w5 w1.heap.size a2 (refl R ts i W).length c2 (refl R ts i W)
                    rw [show (refl R ts i W).length = W.length by rw [HRl.out, HWy.out.1]]
                    exact h1
                  · exact HI3.out.base (by have := hz1.out; have := hz2.out; omega)
                · refine .cons (fun z hz => ?_) (.cons (fun z hz => ?_) (.cons (fun z hz => by cases hz) .nil))
                  · simp only [List.mem_cons, List.not_mem_nil, or_false] at hz
                    rcases hz with rfl | rfl
                    · intro b o b' o' e e'
                      have := hb1 b o e
                      have := hb2 b' o' e'
                      omega
                    · intro b o b' o' e e'
                      have := hb1 b o e
                      have := hb3 b' o' e'
                      have := hz2.out
                      omega
                  · simp only [List.mem_cons, List.not_mem_nil, or_false] at hz
                    rcases hz with rfl
                    intro b o b' o' e e'
                    have := hb2 b o e
                    have := hb3 b' o' e'
                    omega
                · simp only [List.mem_cons, List.not_mem_nil, or_false] at hz
                  rcases hz with rfl | rfl | rfl
                  · exact (hl13 b o e).2
                  · exact (hl23 b o e).2
                  · exact (hb3 b o e).2
              have hB5 : w1.heap.size ≤ w5.heap.size := (HX2.out.trans hE5).size
              have HLit : Hid (OwnK stepK (w5.alloc (.cells #[.slice a1 W.length c1, .int .i64 (0), .slice a2 W.length c2, .int .i64 (L), .slice a3 W.length c3, .int .i64 (0)] 69)) w1.heap.size (w5.heap.size + 1) (some ⟨w5.heap.size, 0, none⟩) 3 3 [(a1, c1), (a2, c2), (a3, c3)] [(W, 0), (refl R ts i W, L), (W, 0)]) := by
                have h1 := HEl.out.lit hB5 (by unfold maxLen; simp)
                have e1 : (stepK.all ([((a1, c1), (W, 0)), ((a2, c2), (refl R ts i W, L)), ((a3, c3), (W, 0))].map (·.1)) ([((a1, c1), (W, 0)), ((a2, c2), (refl R ts i W, L)), ((a3, c3), (W, 0))].map (·.2))).toArray = #[Value.slice a1 W.length c1, .int .i64 (0), .slice a2 W.length c2, .int .i64 (L), .slice a3 W.length c3, .int .i64 (0)] := by
                  have e2 : (refl R ts i W).length = W.length := by rw [HRl.out, HWy.out.1]
                  simp only [List.map_cons, List.map_nil, Knd.all, stepK, e2]
                  rfl
                rw [e1] at h1
                exact h1
              have HX5 := hidP (HX2.out.trans (hE5.trans (Ext.alloc w5 (.cells #[.slice a1 W.length c1, .int .i64 (0), .slice a2 W.length c2, .int .i64 (L), .slice a3 W.length c3, .int .i64 (0)] 69))))
              have HO5 := hidP (HO.out.below ((HA2.out.trans hE5).trans (Ext.alloc w5 (.cells #[.slice a1 W.length c1, .int .i64 (0), .slice a2 W.length c2, .int .i64 (L), .slice a3 W.length c3, .int .i64 (0)] 69))))
              have HAp : Hid (∀ p q, p < m → q < 3 → Apart (hs.getD p (none, 0)).1 ([(a1, c1), (a2, c2), (a3, c3)].getD q (none, 0)).1) := by
                intro p q hp hq b o b' o' e e'
                have h1 := ((HO.out.each p hp).at_base b o e).2
                have h2 := HA2.out.size
                have h3 := hE.size
                have h4 := hz1.out
                have h5 := hz2.out
                rcases (by omega : q = 0 ∨ q = 1 ∨ q = 2) with rfl | rfl | rfl
                · have := (HI1.out.at_base b' o' e').1; omega
                · have := (HI2.out.at_base b' o' e').1; omega
                · have := (HI3.out.at_base b' o' e').1; omega
              (refine walkR_only (fun w' => Ext w2 w') rfl (by decide +kernel) rfl ?_ ?_)
              · exact fun _ h => h
              intro K hK
              go_simp
              refine hK _ _ (hE5.trans (Ext.alloc w5 (.cells #[.slice a1 W.length c1, .int .i64 (0), .slice a2 W.length c2, .int .i64 (L), .slice a3 W.length c3, .int .i64 (0)] 69))) ?_
              clear hK K hE5 hE hB5
              (try simp only [Act.put, List.setIfInBounds_toArray, List.set_cons_zero, List.set_cons_succ])
              (refine walkR_tail (by rfl) (by kernel_rfl) ?_; simp only [List.drop_succ_cons, List.drop_zero])
              go_wp2_with (at_builtin; refine wpList_append_elems stepK 28 (.agg #[.slice none 0 0, .int .i64 0]) 32 rfl (.tmp 66) (.tmp 89) rfl Tryz.underlying28 Tryz.info69 rfl (by omega) w1.heap.size _ _ (some ⟨g, 0, none⟩) m co hs [(a1, c1), (a2, c2), (a3, c3)] _ [(W, 0), (refl R ts i W, L), (W, 0)] rfl HO5.out w5.heap.size 3 3 rfl HLit.out HAp.out (by omega) (by simp) HX5.out.size ?_; intro a6 c6 w6 ho6 hg6 _; have HX6 := hidP (Below.own HX5.out hg6 HX5.out.size (fun b o e => by have := HO.out.base_lt b o e; omega) HO5.out.addr); rw [← HTK.out] at ho6; have HO6 := hidP ho6; clear ho6 hg6)
              obtain ⟨g6, rfl⟩ : ∃ g6, a6 = some ⟨g6, 0, none⟩ := by
                rcases HO6.out.form with ⟨_, h0, _⟩ | ⟨g6, _, e6, _⟩
                · omega
                · exact ⟨g6, e6⟩
              go_roundw
              case rel => exact ⟨k + 1, g6, m + 3, c6, _, by omega, by omega, rfl, by go_num, HO6, HX6⟩
              case measure => simp [intOf]; omega
    · obtain rfl : n = k := by omega
      have HDel := hidP (fun w' (hx : OwnK stepK w' w1.heap.size w'.heap.size (some ⟨g, 0, none⟩) m co hs (turnTo (refl R ts i) xs A fr Bq tq n)) => deleteStep_any w1.heap.size w'.heap.size g m co hs _ w' hx)
      have HTl := hidP (turn_le_len (refl R ts i) HP.out HTu.out n (by have := Hl.out; omega))
      have HTw := hidP (turn_way (ts := ts) (i := i) HP.out A fr Bq tq n (by have := Hl.out; omega))
      have HTn := hidP (turnTo_length (refl R ts i) xs A fr Bq tq n)
      have HJc : Hid (chk R ((turnTo (refl R ts i) xs A fr Bq tq n).filter fun s => s.2 != 0) = (J1, J2)) := by
        show _ = _
        rw [HJ.out]
        unfold turnR
        rw [Hl.out]
      have hE : Ext wr wr.drew := Ext.drew wr
      have hgw := (HO.out.base_lt g 0 rfl).1
      go_wp2
      (refine walkR_start (fun w' => Ext w1 w') 6 (by kernel_rfl) ?_; simp only [numbered, List.take_succ_cons, List.take_zero, Nat.zero_add, Nat.reduceAdd, List.length_cons, List.length_nil])
      (repeat (first | (refine walkR_still (v := ?_) rfl (by decide +kernel) rfl (fun _ _ _ h => h) (HX.out.trans hE) ?_ ?_; rotate_left; (focus (intro w' hw'; obtain ⟨f0, f1⟩ := HC.out w' hw'; go_simp; all_goals (with_reducible rfl))); simp only [Act.put, List.setIfInBounds_toArray, List.set_cons_zero, List.set_cons_succ]) | (refine walkR_skip rfl (by decide +kernel) rfl (fun _ _ _ h => h) (HX.out.trans hE) ?_; simp only [Act.put, List.setIfInBounds_toArray, List.set_cons_zero, List.set_cons_succ])))
      (refine walkR_only (fun w' => Ext w1 w') rfl (by decide +kernel) rfl (fun _ h => h) ?_; intro K hK; go_simp; refine (HDel.out wr.drew (OwnK.below HO.out hE)).mono ?_; rintro e w3 ⟨m3, hs3, rfl, ho3, hg3⟩; refine hK _ _ (Below.own (a := some ⟨g, 0, none⟩) (n := m) (c := co) (HX.out.trans hE) hg3 (HX.out.trans hE).size (fun b o e => by simp only [Option.some.injEq, Addr.mk.injEq, and_true] at e; omega) (fun p e => ⟨g, by simpa using e.symm⟩)) ?_; clear hK K; (try simp only [Act.put, List.setIfInBounds_toArray, List.set_cons_zero, List.set_cons_succ]))
      have hX3 : Ext w1 w3 := Below.own (a := some ⟨g, 0, none⟩) (n := m) (c := co) (HX.out.trans hE) hg3 (HX.out.trans hE).size (fun b o e => by simp only [Option.some.injEq, Addr.mk.injEq, and_true] at e; omega) (fun p e => ⟨g, by simpa using e.symm⟩)
      have HO3 := hidP ho3
      have hm3 : m3 ≤ 180 := by
        have h1 := ho3.xl
        have h2 := List.length_filter_le (fun s : Stp => s.2 != 0) (turnTo (refl R ts i) xs A fr Bq tq n)
        have h3 := HTn.out
        omega
      have HCk := hidP (checked_of R ta tn tc ts w1.heap.size _ (some ⟨g, 0, none⟩) m3 co hs3 _ w3 ho3 hX3.size (by omega) (fun k hk => by
        have hmem : ((turnTo (refl R ts i) xs A fr Bq tq n).filter fun s => s.2 != 0).getD k ([], 0) ∈ turnTo (refl R ts i) xs A fr Bq tq n := (List.mem_filter.1 (getD_within _ k ([], 0) (by have := ho3.xl; omega))).1
        have h1 := HTl.out _ hmem
        have h2 := HTw.out _ hmem
        unfold wayAt lenAt
        omega) HT.out (fun w' hx' => HIs1.out w' ((HX1.out.trans hX3).trans hx')))
      rw [HJc.out] at HCk
      dsimp only at HCk
      clear ho3 hg3
      (refine walkR_only (fun w' => Ext w1 w') rfl (by decide +kernel) rfl (fun _ h => h) ?_; intro K hK; go_simp; refine (HCk.out).mono ?_; rintro e w7 ⟨a7, n7, c7, hs7, rfl, ho7, hx7⟩; refine hK _ _ (hX3.trans hx7) ?_; clear hK K; (try simp only [Act.put, List.setIfInBounds_toArray, List.set_cons_zero, List.set_cons_succ]))
      have HX7 := hidP (HX1.out.trans (hX3.trans hx7))
      have HO7 := hidP (ho7.weaken HX1.out.size (Nat.le_refl _))
      have hX7 := hX3.trans hx7
      clear ho7 hx7 hX3
      (repeat (first | (refine walkR_still (v := ?_) rfl (by decide +kernel) rfl (fun _ _ _ h => h) hX7 ?_ ?_; rotate_left; (focus (intro w' hw'; skip; go_simp; all_goals (with_reducible rfl))); simp only [Act.put, List.setIfInBounds_toArray, List.set_cons_zero, List.set_cons_succ]) | (refine walkR_skip rfl (by decide +kernel) rfl (fun _ _ _ h => h) hX7 ?_; simp only [Act.put, List.setIfInBounds_toArray, List.set_cons_zero, List.set_cons_succ])))
      (refine walkR_tail (by rfl) (by kernel_rfl) ?_; simp only [List.drop_succ_cons, List.drop_zero])
      go_wp2
      refine bodyPost_ret (v := .tuple #[.slice a7 n7 c7, .bool J1]) (by simp [results, Tryz.results99, go_sem]) rfl ⟨a7, n7, c7, hs7, rfl, HO7.out, HX7.out⟩
end Go.Proofs.YtfikkfbnlegflaaGreatDoor
