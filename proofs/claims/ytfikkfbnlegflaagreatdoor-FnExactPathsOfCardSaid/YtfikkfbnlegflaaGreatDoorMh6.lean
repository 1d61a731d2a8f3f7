/-
  A region that draws its order: two operations one behind the other, and a third one that may come up at any time; appends of several strings.
  The reference's matrix of a type of one part.
  The reference's search for an order of rows.
  The rows that are connected with a row, by the reference.
  The reference's matrices of types of one part.
  A reflection applied between two times of a path, by the program: turned. Printed by gen/pthI.py.
-/
import Derived.Test.YtfikkfbnlegflaaGreatDoorMh5
namespace Go.Proofs.YtfikkfbnlegflaaGreatDoor
open Go.RowKit

variable {α : Type}
/-- a new block with elements of one's own -/
theorem ElemK.lit {K : Knd α} {w : World} {B : Nat} {l : List (Hdr × α)} (h : ElemK K w B w.heap.size l) (hB : B ≤ w.heap.size) (hm : l.length ≤ maxLen) :
    OwnK K (w.alloc (.cells (K.all (l.map (·.1)) (l.map (·.2))).toArray K.E)) B (w.heap.size + 1) (some ⟨w.heap.size, 0, none⟩) l.length l.length (l.map (·.1)) (l.map (·.2)) := by
  have hx := Ext.alloc w (.cells (K.all (l.map (·.1)) (l.map (·.2))).toArray K.E)
  have h1 : ElemK K (w.alloc (.cells (K.all (l.map (·.1)) (l.map (·.2))).toArray K.E)) B (w.heap.size + 1) l :=
    ⟨fun z hz => (h.each z hz).below hx, h.apart, fun z hz b o e => by have := h.lt z hz b o e; omega⟩
  refine h1.own ?_ rfl (fun b o e => by simp only [Option.some.injEq, Addr.mk.injEq, and_true] at e; omega)
  have hl : (K.all (l.map (·.1)) (l.map (·.2))).toArray.size = l.length * K.size := by
    rw [List.size_toArray, K.all_length _ _ (by simp)]
    simp
  have := World.ownsRow_lit (e := K.E) (size := K.size) (base := B) w (K.all (l.map (·.1)) (l.map (·.2))).toArray l.length hB hm hl
  simpa using this
theorem turn_le_len (R : List Int → List Int) {r : Nat} {p : List Stp} (hp : PathP r p) {a b : Nat} {fr tq : Int} (h : Turn p a fr b tq) (n : Nat) (hn : n ≤ p.length) : ∀ s ∈ turnTo R p a fr b tq n, 0 ≤ s.2 ∧ s.2 ≤ 83160 := by
  intro s hs
  refine ⟨turn_nonneg R (lens_of_path hp) h n hn s hs, ?_⟩
  simp only [turnTo, List.mem_flatMap, List.mem_range] at hs
  obtain ⟨k, hk, hs⟩ := hs
  have h1 := hp.dur k (by omega)
  obtain ⟨g1, g2, g3, g4, g5, g6, g7, g8, g9⟩ := h
  unfold turnK at hs
  split at hs
  · simp only [List.mem_singleton] at hs
    subst hs
    exact h1.2
  · simp only [List.mem_cons, List.not_mem_nil, or_false] at hs
    have e1 : k = b → tq ≤ lenAt p k := by rintro rfl; exact g7 (by omega)
    have e2 : k = a → fr ≤ lenAt p k := by rintro rfl; exact g5
    rcases hs with rfl | rfl | rfl
    · show (if k = a then fr else 0) ≤ _
      split <;> omega
    · show ((if k = b then tq else lenAt p k) - if k = a then fr else 0) ≤ _
      split <;> split <;> omega
    · show (lenAt p k - if k = b then tq else lenAt p k) ≤ _
      split <;> omega
theorem turn_way {r : Nat} {ts : List Int} {i : Nat} {p : List Stp} (hp : PathP r p) (a : Nat) (fr : Int) (b : Nat) (tq : Int) (n : Nat) (hn : n ≤ p.length) : ∀ s ∈ turnTo (refl r ts i) p a fr b tq n, s.1.length = r := by
  intro s hs
  simp only [turnTo, List.mem_flatMap, List.mem_range] at hs
  obtain ⟨k, hk, hs⟩ := hs
  have h1 := (hp.way k (by omega)).1
  unfold turnK at hs
  split at hs
  · simp only [List.mem_singleton] at hs
    subst hs
    exact h1
  · simp only [List.mem_cons, List.not_mem_nil, or_false] at hs
    rcases hs with rfl | rfl | rfl
    · exact h1
    · exact refl_length _ _ _ _
    · exact h1
theorem turnTo_length (R : List Int → List Int) (p : List Stp) (a : Nat) (fr : Int) (b : Nat) (tq : Int) : ∀ n, (turnTo R p a fr b tq n).length ≤ 3 * n
  | 0 => Nat.le_refl _
  | n + 1 => by
    have ih := turnTo_length R p a fr b tq n
    rw [turnTo_succ, List.length_append]
    have : (turnK R p a fr b tq n).length ≤ 3 := by
      unfold turnK
      split <;> simp
    omega
/-- what 'turned' gives -/
def turnR (r : Nat) (ts : List Int) (i : Nat) (p : List Stp) (a : Nat) (fr : Int) (b : Nat) (tq : Int) : Bool × List Stp := chk r ((turnTo (refl r ts i) p a fr b tq p.length).filter fun s => s.2 != 0)

set_option maxRecDepth 100000 in
set_option maxHeartbeats 8000000 in
theorem turned_any (R : Nat) (ta : Option Addr) (tn tc : Nat) (ts : List Int) (i : Nat) (a : Option Addr) (n c : Nat) (xs : List Stp) (A Bq : Nat) (fr tq : Int) (w : World) (hc : IntsAt w ta tn ts) (hT : typeB R ts = true) (hi : i < R)
    (h : StepsAt w a n xs) (hp : PathP R xs) (hTu : Turn xs A fr Bq tq)
    (HIs : ∀ w', Ext w w' → Calls Tryz.prog 77 #[carV R ta tn tc] w' fun e w'' => e = .returned (.bool (typeB R ts)) ∧ Ext w' w'') :
    PathRes 99 #[carV R ta tn tc, .int .i64 i, .slice a n c, .int .i64 A, .int .i64 fr, .int .i64 Bq, .int .i64 tq] w (turnR R ts i xs A fr Bq tq) := by
  unfold PathRes
  obtain ⟨⟨J1, J2⟩, hJ⟩ : ∃ J, J = turnR R ts i xs A fr Bq tq := ⟨_, rfl⟩
  rw [← hJ]
  have HJ := hidP hJ
  clear hJ
  dsimp only
  have hx1 := Ext.alloc w (.cells #[.int .i64 R, .slice ta tn tc] 31)
  have HC := hidP (fun w' (hx : Ext (w.alloc (.cells #[.int .i64 R, .slice ta tn tc] 31)) w') => (CarAt.new w _ rfl (R : Int) ta tn tc 31).below hx)
  have HX1 := hidP hx1
  have HT := hidP hT
  have HP := hidP hp
  have HTu := hidP hTu
  have HIs1 := hidP HIs
  have Hc := hidP hc
  have Hh := hidP h
  have Hl := hidP h.len
  have hn60 : n ≤ 60 := by have := hp.len; have := h.len; omega
  have hr4 := typeB_rank hT
  have hR4 : R ≤ 4 := by omega
  have hRf := hidP (fun w' (hx : Ext w w') (aw : Option Addr) (cw : Nat) (W : List Int) (hI : IntsAt w' aw W.length W) (hnl : aw = none → cw = 0) (hW : W.length = R) (hb : ∀ j, j < R → -1000 ≤ W.getD j 0 ∧ W.getD j 0 ≤ 1000) => reflectWeight_any R ta tn tc ts i aw W.length cw W w' (hc.below hx) hT hi hI hnl hW hb)
  have HM0 := hidP (OwnK.made0 stepK (w.alloc (.cells #[.int .i64 R, .slice ta tn tc] 31)))
  have HXM := hidP (Ext.alloc (w.alloc (.cells #[.int .i64 R, .slice ta tn tc] 31)) (.cells #[] 69))
  have hA := hTu.an
  have hAB := hTu.ab
  have hBn := hTu.bn
  have hln := h.len
  have hAn : A < n := by omega
  have hBn' : Bq ≤ n := by omega
  have hfr0 := hTu.fr0
  have hto0 := hTu.to0
  clear hc h hx1 hT hp hTu HIs hr4 hA hBn hln
  go_enter Tryz.func99, Tryz.ntmps99
  go_wp2
  obtain ⟨w1, hw1⟩ : ∃ w1, w1 = w.alloc (.cells #[.int .i64 R, .slice ta tn tc] 31) := ⟨_, rfl⟩
  have hws : w.heap.size + 1 = w1.heap.size := by rw [hw1]; simp
  rw [← hw1] at HM0 HXM HC HX1 ⊢
  have HWS := hidP hws
  clear hw1 hws
  go_loopw [16, 24] (fun out ii wr => ∃ (k g m co : Nat) (hs : List Hdr), k ≤ n ∧ m ≤ 3 * k ∧ out = .slice (some ⟨g, 0, none⟩) m co ∧ ii = .int .i64 k ∧ Hid (OwnK stepK wr w1.heap.size wr.heap.size (some ⟨g, 0, none⟩) m co hs (turnTo (refl R ts i) xs A fr Bq tq k)) ∧ Hid (Ext w1 wr)) (fun _ ii _ => n - (intOf ii).toNat)
  case atStart => exact ⟨0, _, _, _, [], Nat.zero_le _, Nat.zero_le _, rfl, rfl, by rw [HWS.out]; exact HM0, HXM⟩
  case round =>
    obtain ⟨k, g, m, co, hs, hk, hm3, rfl, rfl, HO, HX⟩ := hrel
    by_cases hlt : k < n
    · obtain ⟨b, o, aw, cw, W, L, rfl, HW, HL, hwl, HNl, hq⟩ := (Hh.out.below (HX1.out.trans HX.out)).way k hlt
      have HQ := hidP hq
      obtain ⟨q1, q2, _⟩ := hq wr (Ext.refl wr)
      have hwy := HP.out.way k (by have := Hl.out; omega)
      have hdur := HP.out.dur k (by have := Hl.out; omega)
      rw [HW.out] at hwy
      rw [HL.out] at hdur
      have HWy := hidP hwy
      have hWle : W.length ≤ 4 := by omega
      have hfrA : k = A → fr ≤ L := fun e => by have := HTu.out.fr1; rw [← e, HL.out] at this; exact this
      have htoB : k = Bq → tq ≤ L := fun e => by have := HTu.out.to1 (by have := Hl.out; omega); rw [← e, HL.out] at this; exact this
      have hTS : Hid (turnTo (refl R ts i) xs A fr Bq tq (k + 1) = turnTo (refl R ts i) xs A fr Bq tq k ++ turnK (refl R ts i) xs A fr Bq tq k) := turnTo_succ _ _ _ _ _ _ _
      have HA2 := hidP (Ext.alloc wr (.cells #[.slice aw W.length cw, .int .i64 L] 69))
      have HS := hidP (fun w' (hx : Ext (wr.alloc (.cells #[.slice aw W.length cw, .int .i64 L] 69)) w') => (StpAt.new wr _ rfl aw W.length cw L 69).below hx)
      obtain ⟨w2, hw2⟩ : ∃ w2, w2 = wr.alloc (.cells #[.slice aw W.length cw, .int .i64 L] 69) := ⟨_, rfl⟩
      rw [← hw2] at HA2 HS
      have HCl := hidP (fun w' (hx : Ext w2 w') => clone_any aw W.length cw W w' (HQ.out w' (HA2.out.trans hx)).2.2 HNl.out (by omega))
      have HRf := hidP (fun w' (hx : Ext w2 w') => hRf.out w' ((HX1.out.trans HX.out).trans (HA2.out.trans hx)) aw cw W (HQ.out w' (HA2.out.trans hx)).2.2 HNl.out HWy.out.1 HWy.out.2)
      have HX2 := hidP (HX.out.trans HA2.out)
      have hE : Ext w2 w2.drew := Ext.drew w2
      obtain ⟨s1, s2⟩ := HS.out w2 (Ext.refl _)
      have hz0 : wr.heap.size < w2.heap.size := World.block_lt_of_cell? w2 _ s1
      clear hq hwy
      by_cases hkl : k < A
      · -- ahead of the part
        have HTK : Hid (turnTo (refl R ts i) xs A fr Bq tq (k + 1) = turnTo (refl R ts i) xs A fr Bq tq k ++ [(W, L)]) := by
          show _ = _
          rw [hTS.out]
          unfold turnK
          rw [if_pos (by omega), HW.out, HL.out]
        have hA : ((k : Int) == (A : Int)) = false := by simp; omega
        have hB : ((k : Int) == (Bq : Int)) = false := by simp; omega
        have hl1 : (k : Int) < (A : Int) := by omega
        have hl2 : ¬ ((A : Int) ≤ (k : Int)) := by omega
        clear hTS hfrA htoB
        go_wp2
        rw [← hw2]
        clear hw2 q1 q2 s1 s2
        (refine walkR_start (fun w' => Ext w2 w') 8 (by kernel_rfl) ?_; simp only [numbered, List.take_succ_cons, List.take_zero, Nat.zero_add, Nat.reduceAdd, List.length_cons, List.length_nil])
        (repeat (first | (refine walkR_still (v := ?_) rfl (by decide +kernel) rfl (fun _ _ _ h => h) hE ?_ ?_; rotate_left; (focus (intro w' hw'; obtain ⟨s1, s2⟩ := HS.out w' hw'; go_simp; all_goals (with_reducible rfl))); simp only [Act.put, List.setIfInBounds_toArray, List.set_cons_zero, List.set_cons_succ]) | (refine walkR_skip rfl (by decide +kernel) rfl (fun _ _ _ h => h) hE ?_; simp only [Act.put, List.setIfInBounds_toArray, List.set_cons_zero, List.set_cons_succ])))
        (refine walkR_later ?_; simp only [List.cons_append, List.nil_append])
        (repeat (first | (refine walkR_still (v := ?_) rfl (by decide +kernel) rfl (fun _ _ _ h => h) hE ?_ ?_; rotate_left; (focus (intro w' hw'; obtain ⟨s1, s2⟩ := HS.out w' hw'; go_simp; all_goals (with_reducible rfl))); simp only [Act.put, List.setIfInBounds_toArray, List.set_cons_zero, List.set_cons_succ]) | (refine walkR_skip rfl (by decide +kernel) rfl (fun _ _ _ h => h) hE ?_; simp only [Act.put, List.setIfInBounds_toArray, List.set_cons_zero, List.set_cons_succ])))
        (refine walkR_later ?_; simp only [List.cons_append, List.nil_append]); (refine walkR_later ?_; simp only [List.cons_append, List.nil_append])
        (refine walkR_only (fun w' => Ext w2 w') rfl (by decide +kernel) rfl (fun _ h => h) ?_; intro K hK; go_simp; refine (HCl.out _ hE).mono ?_; rintro e w3 ⟨a1, c1, rfl, ho1, hx1⟩; refine hK _ _ (hE.trans hx1) ?_; clear hK K; (try simp only [Act.put, List.setIfInBounds_toArray, List.set_cons_zero, List.set_cons_succ]))
        have HE3 := hidP (HA2.out.trans ((hE.trans hx1).trans (Ext.alloc w3 (.cells #[.slice a1 W.length c1, .int .i64 L] 69))))
        have HO3 := hidP (HO.out.below HE3.out)
        have HI3 := hidP (ho1.below (Ext.alloc w3 (.cells #[.slice a1 W.length c1, .int .i64 L] 69)))
        have HAp := hidP (HO.out.new_apart ho1 (by have := HA2.out.size; simpa using this))
        have HB3 : Hid (w1.heap.size ≤ w2.drew.heap.size) := Nat.le_trans HX.out.size (HA2.out.trans hE).size
        have HCe : Hid (∀ j, j < stepK.size → (w3.alloc (.cells #[.slice a1 W.length c1, .int .i64 L] 69)).cell? ⟨w3.heap.size, j, none⟩ = (stepK.cells a1 c1 (W, L))[j]?) := fun j _ => (cell_top _ _ _ _ _ rfl).trans (by simp [stepK])
        have hE3 := hE.trans hx1
        clear ho1 hx1 hE
        (repeat (first | (refine walkR_still (v := ?_) rfl (by decide +kernel) rfl (fun _ _ _ h => h) hE3 ?_ ?_; rotate_left; (focus (intro w' hw'; skip; go_simp; all_goals (with_reducible rfl))); simp only [Act.put, List.setIfInBounds_toArray, List.set_cons_zero, List.set_cons_succ]) | (refine walkR_skip rfl (by decide +kernel) rfl (fun _ _ _ h => h) hE3 ?_; simp only [Act.put, List.setIfInBounds_toArray, List.set_cons_zero, List.set_cons_succ])))
        (refine walkR_only (fun w' => Ext w2 w') rfl (by decide +kernel) rfl ?_ ?_)
        · exact fun _ h => h
        intro K hK
        go_simp
        refine hK _ _ (hE3.trans (Ext.alloc w3 (.cells #[.slice a1 W.length c1, .int .i64 L] 69))) ?_
        clear hK K hE3
        (try simp only [Act.put, List.setIfInBounds_toArray, List.set_cons_zero, List.set_cons_succ])
        (refine walkR_tail (by rfl) (by kernel_rfl) ?_; simp only [List.drop_succ_cons, List.drop_zero])
        go_wp2_with (at_builtin; refine wpList_append_elem2 stepK 28 (.agg #[.slice none 0 0, .int .i64 0]) 32 rfl (.tmp 57) (.tmp 64) rfl Tryz.underlying28 Tryz.info69 rfl (by omega) w1.heap.size _ (some ⟨g, 0, none⟩) m co hs _ rfl HO3.out w3.heap.size 1 (a1, c1) (W, L) rfl HCe.out (HI3.out.base HB3.out) HAp.out.1 HAp.out.2 (by omega) (Nat.le_trans HX.out.size HE3.out.size) ?_; intro a4 c4 w4 ho4 hg4 _; have HX4 := hidP (Below.own (HX.out.trans HE3.out) hg4 (HX.out.trans HE3.out).size (fun b o e => by have := HO.out.base_lt b o e; omega) HO3.out.addr); rw [← HTK.out] at ho4; have HO4 := hidP ho4; clear ho4 hg4)
        obtain ⟨g4, rfl⟩ : ∃ g4, a4 = some ⟨g4, 0, none⟩ := by
          rcases HO4.out.form with ⟨_, h0, _⟩ | ⟨g4, _, e4, _⟩
          · omega
          · exact ⟨g4, e4⟩
        go_roundw
        case rel => exact ⟨k + 1, g4, m + 1, c4, _, by omega, by omega, rfl, by go_num, HO4, HX4⟩
        case measure => simp [intOf]; omega
      · by_cases hkg : Bq < k
        · -- behind the part
          have HTK : Hid (turnTo (refl R ts i) xs A fr Bq tq (k + 1) = turnTo (refl R ts i) xs A fr Bq tq k ++ [(W, L)]) := by
            show _ = _
            rw [hTS.out]
            unfold turnK
            rw [if_pos (by omega), HW.out, HL.out]
          have hA : ((k : Int) == (A : Int)) = false := by simp; omega
          have hB : ((k : Int) == (Bq : Int)) = false := by simp; omega
          have hl1 : ¬ ((k : Int) < (A : Int)) := by omega
          have hl2 : (A : Int) ≤ (k : Int) := by omega
          have hl3 : (Bq : Int) < (k : Int) := by omega
          have hl4 : ¬ ((k : Int) < (Bq : Int)) := by omega
          clear hTS hfrA htoB
          go_wp2
          rw [← hw2]
          clear hw2 q1 q2 s1 s2
          (refine walkR_start (fun w' => Ext w2 w') 8 (by kernel_rfl) ?_; simp only [numbered, List.take_succ_cons, List.take_zero, Nat.zero_add, Nat.reduceAdd, List.length_cons, List.length_nil])
          (repeat (first | (refine walkR_still (v := ?_) rfl (by decide +kernel) rfl (fun _ _ _ h => h) hE ?_ ?_; rotate_left; (focus (intro w' hw'; obtain ⟨s1, s2⟩ := HS.out w' hw'; go_simp; all_goals (with_reducible rfl))); simp only [Act.put, List.setIfInBounds_toArray, List.set_cons_zero, List.set_cons_succ]) | (refine walkR_skip rfl (by decide +kernel) rfl (fun _ _ _ h => h) hE ?_; simp only [Act.put, List.setIfInBounds_toArray, List.set_cons_zero, List.set_cons_succ])))
          (refine walkR_later ?_; simp only [List.cons_append, List.nil_append])
          (repeat (first | (refine walkR_still (v := ?_) rfl (by decide +kernel) rfl (fun _ _ _ h => h) hE ?_ ?_; rotate_left; (focus (intro w' hw'; obtain ⟨s1, s2⟩ := HS.out w' hw'; go_simp; all_goals (with_reducible rfl))); simp only [Act.put, List.setIfInBounds_toArray, List.set_cons_zero, List.set_cons_succ]) | (refine walkR_skip rfl (by decide +kernel) rfl (fun _ _ _ h => h) hE ?_; simp only [Act.put, List.setIfInBounds_toArray, List.set_cons_zero, List.set_cons_succ])))
          (refine walkR_later ?_; simp only [List.cons_append, List.nil_append]); (refine walkR_later ?_; simp only [List.cons_append, List.nil_append])
          (refine walkR_only (fun w' => Ext w2 w') rfl (by decide +kernel) rfl (fun _ h => h) ?_; intro K hK; go_simp; refine (HCl.out _ hE).mono ?_; rintro e w3 ⟨a1, c1, rfl, ho1, hx1⟩; refine hK _ _ (hE.trans hx1) ?_; clear hK K; (try simp only [Act.put, List.setIfInBounds_toArray, List.set_cons_zero, List.set_cons_succ]))
          have HE3 := hidP (HA2.out.trans ((hE.trans hx1).trans (Ext.alloc w3 (.cells #[.slice a1 W.length c1, .int .i64 L] 69))))
          have HO3 := hidP (HO.out.below HE3.out)
          have HI3 := hidP (ho1.below (Ext.alloc w3 (.cells #[.slice a1 W.length c1, .int .i64 L] 69)))
          have HAp := hidP (HO.out.new_apart ho1 (by have := HA2.out.size; simpa using this))
          have HB3 : Hid (w1.heap.size ≤ w2.drew.heap.size) := Nat.le_trans HX.out.size (HA2.out.trans hE).size
          have HCe : Hid (∀ j, j < stepK.size → (w3.alloc (.cells #[.slice a1 W.length c1, .int .i64 L] 69)).cell? ⟨w3.heap.size, j, none⟩ = (stepK.cells a1 c1 (W, L))[j]?) := fun j _ => (cell_top _ _ _ _ _ rfl).trans (by simp [stepK])
          have hE3 := hE.trans hx1
          clear ho1 hx1 hE
          (repeat (first | (refine walkR_still (v := ?_) rfl (by decide +kernel) rfl (fun _ _ _ h => h) hE3 ?_ ?_; rotate_left; (focus (intro w' hw'; skip; go_simp; all_goals (with_reducible rfl))); simp only [Act.put, List.setIfInBounds_toArray, List.set_cons_zero, List.set_cons_succ]) | (refine walkR_skip rfl (by decide +kernel) rfl (fun _ _ _ h => h) hE3 ?_; simp only [Act.put, List.setIfInBounds_toArray, List.set_cons_zero, List.set_cons_succ])))
          (refine walkR_only (fun w' => Ext w2 w') rfl (by decide +kernel) rfl ?_ ?_)
          · exact fun _ h => h
          intro K hK
          go_simp
          refine hK _ _ (hE3.trans (Ext.alloc w3 (.cells #[.slice a1 W.length c1, .int .i64 L] 69))) ?_
          clear hK K hE3
          (try simp only [Act.put, List.setIfInBounds_toArray, List.set_cons_zero, List.set_cons_succ])
          (refine walkR_tail (by rfl) (by kernel_rfl) ?_; simp only [List.drop_succ_cons, List.drop_zero])
          go_wp2_with (at_builtin; refine wpList_append_elem2 stepK 28 (.agg #[.slice none 0 0, .int .i64 0]) 32 rfl (.tmp 57) (.tmp 64) rfl Tryz.underlying28 Tryz.info69 rfl (by omega) w1.heap.size _ (some ⟨g, 0, none⟩) m co hs _ rfl HO3.out w3.heap.size 1 (a1, c1) (W, L) rfl HCe.out (HI3.out.base HB3.out) HAp.out.1 HAp.out.2 (by omega) (Nat.le_trans HX.out.size HE3.out.size) ?_; intro a4 c4 w4 ho4 hg4 _; have HX4 := hidP (Below.own (HX.out.trans HE3.out) hg4 (HX.out.trans HE3.out).size (fun b o e => by have := HO.out.base_lt b o e; omega) HO3.out.addr); rw [← HTK.out] at ho4; have HO4 := hidP ho4; clear ho4 hg4)
          obtain ⟨g4, rfl⟩ : ∃ g4, a4 = some ⟨g4, 0, none⟩ := by
            rcases HO4.out.form with ⟨_, h0, _⟩ | ⟨g4, _, e4, _⟩
            · omega
            · exact ⟨g4, e4⟩
          go_roundw
          case rel => exact ⟨k + 1, g4, m + 1, c4, _, by omega, by omega, rfl, by go_num, HO4, HX4⟩
          case measure => simp [intOf]; omega
        · by_cases hkA : k = A
          · by_cases hkB : k = Bq
            · have hfl := hfrA hkA
              have htl := htoB hkB
              have hft : fr ≤ tq := HTu.out.eq (by omega)
              have HTK : Hid (turnTo (refl R ts i) xs A fr Bq tq (k + 1) = turnTo (refl R ts i) xs A fr Bq tq k ++ [(W, fr), (refl R ts i W, tq - fr), (W, L - tq)]) := by
                show _ = _
                rw [hTS.out]
                unfold turnK
                rw [if_neg (by omega), HW.out, HL.out]
                rw [if_pos hkA, if_pos hkB]
              have hge : (A : Int) ≤ (k : Int) := by omega
              have hng : ¬ ((k : Int) < (A : Int)) := by omega
              have hnb : ¬ ((Bq : Int) < (k : Int)) := by omega
              have hA : ((k : Int) == (A : Int)) = true := by simp [hkA]
              have hBq : ((k : Int) == (Bq : Int)) = true := by simp [hkB]
              have hwr1 : IntKind.i64.wrap (tq - fr) = tq - fr := wrap_in (by omega) (by omega)
              have hwr2 : IntKind.i64.wrap (L - tq) = L - tq := wrap_in (by omega) (by omega)
              have hlb : ¬ ((k : Int) < (Bq : Int)) := by omega
              have HkA := hidP hkA
              have HkB := hidP hkB
              clear hTS hfrA htoB hkA hkB
              go_wp2
              rw [← hw2]
              clear hw2 q1 q2 s1 s2
              (refine walkR_start (fun w' => Ext w2 w') 24 (by kernel_rfl) ?_; simp only [numbered, List.take_succ_cons, List.take_zero, Nat.zero_add, Nat.reduceAdd, List.length_cons, List.length_nil])
              (repeat (first | (refine walkR_still (v := ?_) rfl (by decide +kernel) rfl (fun _ _ _ h => h) hE ?_ ?_; rotate_left; (focus (intro w' hw'; obtain ⟨s1, s2⟩ := HS.out w' hw'; go_simp; all_goals (with_reducible rfl))); simp only [Act.put, List.setIfInBounds_toArray, List.set_cons_zero, List.set_cons_succ]) | (refine walkR_skip rfl (by decide +kernel) rfl (fun _ _ _ h => h) hE ?_; simp only [Act.put, List.setIfInBounds_toArray, List.set_cons_zero, List.set_cons_succ])))
              (refine walkR_later ?_; simp only [List.cons_append, List.nil_append])
              (repeat (first | (refine walkR_still (v := ?_) rfl (by decide +kernel) rfl (fun _ _ _ h => h) hE ?_ ?_; rotate_left; (focus (intro w' hw'; skip; go_simp; all_goals (with_reducible rfl))); simp only [Act.put, List.setIfInBounds_toArray, List.set_cons_zero, List.set_cons_succ]) | (refine walkR_skip rfl (by decide +kernel) rfl (fun _ _ _ h => h) hE ?_; simp only [Act.put, List.setIfInBounds_toArray, List.set_cons_zero, List.set_cons_succ])))
              (refine walkR_later ?_; simp only [List.cons_append, List.nil_append])
              (repeat (first | (refine walkR_still (v := ?_) rfl (by decide +kernel) rfl (fun _ _ _ h => h) hE ?_ ?_; rotate_left; (focus (intro w' hw'; obtain ⟨s1, s2⟩ := HS.out w' hw'; obtain ⟨f0, f1⟩ := HC.out w' (HX2.out.trans hw'); go_simp; all_goals (with_reducible rfl))); simp only [Act.put, List.setIfInBounds_toArray, List.set_cons_zero, List.set_cons_succ]) | (refine walkR_skip rfl (by decide +kernel) rfl (fun _ _ _ h => h) hE ?_; simp only [Act.put, List.setIfInBounds_toArray, List.set_cons_zero, List.set_cons_succ])))
              (refine walkR_later ?_; simp only [List.cons_append, List.nil_append])
              (repeat (first | (refine walkR_still (v := ?_) rfl (by decide +kernel) rfl (fun _ _ _ h => h) hE ?_ ?_; rotate_left; (focus (intro w' hw'; skip; go_simp; all_goals (with_reducible rfl))); simp only [Act.put, List.setIfInBounds_toArray, List.set_cons_zero, List.set_cons_succ]) | (refine walkR_skip rfl (by decide +kernel) rfl (fun _ _ _ h => h) hE ?_; simp only [Act.put, List.setIfInBounds_toArray, List.set_cons_zero, List.set_cons_succ])))
              (refine walkR_later ?_; simp only [List.cons_append, List.nil_append])
              (repeat (first | (refine walkR_still (v := ?_) rfl (by decide +kernel) rfl (fun _ _ _ h => h) hE ?_ ?_; rotate_left; (focus (intro w' hw'; obtain ⟨s1, s2⟩ := HS.out w' hw'; go_simp; all_goals (with_reducible rfl))); simp only [Act.put, List.setIfInBounds_toArray, List.set_cons_zero, List.set_cons_succ]) | (refine walkR_skip rfl (by decide +kernel) rfl (fun _ _ _ h => h) hE ?_; simp only [Act.put, List.setIfInBounds_toArray, List.set_cons_zero, List.set_cons_succ])))
              (refine walkR_later ?_; simp only [List.cons_append, List.nil_append])
              (repeat (first | (refine walkR_still (v := ?_) rfl (by decide +kernel) rfl (fun _ _ _ h => h) hE ?_ ?_; rotate_left; (focus (intro w' hw'; obtain ⟨s1, s2⟩ := HS.out w' hw'; go_simp; all_goals (with_reducible rfl))); simp only [Act.put, List.setIfInBounds_toArray, List.set_cons_zero, List.set_cons_succ]) | (refine walkR_skip rfl (by decide +kernel) rfl (fun _ _ _ h => h) hE ?_; simp only [Act.put, List.setIfInBounds_toArray, List.set_cons_zero, List.set_cons_succ])))
              (refine walkR_later ?_; simp only [List.cons_append, List.nil_append]); (refine walkR_later ?_; simp only [List.cons_append, List.nil_append])
              (refine walkR_only (fun w' => Ext w2 w') rfl (by decide +kernel) rfl (fun _ h => h) ?_; intro K hK; go_simp; refine (HCl.out _ hE).mono ?_; rintro e w3 ⟨a1, c1, rfl, ho1, hx1⟩; refine hK _ _ (hE.trans hx1) ?_; clear hK K; (try simp only [Act.put, List.setIfInBounds_toArray, List.set_cons_zero, List.set_cons_succ]))
              have hE3 := hE.trans hx1
              have HI1 := hidP ho1
              have hz1 := hidP (hidP hx1.size).out
              clear ho1 hx1
              (repeat (first | (refine walkR_still (v := ?_) rfl (by decide +kernel) rfl (fun _ _ _ h => h) hE3 ?_ ?_; rotate_left; (focus (intro w' hw'; skip; go_simp; all_goals (with_reducible rfl))); simp only [Act.put, List.setIfInBounds_toArray, List.set_cons_zero, List.set_cons_succ]) | (refine walkR_skip rfl (by decide +kernel) rfl (fun _ _ _ h => h) hE3 ?_; simp only [Act.put, List.setIfInBounds_toArray, List.set_cons_zero, List.set_cons_succ])))
              (refine walkR_only (fun w' => Ext w2 w') rfl (by decide +kernel) rfl (fun _ h => h) ?_; intro K hK; go_simp; refine (HRf.out _ hE3).mono ?_; rintro e w4 ⟨a2, c2, rfl, ho2, hx2⟩; refine hK _ _ (hE3.trans hx2) ?_; clear hK K; (try simp only [Act.put, List.setIfInBounds_toArray, List.set_cons_zero, List.set_cons_succ]))
              have hE4 := hE3.trans hx2
              have HI2 := hidP ho2
              have HI12 := hidP (HI1.out.below hx2)
              have hz2 := hidP (hidP hx2.size).out
              clear ho2 hx2 hE3
              (repeat (first | (refine walkR_still (v := ?_) rfl (by decide +kernel) rfl (fun _ _ _ h => h) hE4 ?_ ?_; rotate_left; (focus (intro w' hw'; skip; go_simp; all_goals (with_reducible rfl))); simp only [Act.put, List.setIfInBounds_toArray, List.set_cons_zero, List.set_cons_succ]) | (refine walkR_skip rfl (by decide +kernel) rfl (fun _ _ _ h => h) hE4 ?_; simp only [Act.put, List.setIfInBounds_toArray, List.set_cons_zero, List.set_cons_succ])))
              (refine walkR_only (fun w' => Ext w2 w') rfl (by decide +kernel) rfl (fun _ h => h) ?_; intro K hK; go_simp; refine (HCl.out _ hE4).mono ?_; rintro e w5 ⟨a3, c3, rfl, ho3, hx3⟩; refine hK _ _ (hE4.trans hx3) ?_; clear hK K; (try simp only [Act.put, List.setIfInBounds_toArray, List.set_cons_zero, List.set_cons_succ]))
              have hE5 := hE4.trans hx3
              have HI3 := hidP ho3
              have HI23 := hidP (HI2.out.below hx3)
              have HI13 := hidP (HI12.out.below hx3)
              clear ho3 hx3 hE4
              (repeat (first | (refine walkR_still (v := ?_) rfl (by decide +kernel) rfl (fun _ _ _ h => h) hE5 ?_ ?_; rotate_left; (focus (intro w' hw'; skip; go_simp; all_goals (with_reducible rfl))); simp only [Act.put, List.setIfInBounds_toArray, List.set_cons_zero, List.set_cons_succ]) | (refine walkR_skip rfl (by decide +kernel) rfl (fun _ _ _ h => h) hE5 ?_; simp only [Act.put, List.setIfInBounds_toArray, List.set_cons_zero, List.set_cons_succ])))
              have HRl : Hid ((refl R ts i W).length = R) := refl_length _ _ _ _
              have HEl : Hid (ElemK stepK w5 w1.heap.size w5.heap.size [((a1, c1), (W, fr)), ((a2, c2), (refl R ts i W, tq - fr)), ((a3, c3), (W, L - tq))]) := by
                have hb1 := fun b o e => HI1.out.at_base b o e
                have hb2 := fun b o e => HI2.out.at_base b o e
                have hb3 := fun b o e => HI3.out.at_base b o e
                have hs2 := hE.size
                have hs0 := HX2.out.size
                have hl13 := fun b o e => HI13.out.at_base b o e
                have hl23 := fun b o e => HI23.out.at_base b o e
                refine ⟨fun z hz => ?_, ?_, fun z hz b o e => ?_⟩
                · simp only [List.mem_cons, List.not_mem_nil, or_false] at hz
                  rcases hz with rfl | rfl | rfl
                  · exact HI13.out.base (Nat.le_trans hs0 hs2)
                  · have h1 : OwnI w5 w1.heap.size a2 W.length c2 (refl R ts i W) := HI23.out.base (by have := hz1.out; omega)
                    show OwnI w5 w1.heap.size a2 (refl R ts i W).length c2 (refl R ts i W)
                    rw [show (refl R ts i W).length = W.length by rw [HRl.out, HWy.out.1]]
                    exact h1
                  · exact HI3.out.base (by have := hz1.out; have := hz2.out; omega)
                · refine .cons (fun z hz => ?_) (.cons (fun z hz => ?_) (.cons (fun z hz => by cases hz) .nil))
                  · simp only [List.mem_cons, List.not_mem_nil, or_false] at hz
                    rcases hz with rfl | rfl
                    · intro b o b' o' e e'
                      have := hb1 b o e
                      have := hb2 b' o' e'
                      omega
                    · intro b o b' o' e e'
                      have := hb1 b o e
                      have := hb3 b' o' e'
                      have := hz2.out
                      omega
                  · simp only [List.mem_cons, List.not_mem_nil, or_false] at hz
                    rcases hz with rfl
                    intro b o b' o' e e'
                    have := hb2 b o e
                    have := hb3 b' o' e'
                    omega
                · simp only [List.mem_cons, List.not_mem_nil, or_false] at hz
                  rcases hz with rfl | rfl | rfl
                  · exact (hl13 b o e).2
                  · exact (hl23 b o e).2
                  · exact (hb3 b o e).2
              have hB5 : w1.heap.size ≤ w5.heap.size := (HX2.out.trans hE5).size
              have HLit : Hid (OwnK stepK (w5.alloc (.cells #[.slice a1 W.length c1, .int .i64 (fr), .slice a2 W.length c2, .int .i64 (tq - fr), .slice a3 W.length c3, .int .i64 (L - tq)] 69)) w1.heap.size (w5.heap.size + 1) (some ⟨w5.heap.size, 0, none⟩) 3 3 [(a1, c1), (a2, c2), (a3, c3)] [(W, fr), (refl R ts i W, tq - fr), (W, L - tq)]) := by
                have h1 := HEl.out.lit hB5 (by unfold maxLen; simp)
                have e1 : (stepK.all ([((a1, c1), (W, fr)), ((a2, c2), (refl R ts i W, tq - fr)), ((a3, c3), (W, L - tq))].map (·.1)) ([((a1, c1), (W, fr)), ((a2, c2), (refl R ts i W, tq - fr)), ((a3, c3), (W, L - tq))].map (·.2))).toArray = #[Value.slice a1 W.length c1, .int .i64 (fr), .slice a2 W.length c2, .int .i64 (tq - fr), .slice a3 W.length c3, .int .i64 (L - tq)] := by
                  have e2 : (refl R ts i W).length = W.length := by rw [HRl.out, HWy.out.1]
                  simp only [List.map_cons, List.map_nil, Knd.all, stepK, e2]
                  rfl
                rw [e1] at h1
                exact h1
              have HX5 := hidP (HX2.out.trans (hE5.trans (Ext.alloc w5 (.cells #[.slice a1 W.length c1, .int .i64 (fr), .slice a2 W.length c2, .int .i64 (tq - fr), .slice a3 W.length c3, .int .i64 (L - tq)] 69))))
              have HO5 := hidP (HO.out.below ((HA2.out.trans hE5).trans (Ext.alloc w5 (.cells #[.slice a1 W.length c1, .int .i64 (fr), .slice a2 W.length c2, .int .i64 (tq - fr), .slice a3 W.length c3, .int .i64 (L - tq)] 69))))
              have HAp : Hid (∀ p q, p < m → q < 3 → Apart (hs.getD p (none, 0)).1 ([(a1, c1), (a2, c2), (a3, c3)].getD q (none, 0)).1) := by
                intro p q hp hq b o b' o' e e'
                have h1 := ((HO.out.each p hp).at_base b o e).2
                have h2 := HA2.out.size
                have h3 := hE.size
                have h4 := hz1.out
                have h5 := hz2.out
                rcases (by omega : q = 0 ∨ q = 1 ∨ q = 2) with rfl | rfl | rfl
                · have := (HI1.out.at_base b' o' e').1; omega
                · have := (HI2.out.at_base b' o' e').1; omega
                · have := (HI3.out.at_base b' o' e').1; omega
              (refine walkR_only (fun w' => Ext w2 w') rfl (by decide +kernel) rfl ?_ ?_)
              · exact fun _ h => h
              intro K hK
              go_simp
              refine hK _ _ (hE5.trans (Ext.alloc w5 (.cells #[.slice a1 W.length c1, .int .i64 (fr), .slice a2 W.length c2, .int .i64 (tq - fr), .slice a3 W.length c3, .int .i64 (L - tq)] 69))) ?_
              clear hK K hE5 hE hB5
              (try simp only [Act.put, List.setIfInBounds_toArray, List.set_cons_zero, List.set_cons_succ])
              (refine walkR_tail (by rfl) (by kernel_rfl) ?_; simp only [List.drop_succ_cons, List.drop_zero])
              go_wp2_with (at_builtin; refine wpList_append_elems stepK 28 (.agg #[.slice none 0 0, .int .i64 0]) 32 rfl (.tmp 66) (.tmp 89) rfl Tryz.underlying28 Tryz.info69 rfl (by omega) w1.heap.size _ _ (some ⟨g, 0, none⟩) m co hs [(a1, c1), (a2, c2), (a3, c3)] _ [(W, fr), (refl R ts i W, tq - fr), (W, L - tq)] rfl HO5.out w5.heap.size 3 3 rfl HLit.out HAp.out (by omega) (by simp) HX5.out.size ?_; intro a6 c6 w6 ho6 hg6 _; have HX6 := hidP (Below.own HX5.out hg6 HX5.out.size (fun b o e => by have := HO.out.base_lt b o e; omega) HO5.out.addr); rw [← HTK.out] at ho6; have HO6 := hidP ho6; clear ho6 hg6)
              obtain ⟨g6, rfl⟩ : ∃ g6, a6 = some ⟨g6, 0, none⟩ := by
                rcases HO6.out.form with ⟨_, h0, _⟩ | ⟨g6, _, e6, _⟩
                · omega
                · exact ⟨g6, e6⟩
              go_roundw
              case rel => exact ⟨k + 1, g6, m + 3, c6, _, by omega, by omega, rfl, by go_num, HO6, HX6⟩
              case measure => simp [intOf]; omega
            · have hfl := hfrA hkA
              have HTK : Hid (turnTo (refl R ts i) xs A fr Bq tq (k + 1) = turnTo (refl R ts i) xs A fr Bq tq k ++ [(W, fr), (refl R ts i W, L - fr), (W, 0)]) := by
                show _ = _
                rw [hTS.out]
                unfold turnK
                rw [if_neg (by omega), HW.out, HL.out]
                rw [if_pos hkA, if_neg hkB, Int.sub_self]
              have hge : (A : Int) ≤ (k : Int) := by omega
              have hng : ¬ ((k : Int) < (A : Int)) := by omega
              have hnb : ¬ ((Bq : Int) < (k : Int)) := by omega
              have hA : ((k : Int) == (A : Int)) = true := by simp [hkA]
              have hBq : ((k : Int) == (Bq : Int)) = false := by simp; omega
              have hwr1 : IntKind.i64.wrap (L - fr) = L - fr := wrap_in (by omega) (by omega)
              have hwr2 : IntKind.i64.wrap L = L := wrap_in (by omega) (by omega)
              have hlb : (k : Int) < (Bq : Int) := by omega
              have HkA := hidP hkA
              have HkB := hidP hkB
              clear hTS hfrA htoB hkA hkB
              go_wp2
              rw [← hw2]
              clear hw2 q1 q2 s1 s2
              (refine walkR_start (fun w' => Ext w2 w') 24 (by kernel_rfl) ?_; simp only [numbered, List.take_succ_cons, List.take_zero, Nat.zero_add, Nat.reduceAdd, List.length_cons, List.length_nil])
              (repeat (first | (refine walkR_still (v := ?_) rfl (by decide +kernel) rfl (fun _ _ _ h => h) hE ?_ ?_; rotate_left; (focus (intro w' hw'; obtain ⟨s1, s2⟩ := HS.out w' hw'; go_simp; all_goals (with_reducible rfl))); simp only [Act.put, List.setIfInBounds_toArray, List.set_cons_zero, List.set_cons_succ]) | (refine walkR_skip rfl (by decide +kernel) rfl (fun _ _ _ h => h) hE ?_; simp only [Act.put, List.setIfInBounds_toArray, List.set_cons_zero, List.set_cons_succ])))
              (refine walkR_later ?_; simp only [List.cons_append, List.nil_append])
              (repeat (first | (refine walkR_still (v := ?_) rfl (by decide +kernel) rfl (fun _ _ _ h => h) hE ?_ ?_; rotate_left; (focus (intro w' hw'; skip; go_simp; all_goals (with_reducible rfl))); simp only [Act.put, List.setIfInBounds_toArray, List.set_cons_zero, List.set_cons_succ]) | (refine walkR_skip rfl (by decide +kernel) rfl (fun _ _ _ h => h) hE ?_; simp only [Act.put, List.setIfInBounds_toArray, List.set_cons_zero, List.set_cons_succ])))
              (refine walkR_later ?_; simp only [List.cons_append, List.nil_append])
              (repeat (first | (refine walkR_still (v := ?_) rfl (by decide +kernel) rfl (fun _ _ _ h => h) hE ?_ ?_; rotate_left; (focus (intro w' hw'; obtain ⟨s1, s2⟩ := HS.out w' hw'; obtain ⟨f0, f1⟩ := HC.out w' (HX2.out.trans hw'); go_simp; all_goals (with_reducible rfl))); simp only [Act.put, List.setIfInBounds_toArray, List.set_cons_zero, List.set_cons_succ]) | (refine walkR_skip rfl (by decide +kernel) rfl (fun _ _ _ h => h) hE ?_; simp only [Act.put, List.setIfInBounds_toArray, List.set_cons_zero, List.set_cons_succ])))
              (refine walkR_later ?_; simp only [List.cons_append, List.nil_append])
              (repeat (first | (refine walkR_still (v := ?_) rfl (by decide +kernel) rfl (fun _ _ _ h => h) hE ?_ ?_; rotate_left; (focus (intro w' hw'; skip; go_simp; all_goals (with_reducible rfl))); simp only [Act.put, List.setIfInBounds_toArray, List.set_cons_zero, List.set_cons_succ]) | (refine walkR_skip rfl (by decide +kernel) rfl (fun _ _ _ h => h) hE ?_; simp only [Act.put, List.setIfInBounds_toArray, List.set_cons_zero, List.set_cons_succ])))
              (refine walkR_later ?_; simp only [List.cons_append, List.nil_append])
              (repeat (first | (refine walkR_still (v := ?_) rfl (by decide +kernel) rfl (fun _ _ _ h => h) hE ?_ ?_; rotate_left; (focus (intro w' hw'; obtain ⟨s1, s2⟩ := HS.out w' hw'; go_simp; all_goals (with_reducible rfl))); simp only [Act.put, List.setIfInBounds_toArray, List.set_cons_zero, List.set_cons_succ]) | (refine walkR_skip rfl (by decide +kernel) rfl (fun _ _ _ h => h) hE ?_; simp only [Act.put, List.setIfInBounds_toArray, List.set_cons_zero, List.set_cons_succ])))
              (refine walkR_later ?_; simp only [List.cons_append, List.nil_append])
              (repeat (first | (refine walkR_still (v := ?_) rfl (by decide +kernel) rfl (fun _ _ _ h => h) hE ?_ ?_; rotate_left; (focus (intro w' hw'; obtain ⟨s1, s2⟩ := HS.out w' hw'; go_simp; all_goals (with_reducible rfl))); simp only [Act.put, List.setIfInBounds_toArray, List.set_cons_zero, List.set_cons_succ]) | (refine walkR_skip rfl (by decide +kernel) rfl (fun _ _ _ h => h) hE ?_; simp only [Act.put, List.setIfInBounds_toArray, List.set_cons_zero, List.set_cons_succ])))
              (refine walkR_later ?_; simp only [List.cons_append, List.nil_append]); (refine walkR_later ?_; simp only [List.cons_append, List.nil_append])
              (refine walkR_only (fun w' => Ext w2 w') rfl (by decide +kernel) rfl (fun _ h => h) ?_; intro K hK; go_simp; refine (HCl.out _ hE).mono ?_; rintro e w3 ⟨a1, c1, rfl, ho1, hx1⟩; refine hK _ _ (hE.trans hx1) ?_; clear hK K; (try simp only [Act.put, List.setIfInBounds_toArray, List.set_cons_zero, List.set_cons_succ]))
              have hE3 := hE.trans hx1
              have HI1 := hidP ho1
              have hz1 := hidP (hidP hx1.size).out
              clear ho1 hx1
              (repeat (first | (refine walkR_still (v := ?_) rfl (by decide +kernel) rfl (fun _ _ _ h => h) hE3 ?_ ?_; rotate_left; (focus (intro w' hw'; skip; go_simp; all_goals (with_reducible rfl))); simp only [Act.put, List.setIfInBounds_toArray, List.set_cons_zero, List.set_cons_succ]) | (refine walkR_skip rfl (by decide +kernel) rfl (fun _ _ _ h => h) hE3 ?_; simp only [Act.put, List.setIfInBounds_toArray, List.set_cons_zero, List.set_cons_succ])))
              (refine walkR_only (fun w' => Ext w2 w') rfl (by decide +kernel) rfl (fun _ h => h) ?_; intro K hK; go_simp; refine (HRf.out _ hE3).mono ?_; rintro e w4 ⟨a2, c2, rfl, ho2, hx2⟩; refine hK _ _ (hE3.trans hx2) ?_; clear hK K; (try simp only [Act.put, List.setIfInBounds_toArray, List.set_cons_zero, List.set_cons_succ]))
              have hE4 := hE3.trans hx2
              have HI2 := hidP ho2
              have HI12 := hidP (HI1.out.below hx2)
              have hz2 := hidP (hidP hx2.size).out
              clear ho2 hx2 hE3
              (repeat (first | (refine walkR_still (v := ?_) rfl (by decide +kernel) rfl (fun _ _ _ h => h) hE4 ?_ ?_; rotate_left; (focus (intro w' hw'; skip; go_simp; all_goals (with_reducible rfl))); simp only [Act.put, List.setIfInBounds_toArray, List.set_cons_zero, List.set_cons_succ]) | (refine walkR_skip rfl (by decide +kernel) rfl (fun _ _ _ h => h) hE4 ?_; simp only [Act.put, List.setIfInBounds_toArray, List.set_cons_zero, List.set_cons_succ])))
              (refine walkR_only (fun w' => Ext w2 w') rfl (by decide +kernel) rfl (fun _ h => h) ?_; intro K hK; go_simp; refine (HCl.out _ hE4).mono ?_; rintro e w5 ⟨a3, c3, rfl, ho3, hx3⟩; refine hK _ _ (hE4.trans hx3) ?_; clear hK K; (try simp only [Act.put, List.setIfInBounds_toArray, List.set_cons_zero, List.set_cons_succ]))
              have hE5 := hE4.trans hx3
              have HI3 := hidP ho3
              have HI23 := hidP (HI2.out.below hx3)
              have HI13 := hidP (HI12.out.below hx3)
              clear ho3 hx3 hE4
              (repeat (first | (refine walkR_still (v := ?_) rfl (by decide +kernel) rfl (fun _ _ _ h => h) hE5 ?_ ?_; rotate_left; (focus (intro w' hw'; skip; go_simp; all_goals (with_reducible rfl))); simp only [Act.put, List.setIfInBounds_toArray, List.set_cons_zero, List.set_cons_succ]) | (refine walkR_skip rfl (by decide +kernel) rfl (fun _ _ _ h => h) hE5 ?_; simp only [Act.put, List.setIfInBounds_toArray, List.set_cons_zero, List.set_cons_succ])))
              have HRl : Hid ((refl R ts i W).length = R) := refl_length _ _ _ _
              have HEl : Hid (ElemK stepK w5 w1.heap.size w5.heap.size [((a1, c1), (W, fr)), ((a2, c2), (refl R ts i W, L - fr)), ((a3, c3), (W, 0))]) := by
                have hb1 := fun b o e => HI1.out.at_base b o e
                have hb2 := fun b o e => HI2.out.at_base b o e
                have hb3 := fun b o e => HI3.out.at_base b o e
                have hs2 := hE.size
                have hs0 := HX2.out.size
                have hl13 := fun b o e => HI13.out.at_base b o e
                have hl23 := fun b o e => HI23.out.at_base b o e
                refine ⟨fun z hz => ?_, ?_, fun z hz b o e => ?_⟩
                · simp only [List.mem_cons, List.not_mem_nil, or_false] at hz
                  rcases hz with rfl | rfl | rfl
                  · exact HI13.out.base (Nat.le_trans hs0 hs2)
                  · have h1 : OwnI w5 w1.heap.size a2 W.length c2 (refl R ts i W) := HI23.out.base (by have := hz1.out; omega)
                    show OwnI w5 w1.heap.size a2 (refl R ts i W).length c2 (refl R ts i W)
                    rw [show (refl R ts i W).length = W.length by rw [HRl.out, HWy.out.1]]
                    exact h1
                  · exact HI3.out.base (by have := hz1.out; have := hz2.out; omega)
                · refine .cons (fun z hz => ?_) (.cons (fun z hz => ?_) (.cons (fun z hz => by cases hz) .nil))
                  · simp only [List.mem_cons, List.not_mem_nil, or_false] at hz
                    rcases hz with rfl | rfl
                    · intro b o b' o' e e'
                      have := hb1 b o e
                      have := hb2 b' o' e'
                      omega
                    · intro b o b' o' e e'
                      have := hb1 b o e
                      have := hb3 b' o' e'
                      have := hz2.out
                      omega
                  · simp only [List.mem_cons, List.not_mem_nil, or_false] at hz
                    rcases hz with rfl
                    intro b o b' o' e e'
                    have := hb2 b o e
                    have := hb3 b' o' e'
                    omega
                · simp only [List.mem_cons, List.not_mem_nil, or_false] at hz
                  rcases hz with rfl | rfl | rfl
                  · exact (hl13 b o e).2
                  · exact (hl23 b o e).2
                  · exact (hb3 b o e).2
              have hB5 : w1.heap.size ≤ w5.heap.size := (HX2.out.trans hE5).size
              have HLit : Hid (OwnK stepK (w5.alloc (.cells #[.slice a1 W.length c1, .int .i64 (fr), .slice a2 W.length c2, .int .i64 (L - fr), .slice a3 W.length c3, .int .i64 (0)] 69)) w1.heap.size (w5.heap.size + 1) (some ⟨w5.heap.size, 0, none⟩) 3 3 [(a1, c1), (a2, c2), (a3, c3)] [(W, fr), (refl R ts i W, L - fr), (W, 0)]) := by
                have h1 := HEl.out.lit hB5 (by unfold maxLen; simp)
                have e1 : (stepK.all ([((a1, c1), (W, fr)), ((a2, c2), (refl R ts i W, L - fr)), ((a3, c3), (W, 0))].map (·.1)) ([((a1, c1), (W, fr)), ((a2, c2), (refl R ts i W, L - fr)), ((a3, c3), (W, 0))].map (·.2))).toArray = #[Value.slice a1 W.length c1, .int .i64 (fr), .slice a2 W.length c2, .int .i64 (L - fr), .slice a3 W.length c3, .int .i64 (0)] := by
                  have e2 : (refl R ts i W).length = W.length := by rw [HRl.out, HWy.out.1]
                  simp only [List.map_cons, List.map_nil, Knd.all, stepK, e2]
                  rfl
                rw [e1] at h1
                exact h1
              have HX5 := hidP (HX2.out.trans (hE5.trans (Ext.alloc w5 (.cells #[.slice a1 W.length c1, .int .i64 (fr), .slice a2 W.length c2, .int .i64 (L - fr), .slice a3 W.length c3, .int .i64 (0)] 69))))
              have HO5 := hidP (HO.out.below ((HA2.out.trans hE5).trans (Ext.alloc w5 (.cells #[.slice a1 W.length c1, .int .i64 (fr), .slice a2 W.length c2, .int .i64 (L - fr), .slice a3 W.length c3, .int .i64 (0)] 69))))
              have HAp : Hid (∀ p q, p < m → q < 3 → Apart (hs.getD p (none, 0)).1 ([(a1, c1), (a2, c2), (a3, c3)].getD q (none, 0)).1) := by
                intro p q hp hq b o b' o' e e'
                have h1 := ((HO.out.each p hp).at_base b o e).2
                have h2 := HA2.out.size
                have h3 := hE.size
                have h4 := hz1.out
                have h5 := hz2.out
                rcases (by omega : q = 0 ∨ q = 1 ∨ q = 2) with rfl | rfl | rfl
                · have := (HI1.out.at_base b' o' e').1; omega
                · have := (HI2.out.at_base b' o' e').1; omega
                · have := (HI3.out.at_base b' o' e').1; omega
              (refine walkR_only (fun w' => Ext w2 w') rfl (by decide +kernel) rfl ?_ ?_)
              · exact fun _ h => h
              intro K hK
              go_simp
              refine hK _ _ (hE5.trans (Ext.alloc w5 (.cells #[.slice a1 W.length c1, .int .i64 (fr), .slice a2 W.length c2, .int .i64 (L - fr), .slice a3 W.length c3, .int .i64 (0)] 69))) ?_
              clear hK K hE5 hE hB5
              (try simp only [Act.put, List.setIfInBounds_toArray, List.set_cons_zero, List.set_cons_succ])
              (refine walkR_tail (by rfl) (by kernel_rfl) ?_; simp only [List.drop_succ_cons, List.drop_zero])
              go_wp2_with (at_builtin; refine wpList_append_elems stepK 28 (.agg #[.slice none 0 0, .int .i64 0]) 32 rfl (.tmp 66) (.tmp 89) rfl Tryz.underlying28 Tryz.info69 rfl (by omega) w1.heap.size _ _ (some ⟨g, 0, none⟩) m co hs [(a1, c1), (a2, c2), (a3, c3)] _ [(W, fr), (refl R ts i W, L - fr), (W, 0)] rfl HO5.out w5.heap.size 3 3 rfl HLit.out HAp.out (by omega) (by simp) HX5.out.size ?_; intro a6 c6 w6 ho6 hg6 _; have HX6 := hidP (Below.own HX5.out hg6 HX5.out.size (fun b o e => by have := HO.out.base_lt b o e; omega) HO5.out.addr); rw [← HTK.out] at ho6; have HO6 := hidP ho6; clear ho6 hg6)
              obtain ⟨g6, rfl⟩ : ∃ g6, a6 = some ⟨g6, 0, none⟩ := by
                rcases HO6.out.form with ⟨_, h0, _⟩ | ⟨g6, _, e6, _⟩
                · omega
                · exact ⟨g6, e6⟩
              go_roundw
              case rel => exact ⟨k + 1, g6, m + 3, c6, _, by omega, by omega, rfl, by go_num, HO6, HX6⟩
              case measure => simp [intOf]; omega
          · by_cases hkB : k = Bq
            · have htl := htoB hkB
              have HTK : Hid (turnTo (refl R ts i) xs A fr Bq tq (k + 1) = turnTo (refl R ts i) xs A fr Bq tq k ++ [(W, 0), (refl R ts i W, tq), (W, L - tq)]) := by
                show _ = _
                rw [hTS.out]
                unfold turnK
                rw [if_neg (by omega), HW.out, HL.out]
                rw [if_neg hkA, if_pos hkB, Int.sub_zero]
              have hge : (A : Int) ≤ (k : Int) := by omega
              have hng : ¬ ((k : Int) < (A : Int)) := by omega
              have hnb : ¬ ((Bq : Int) < (k : Int)) := by omega
              have hA : ((k : Int) == (A : Int)) = false := by simp; omega
              have hBq : ((k : Int) == (Bq : Int)) = true := by simp [hkB]
              have hwr1 : IntKind.i64.wrap (tq) = tq := wrap_in (by omega) (by omega)
              have hwr2 : IntKind.i64.wrap (L - tq) = L - tq := wrap_in (by omega) (by omega)
              have hlb : ¬ ((k : Int) < (Bq : Int)) := by omega
              have HkA := hidP hkA
              have HkB := hidP hkB
              clear hTS hfrA htoB hkA hkB
              go_wp2
              rw [← hw2]
              clear hw2 q1 q2 s1 s2
              (refine walkR_start (fun w' => Ext w2 w') 24 (by kernel_rfl) ?_; simp only [numbered, List.take_succ_cons, List.take_zero, Nat.zero_add, Nat.reduceAdd, List.length_cons, List.length_nil])
              (repeat (first | (refine walkR_still (v := ?_) rfl (by decide +kernel) rfl (fun _ _ _ h => h) hE ?_ ?_; rotate_left; (focus (intro w' hw'; obtain ⟨s1, s2⟩ := HS.out w' hw'; go_simp; all_goals (with_reducible rfl))); simp only [Act.put, List.setIfInBounds_toArray, List.set_cons_zero, List.set_cons_succ]) | (refine walkR_skip rfl (by decide +kernel) rfl (fun _ _ _ h => h) hE ?_; simp only [Act.put, List.setIfInBounds_toArray, List.set_cons_zero, List.set_cons_succ])))
              (refine walkR_later ?_; simp only [List.cons_append, List.nil_append])
              (repeat (first | (refine walkR_still (v := ?_) rfl (by decide +kernel) rfl (fun _ _ _ h => h) hE ?_ ?_; rotate_left; (focus (intro w' hw'; skip; go_simp; all_goals (with_reducible rfl))); simp only [Act.put, List.setIfInBounds_toArray, List.set_cons_zero, List.set_cons_succ]) | (refine walkR_skip rfl (by decide +kernel) rfl (fun _ _ _ h => h) hE ?_; simp only [Act.put, List.setIfInBounds_toArray, List.set_cons_zero, List.set_cons_succ])))
              (refine walkR_later ?_; simp only [List.cons_append, List.nil_append])
              (repeat (first | (refine walkR_still (v := ?_) rfl (by decide +kernel) rfl (fun _ _ _ h => h) hE ?_ ?_; rotate_left; (focus (intro w' hw'; obtain ⟨s1, s2⟩ := HS.out w' hw'; obtain ⟨f0, f1⟩ := HC.out w' (HX2.out.trans hw'); go_simp; all_goals (with_reducible rfl))); simp only [Act.put, List.setIfInBounds_toArray, List.set_cons_zero, List.set_cons_succ]) | (refine walkR_skip rfl (by decide +kernel) rfl (fun _ _ _ h => h) hE ?_; simp only [Act.put, List.setIfInBounds_toArray, List.set_cons_zero, List.set_cons_succ])))
              (refine walkR_later ?_; simp only [List.cons_append, List.nil_append])
              (repeat (first | (refine walkR_still (v := ?_) rfl (by decide +kernel) rfl (fun _ _ _ h => h) hE ?_ ?_; rotate_left; (focus (intro w' hw'; skip; go_simp; all_goals (with_reducible rfl))); simp only [Act.put, List.setIfInBounds_toArray, List.set_cons_zero, List.set_cons_succ]) | (refine walkR_skip rfl (by decide +kernel) rfl (fun _ _ _ h => h) hE ?_; simp only [Act.put, List.setIfInBounds_toArray, List.set_cons_zero, List.set_cons_succ])))
              (refine walkR_later ?_; simp only [List.cons_append, List.nil_append])
              (repeat (first | (refine walkR_still (v := ?_) rfl (by decide +kernel) rfl (fun _ _ _ h => h) hE ?_ ?_; rotate_left; (focus (intro w' hw'; obtain ⟨s1, s2⟩ := HS.out w' hw'; go_simp; all_goals (with_reducible rfl))); simp only [Act.put, List.setIfInBounds_toArray, List.set_cons_zero, List.set_cons_succ]) | (refine walkR_skip rfl (by decide +kernel) rfl (fun _ _ _ h => h) hE ?_; simp only [Act.put, List.setIfInBounds_toArray, List.set_cons_zero, List.set_cons_succ])))
              (refine walkR_later ?_; simp only [List.cons_append, List.nil_append])
              (repeat (first | (refine walkR_still (v := ?_) rfl (by decide +kernel) rfl (fun _ _ _ h => h) hE ?_ ?_; rotate_left; (focus (intro w' hw'; obtain ⟨s1, s2⟩ := HS.out w' hw'; go_simp; all_goals (with_reducible rfl))); simp only [Act.put, List.setIfInBounds_toArray, List.set_cons_zero, List.set_cons_succ]) | (refine walkR_skip rfl (by decide +kernel) rfl (fun _ _ _ h => h) hE ?_; simp only [Act.put, List.setIfInBounds_toArray, List.set_cons_zero, List.set_cons_succ])))
              (refine walkR_later ?_; simp only [List.cons_append, List.nil_append]); (refine walkR_later ?_; simp only [List.cons_append, List.nil_append])
              (refine walkR_only (fun w' => Ext w2 w') rfl (by decide +kernel) rfl (fun _ h => h) ?_; intro K hK; go_simp; refine (HCl.out _ hE).mono ?_; rintro e w3 ⟨a1, c1, rfl, ho1, hx1⟩; refine hK _ _ (hE.trans hx1) ?_; clear hK K; (try simp only [Act.put, List.setIfInBounds_toArray, List.set_cons_zero, List.set_cons_succ]))
              have hE3 := hE.trans hx1
              have HI1 := hidP ho1
              have hz1 := hidP (hidP hx1.size).out
              clear ho1 hx1
              (repeat (first | (refine walkR_still (v := ?_) rfl (by decide +kernel) rfl (fun _ _ _ h => h) hE3 ?_ ?_; rotate_left; (focus (intro w' hw'; skip; go_simp; all_goals (with_reducible rfl))); simp only [Act.put, List.setIfInBounds_toArray, List.set_cons_zero, List.set_cons_succ]) | (refine walkR_skip rfl (by decide +kernel) rfl (fun _ _ _ h => h) hE3 ?_; simp only [Act.put, List.setIfInBounds_toArray, List.set_cons_zero, List.set_cons_succ])))
              (refine walkR_only (fun w' => Ext w2 w') rfl (by decide +kernel) rfl (fun _ h => h) ?_; intro K hK; go_simp; refine (HRf.out _ hE3).mono ?_; rintro e w4 ⟨a2, c2, rfl, ho2, hx2⟩; refine hK _ _ (hE3.trans hx2) ?_; clear hK K; (try simp only [Act.put, List.setIfInBounds_toArray, List.set_cons_zero, List.set_cons_succ]))
              have hE4 := hE3.trans hx2
              have HI2 := hidP ho2
              have HI12 := hidP (HI1.out.below hx2)
              have hz2 := hidP (hidP hx2.size).out
              clear ho2 hx2 hE3
              (repeat (first | (refine walkR_still (v := ?_) rfl (by decide +kernel) rfl (fun _ _ _ h => h) hE4 ?_ ?_; rotate_left; (focus (intro w' hw'; skip; go_simp; all_goals (with_reducible rfl))); simp only [Act.put, List.setIfInBounds_toArray, List.set_cons_zero, List.set_cons_succ]) | (refine walkR_skip rfl (by decide +kernel) rfl (fun _ _ _ h => h) hE4 ?_; simp only [Act.put, List.setIfInBounds_toArray, List.set_cons_zero, List.set_cons_succ])))
              (refine walkR_only (fun w' => Ext w2 w') rfl (by decide +kernel) rfl (fun _ h => h) ?_; intro K hK; go_simp; refine (HCl.out _ hE4).mono ?_; rintro e w5 ⟨a3, c3, rfl, ho3, hx3⟩; refine hK _ _ (hE4.trans hx3) ?_; clear hK K; (try simp only [Act.put, List.setIfInBounds_toArray, List.set_cons_zero, List.set_cons_succ]))
              have hE5 := hE4.trans hx3
              have HI3 := hidP ho3
              have HI23 := hidP (HI2.out.below hx3)
              have HI13 := hidP (HI12.out.below hx3)
              clear ho3 hx3 hE4
              (repeat (first | (refine walkR_still (v := ?_) rfl (by decide +kernel) rfl (fun _ _ _ h => h) hE5 ?_ ?_; rotate_left; (focus (intro w' hw'; skip; go_simp; all_goals (with_reducible rfl))); simp only [Act.put, List.setIfInBounds_toArray, List.set_cons_zero, List.set_cons_succ]) | (refine walkR_skip rfl (by decide +kernel) rfl (fun _ _ _ h => h) hE5 ?_; simp only [Act.put, List.setIfInBounds_toArray, List.set_cons_zero, List.set_cons_succ])))
              have HRl : Hid ((refl R ts i W).length = R) := refl_length _ _ _ _
              have HEl : Hid (ElemK stepK w5 w1.heap.size w5.heap.size [((a1, c1), (W, 0)), ((a2, c2), (refl R ts i W, tq)), ((a3, c3), (W, L - tq))]) := by
                have hb1 := fun b o e => HI1.out.at_base b o e
                have hb2 := fun b o e => HI2.out.at_base b o e
                have hb3 := fun b o e => HI3.out.at_base b o e
                have hs2 := hE.size
                have hs0 := HX2.out.size
                have hl13 := fun b o e => HI13.out.at_base b o e
                have hl23 := fun b o e => HI23.out.at_base b o e
                refine ⟨fun z hz => ?_, ?_, fun z hz b o e => ?_⟩
                · simp only [List.mem_cons, List.not_mem_nil, or_false] at hz
                  rcases hz with rfl | rfl | rfl
                  · exact HI13.out.base (Nat.le_trans hs0 hs2)
                  · have h1 : OwnI w5 w1.heap.size a2 W.length c2 (refl R ts i W) := HI23.out.base (by have := hz1.out; omega)
                    show OwnI w5 w1.heap.size a2 (refl R ts i W).length c2 (refl R ts i W)
                    rw [show (refl R ts i W).length = W.length by rw [HRl.out, HWy.out.1]]
                    exact h1
                  · exact HI3.out.base (by have := hz1.out; have := hz2.out; omega)
                · refine .cons (fun z hz => ?_) (.cons (fun z hz => ?_) (.cons (fun z hz => by cases hz) .nil))
                  · simp only [List.mem_cons, List.not_mem_nil, or_false] at hz
                    rcases hz with rfl | rfl
                    · intro b o b' o' e e'
                      have := hb1 b o e
                      have := hb2 b' o' e'
                      omega
                    · intro b o b' o' e e'
                      have := hb1 b o e
                      have := hb3 b' o' e'
                      have := hz2.out
                      omega
                  · simp only [List.mem_cons, List.not_mem_nil, or_false] at hz
                    rcases hz with rfl
                    intro b o b' o' e e'
                    have := hb2 b o e
                    have := hb3 b' o' e'
                    omega
                · simp only [List.mem_cons, List.not_mem_nil, or_false] at hz
                  rcases hz with rfl | rfl | rfl
                  · exact (hl13 b o e).2
                  · exact (hl23 b o e).2
                  · exact (hb3 b o e).2
              have hB5 : w1.heap.size ≤ w5.heap.size := (HX2.out.trans hE5).size
              have HLit : Hid (OwnK stepK (w5.alloc (.cells #[.slice a1 W.length c1, .int .i64 (0), .slice a2 W.length c2, .int .i64 (tq), .slice a3 W.length c3, .int .i64 (L - tq)] 69)) w1.heap.size (w5.heap.size + 1) (some ⟨w5.heap.size, 0, none⟩) 3 3 [(a1, c1), (a2, c2), (a3, c3)] [(W, 0), (refl R ts i W, tq), (W, L - tq)]) := by
                have h1 := HEl.out.lit hB5 (by unfold maxLen; simp)
                have e1 : (stepK.all ([((a1, c1), (W, 0)), ((a2, c2), (refl R ts i W, tq)), ((a3, c3), (W, L - tq))].map (·.1)) ([((a1, c1), (W, 0)), ((a2, c2), (refl R ts i W, tq)), ((a3, c3), (W, L - tq))].map (·.2))).toArray = #[Value.slice a1 W.length c1, .int .i64 (0), .slice a2 W.length c2, .int .i64 (tq), .slice a3 W.length c3, .int .i64 (L - tq)] := by
                  have e2 : (refl R ts i W).length = W.length := by rw [HRl.out, HWy.out.1]
                  simp only [List.map_cons, List.map_nil, Knd.all, stepK, e2]
                  rfl
                rw [e1] at h1
                exact h1
              have HX5 := hidP (HX2.out.trans (hE5.trans (Ext.alloc w5 (.cells #[.slice a1 W.length c1, .int .i64 (0), .slice a2 W.length c2, .int .i64 (tq), .slice a3 W.length c3, .int .i64 (L - tq)] 69))))
              have HO5 := hidP (HO.out.below ((HA2.out.trans hE5).trans (Ext.alloc w5 (.cells #[.slice a1 W.length c1, .int .i64 (0), .slice a2 W.length c2, .int .i64 (tq), .slice a3 W.length c3, .int .i64 (L - tq)] 69))))
              have HAp : Hid (∀ p q, p < m → q < 3 → Apart (hs.getD p (none, 0)).1 ([(a1, c1), (a2, c2), (a3, c3)].getD q (none, 0)).1) := by
                intro p q hp hq b o b' o' e e'
                have h1 := ((HO.out.each p hp).at_base b o e).2
                have h2 := HA2.out.size
                have h3 := hE.size
                have h4 := hz1.out
                have h5 := hz2.out
                rcases (by omega : q = 0 ∨ q = 1 ∨ q = 2) with rfl | rfl | rfl
                · have := (HI1.out.at_base b' o' e').1; omega
                · have := (HI2.out.at_base b' o' e').1; omega
                · have := (HI3.out.at_base b' o' e').1; omega
              (refine walkR_only (fun w' => Ext w2 w') rfl (by decide +kernel) rfl ?_ ?_)
              · exact fun _ h => h
              intro K hK
              go_simp
              refine hK _ _ (hE5.trans (Ext.alloc w5 (.cells #[.slice a1 W.length c1, .int .i64 (0), .slice a2 W.length c2, .int .i64 (tq), .slice a3 W.length c3, .int .i64 (L - tq)] 69))) ?_
              clear hK K hE5 hE hB5
              (try simp only [Act.put, List.setIfInBounds_toArray, List.set_cons_zero, List.set_cons_succ])
              (refine walkR_tail (by rfl) (by kernel_rfl) ?_; simp only [List.drop_succ_cons, List.drop_zero])
              go_wp2_with (at_builtin; refine wpList_append_elems stepK 28 (.agg #[.slice none 0 0, .int .i64 0]) 32 rfl (.tmp 66) (.tmp 89) rfl Tryz.underlying28 Tryz.info69 rfl (by omega) w1.heap.size _ _ (some ⟨g, 0, none⟩) m co hs [(a1, c1), (a2, c2), (a3, c3)] _ [(W, 0), (refl R ts i W, tq), (W, L - tq)] rfl HO5.out w5.heap.size 3 3 rfl HLit.out HAp.out (by omega) (by simp) HX5.out.size ?_; intro a6 c6 w6 ho6 hg6 _; have HX6 := hidP (Below.own HX5.out hg6 HX5.out.size (fun b o e => by have := HO.out.base_lt b o e; omega) HO5.out.addr); rw [← HTK.out] at ho6; have HO6 := hidP ho6; clear ho6 hg6)
              obtain ⟨g6, rfl⟩ : ∃ g6, a6 = some ⟨g6, 0, none⟩ := by
                rcases HO6.out.form with ⟨_, h0, _⟩ | ⟨g6, _, e6, _⟩
                · omega
                · exact ⟨g6, e6⟩
              go_roundw
              case rel => exact ⟨k + 1, g6, m + 3, c6, _, by omega, by omega, rfl, by go_num, HO6, HX6⟩
              case measure => simp [intOf]; omega
            · skip
              have HTK : Hid (turnTo (refl R ts i) xs A fr Bq tq (k + 1) = turnTo (refl R ts i) xs A fr Bq tq k ++ [(W, 0), (refl R ts i W, L), (W, 0)]) := by
                show _ = _
                rw [hTS.out]
                unfold turnK
                rw [if_neg (by omega), HW.out, HL.out]
                rw [if_neg hkA, if_neg hkB, Int.sub_zero, Int.sub_self]
              have hge : (A : Int) ≤ (k : Int) := by omega
              have hng : ¬ ((k : Int) < (A : Int)) := by omega
              have hnb : ¬ ((Bq : Int) < (k : Int)) := by omega
              have hA : ((k : Int) == (A : Int)) = false := by simp; omega
              have hBq : ((k : Int) == (Bq : Int)) = false := by simp; omega
              have hwr1 : IntKind.i64.wrap (L) = L := wrap_in (by omega) (by omega)
              have hlb : (k : Int) < (Bq : Int) := by omega
              have HkA := hidP hkA
              have HkB := hidP hkB
              clear hTS hfrA htoB hkA hkB
              go_wp2
              rw [← hw2]
              clear hw2 q1 q2 s1 s2
              (refine walkR_start (fun w' => Ext w2 w') 24 (by kernel_rfl) ?_; simp only [numbered, List.take_succ_cons, List.take_zero, Nat.zero_add, Nat.reduceAdd, List.length_cons, List.length_nil])
              (repeat (first | (refine walkR_still (v := ?_) rfl (by decide +kernel) rfl (fun _ _ _ h => h) hE ?_ ?_; rotate_left; (focus (intro w' hw'; obtain ⟨s1, s2⟩ := HS.out w' hw'; go_simp; all_goals (with_reducible rfl))); simp only [Act.put, List.setIfInBounds_toArray, List.set_cons_zero, List.set_cons_succ]) | (refine walkR_skip rfl (by decide +kernel) rfl (fun _ _ _ h => h) hE ?_; simp only [Act.put, List.setIfInBounds_toArray, List.set_cons_zero, List.set_cons_succ])))
              (refine walkR_later ?_; simp only [List.cons_append, List.nil_append])
              (repeat (first | (refine walkR_still (v := ?_) rfl (by decide +kernel) rfl (fun _ _ _ h => h) hE ?_ ?_; rotate_left; (focus (intro w' hw'; skip; go_simp; all_goals (with_reducible rfl))); simp only [Act.put, List.setIfInBounds_toArray, List.set_cons_zero, List.set_cons_succ]) | (refine walkR_skip rfl (by decide +kernel) rfl (fun _ _ _ h => h) hE ?_; simp only [Act.put, List.setIfInBounds_toArray, List.set_cons_zero, List.set_cons_succ])))
              (refine walkR_later ?_; simp only [List.cons_append, List.nil_append])
              (repeat (first | (refine walkR_still (v := ?_) rfl (by decide +kernel) rfl (fun _ _ _ h => h) hE ?_ ?_; rotate_left; (focus (intro w' hw'; obtain ⟨s1, s2⟩ := HS.out w' hw'; obtain ⟨f0, f1⟩ := HC.out w' (HX2.out.trans hw'); go_simp; all_goals (with_reducible rfl))); simp only [Act.put, List.setIfInBounds_toArray, List.set_cons_zero, List.set_cons_succ]) | (refine walkR_skip rfl (by decide +kernel) rfl (fun _ _ _ h => h) hE ?_; simp only [Act.put, List.setIfInBounds_toArray, List.set_cons_zero, List.set_cons_succ])))
              (refine walkR_later ?_; simp only [List.cons_append, List.nil_append])
              (repeat (first | (refine walkR_still (v := ?_) rfl (by decide +kernel) rfl (fun _ _ _ h => h) hE ?_ ?_; rotate_left; (focus (intro w' hw'; skip; go_simp; all_goals (with_reducible rfl))); simp only [Act.put, List.setIfInBounds_toArray, List.set_cons_zero, List.set_cons_succ]) | (refine walkR_skip rfl (by decide +kernel) rfl (fun _ _ _ h => h) hE ?_; simp only [Act.put, List.setIfInBounds_toArray, List.set_cons_zero, List.set_cons_succ])))
              (refine walkR_later ?_; simp only [List.cons_append, List.nil_append])
              (repeat (first | (refine walkR_still (v := ?_) rfl (by decide +kernel) rfl (fun _ _ _ h => h) hE ?_ ?_; rotate_left; (focus (intro w' hw'; obtain ⟨s1, s2⟩ := HS.out w' hw'; go_simp; all_goals (with_reducible rfl))); simp only [Act.put, List.setIfInBounds_toArray, List.set_cons_zero, List.set_cons_succ]) | (refine walkR_skip rfl (by decide +kernel) rfl (fun _ _ _ h => h) hE ?_; simp only [Act.put, List.setIfInBounds_toArray, List.set_cons_zero, List.set_cons_succ])))
              (refine walkR_later ?_; simp only [List.cons_append, List.nil_append])
              (repeat (first | (refine walkR_still (v := ?_) rfl (by decide +kernel) rfl (fun _ _ _ h => h) hE ?_ ?_; rotate_left; (focus (intro w' hw'; obtain ⟨s1, s2⟩ := HS.out w' hw'; go_simp; all_goals (with_reducible rfl))); simp only [Act.put, List.setIfInBounds_toArray, List.set_cons_zero, List.set_cons_succ]) | (refine walkR_skip rfl (by decide +kernel) rfl (fun _ _ _ h => h) hE ?_; simp only [Act.put, List.setIfInBounds_toArray, List.set_cons_zero, List.set_cons_succ])))
              (refine walkR_later ?_; simp only [List.cons_append, List.nil_append]); (refine walkR_later ?_; simp only [List.cons_append, List.nil_append])
              (refine walkR_only (fun w' => Ext w2 w') rfl (by decide +kernel) rfl (fun _ h => h) ?_; intro K hK; go_simp; refine (HCl.out _ hE).mono ?_; rintro e w3 ⟨a1, c1, rfl, ho1, hx1⟩; refine hK _ _ (hE.trans hx1) ?_; clear hK K; (try simp only [Act.put, List.setIfInBounds_toArray, List.set_cons_zero, List.set_cons_succ]))
              have hE3 := hE.trans hx1
              have HI1 := hidP ho1
              have hz1 := hidP (hidP hx1.size).out
              clear ho1 hx1
              (repeat (first | (refine walkR_still (v := ?_) rfl (by decide +kernel) rfl (fun _ _ _ h => h) hE3 ?_ ?_; rotate_left; (focus (intro w' hw'; skip; go_simp; all_goals (with_reducible rfl))); simp only [Act.put, List.setIfInBounds_toArray, List.set_cons_zero, List.set_cons_succ]) | (refine walkR_skip rfl (by decide +kernel) rfl (fun _ _ _ h => h) hE3 ?_; simp only [Act.put, List.setIfInBounds_toArray, List.set_cons_zero, List.set_cons_succ])))
              (refine walkR_only (fun w' => Ext w2 w') rfl (by decide +kernel) rfl (fun _ h => h) ?_; intro K hK; go_simp; refine (HRf.out _ hE3).mono ?_; rintro e w4 ⟨a2, c2, rfl, ho2, hx2⟩; refine hK _ _ (hE3.trans hx2) ?_; clear hK K; (try simp only [Act.put, List.setIfInBounds_toArray, List.set_cons_zero, List.set_cons_succ]))
              have hE4 := hE3.trans hx2
              have HI2 := hidP ho2
              have HI12 := hidP (HI1.out.below hx2)
              have hz2 := hidP (hidP hx2.size).out
              clear ho2 hx2 hE3
              (repeat (first | (refine walkR_still (v := ?_) rfl (by decide +kernel) rfl (fun _ _ _ h => h) hE4 ?_ ?_; rotate_left; (focus (intro w' hw'; skip; go_simp; all_goals (with_reducible rfl))); simp only [Act.put, List.setIfInBounds_toArray, List.set_cons_zero, List.set_cons_succ]) | (refine walkR_skip rfl (by decide +kernel) rfl (fun _ _ _ h => h) hE4 ?_; simp only [Act.put, List.setIfInBounds_toArray, List.set_cons_zero, List.set_cons_succ])))
              (refine walkR_only (fun w' => Ext w2 w') rfl (by decide +kernel) rfl (fun _ h => h) ?_; intro K hK; go_simp; refine (HCl.out _ hE4).mono ?_; rintro e w5 ⟨a3, c3, rfl, ho3, hx3⟩; refine hK _ _ (hE4.trans hx3) ?_; clear hK K; (try simp only [Act.put, List.setIfInBounds_toArray, List.set_cons_zero, List.set_cons_succ]))
              have hE5 := hE4.trans hx3
              have HI3 := hidP ho3
              have HI23 := hidP (HI2.out.below hx3)
              have HI13 := hidP (HI12.out.below hx3)
              clear ho3 hx3 hE4
              (repeat (first | (refine walkR_still (v := ?_) rfl (by decide +kernel) rfl (fun _ _ _ h => h) hE5 ?_ ?_; rotate_left; (focus (intro w' hw'; skip; go_simp; all_goals (with_reducible rfl))); simp only [Act.put, List.setIfInBounds_toArray, List.set_cons_zero, List.set_cons_succ]) | (refine walkR_skip rfl (by decide +kernel) rfl (fun _ _ _ h => h) hE5 ?_; simp only [Act.put, List.setIfInBounds_toArray, List.set_cons_zero, List.set_cons_succ])))
              have HRl : Hid ((refl R ts i W).length = R) := refl_length _ _ _ _
              have HEl : Hid (ElemK stepK w5 w1.heap.size w5.heap.size [((a1, c1), (W, 0)), ((a2, c2), (refl R ts i W, L)), ((a3, c3), (W, 0))]) := by
                have hb1 := fun b o e => HI1.out.at_base b o e
                have hb2 := fun b o e => HI2.out.at_base b o e
                have hb3 := fun b o e => HI3.out.at_base b o e
                have hs2 := hE.size
                have hs0 := HX2.out.size
                have hl13 := fun b o e => HI13.out.at_base b o e
                have hl23 := fun b o e => HI23.out.at_base b o e
                refine ⟨fun z hz => ?_, ?_, fun z hz b o e => ?_⟩
                · simp only [List.mem_cons, List.not_mem_nil, or_false] at hz
                  rcases hz with rfl | rfl | rfl
                  · exact HI13.out.base (Nat.le_trans hs0 hs2)
                  · have h1 : OwnI w5 w1.heap.size a2 W.length c2 (refl R ts i W) := HI23.out.base (by have := hz1.out; omega)
                    show OwnI w5 w1.heap.size a2 (refl R ts i W).length c2 (refl R ts i W)
                    rw [show (refl R ts i W).length = W.length by rw [HRl.out, HWy.out.1]]
                    exact h1
                  · exact HI3.out.base (by have := hz1.out; have := hz2.out; omega)
                · refine .cons (fun z hz => ?_) (.cons (fun z hz => ?_) (.cons (fun z hz => by cases hz) .nil))
                  · simp only [List.mem_cons, List.not_mem_nil, or_false] at hz
                    rcases hz with rfl | rfl
                    · intro b o b' o' e e'
                      have := hb1 b o e
                      have := hb2 b' o' e'
                      omega
                    · intro b o b' o' e e'
                      have := hb1 b o e
                      have := hb3 b' o' e'
                      have := hz2.out
                      omega
                  · simp only [List.mem_cons, List.not_mem_nil, or_false] at hz
                    rcases hz with rfl
                    intro b o b' o' e e'
                    have := hb2 b o e
                    have := hb3 b' o' e'
                    omega
                · simp only [List.mem_cons, List.not_mem_nil, or_false] at hz
                  rcases hz with rfl | rfl | rfl
                  · exact (hl13 b o e).2
                  · exact (hl23 b o e).2
                  · exact (hb3 b o e).2
              have hB5 : w1.heap.size ≤ w5.heap.size := (HX2.out.trans hE5).size
              have HLit : Hid (OwnK stepK (w5.alloc (.cells #[.slice a1 W.length c1, .int .i64 (0), .slice a2 W.length c2, .int .i64 (L), .slice a3 W.length c3, .int .i64 (0)] 69)) w1.heap.size (w5.heap.size + 1) (some ⟨w5.heap.size, 0, none⟩) 3 3 [(a1, c1), (a2, c2), (a3, c3)] [(W, 0), (refl R ts i W, L), (W, 0)]) := by
                have h1 := HEl.out.lit hB5 (by unfold maxLen; simp)
                have e1 : (stepK.all ([((a1, c1), (W, 0)), ((a2, c2), (refl R ts i W, L)), ((a3, c3), (W, 0))].map (·.1)) ([((a1, c1), (W, 0)), ((a2, c2), (refl R ts i W, L)), ((a3, c3), (W, 0))].map (·.2))).toArray = #[Value.slice a1 W.length c1, .int .i64 (0), .slice a2 W.length c2, .int .i64 (L), .slice a3 W.length c3, .int .i64 (0)] := by
                  have e2 : (refl R ts i W).length = W.length := by rw [HRl.out, HWy.out.1]
                  simp only [List.map_cons, List.map_nil, Knd.all, stepK, e2]
                  rfl
                rw [e1] at h1
                exact h1
              have HX5 := hidP (HX2.out.trans (hE5.trans (Ext.alloc w5 (.cells #[.slice a1 W.length c1, .int .i64 (0), .slice a2 W.length c2, .int .i64 (L), .slice a3 W.length c3, .int .i64 (0)] 69))))
              have HO5 := hidP (HO.out.below ((HA2.out.trans hE5).trans (Ext.alloc w5 (.cells #[.slice a1 W.length c1, .int .i64 (0), .slice a2 W.length c2, .int .i64 (L), .slice a3 W.length c3, .int .i64 (0)] 69))))
              have HAp : Hid (∀ p q, p < m → q < 3 → Apart (hs.getD p (none, 0)).1 ([(a1, c1), (a2, c2), (a3, c3)].getD q (none, 0)).1) := by
                intro p q hp hq b o b' o' e e'
                have h1 := ((HO.out.each p hp).at_base b o e).2
                have h2 := HA2.out.size
                have h3 := hE.size
                have h4 := hz1.out
                have h5 := hz2.out
                rcases (by omega : q = 0 ∨ q = 1 ∨ q = 2) with rfl | rfl | rfl
                · have := (HI1.out.at_base b' o' e').1; omega
                · have := (HI2.out.at_base b' o' e').1; omega
                · have := (HI3.out.at_base b' o' e').1; omega
              (refine walkR_only (fun w' => Ext w2 w') rfl (by decide +kernel) rfl ?_ ?_)
              · exact fun _ h => h
              intro K hK
              go_simp
              refine hK _ _ (hE5.trans (Ext.alloc w5 (.cells #[.slice a1 W.length c1, .int .i64 (0), .slice a2 W.length c2, .int .i64 (L), .slice a3 W.length c3, .int .i64 (0)] 69))) ?_
              clear hK K hE5 hE hB5
              (try simp only [Act.put, List.setIfInBounds_toArray, List.set_cons_zero, List.set_cons_succ])
              (refine walkR_tail (by rfl) (by kernel_rfl) ?_; simp only [List.drop_succ_cons, List.drop_zero])
              go_wp2_with (at_builtin; refine wpList_append_elems stepK 28 (.agg #[.slice none 0 0, .int .i64 0]) 32 rfl (.tmp 66) (.tmp 89) rfl Tryz.underlying28 Tryz.info69 rfl (by omega) w1.heap.size _ _ (some ⟨g, 0, none⟩) m co hs [(a1, c1), (a2, c2), (a3, c3)] _ [(W, 0), (refl R ts i W, L), (W, 0)] rfl HO5.out w5.heap.size 3 3 rfl HLit.out HAp.out (by omega) (by simp) HX5.out.size ?_; intro a6 c6 w6 ho6 hg6 _; have HX6 := hidP (Below.own HX5.out hg6 HX5.out.size (fun b o e => by have := HO.out.base_lt b o e; omega) HO5.out.addr); rw [← HTK.out] at ho6; have HO6 := hidP ho6; clear ho6 hg6)
              obtain ⟨g6, rfl⟩ : ∃ g6, a6 = some ⟨g6, 0, none⟩ := by
                rcases HO6.out.form with ⟨_, h0, _⟩ | ⟨g6, _, e6, _⟩
                · omega
                · exact ⟨g6, e6⟩
              go_roundw
              case rel => exact ⟨k + 1, g6, m + 3, c6, _, by omega, by omega, rfl, by go_num, HO6, HX6⟩
              case measure => simp [intOf]; omega
    · obtain rfl : n = k := by omega
      have HDel := hidP (fun w' (hx : OwnK stepK w' w1.heap.size w'.heap.size (some ⟨g, 0, none⟩) m co hs (turnTo (refl R ts i) xs A fr Bq tq n)) => deleteStep_any w1.heap.size w'.heap.size g m co hs _ w' hx)
      have HTl := hidP (turn_le_len (refl R ts i) HP.out HTu.out n (by have := Hl.out; omega))
      have HTw := hidP (turn_way (ts := ts) (i := i) HP.out A fr Bq tq n (by have := Hl.out; omega))
      have HTn := hidP (turnTo_length (refl R ts i) xs A fr Bq tq n)
      have HJc : Hid (chk R ((turnTo (refl R ts i) xs A fr Bq tq n).filter fun s => s.2 != 0) = (J1, J2)) := by
        show _ = _
        rw [HJ.out]
        unfold turnR
        rw [Hl.out]
      have hE : Ext wr wr.drew := Ext.drew wr
      have hgw := (HO.out.base_lt g 0 rfl).1
      go_wp2
      (refine walkR_start (fun w' => Ext w1 w') 6 (by kernel_rfl) ?_; simp only [numbered, List.take_succ_cons, List.take_zero, Nat.zero_add, Nat.reduceAdd, List.length_cons, List.length_nil])
      (repeat (first | (refine walkR_still (v := ?_) rfl (by decide +kernel) rfl (fun _ _ _ h => h) (HX.out.trans hE) ?_ ?_; rotate_left; (focus (intro w' hw'; obtain ⟨f0, f1⟩ := HC.out w' hw'; go_simp; all_goals (with_reducible rfl))); simp only [Act.put, List.setIfInBounds_toArray, List.set_cons_zero, List.set_cons_succ]) | (refine walkR_skip rfl (by decide +kernel) rfl (fun _ _ _ h => h) (HX.out.trans hE) ?_; simp only [Act.put, List.setIfInBounds_toArray, List.set_cons_zero, List.set_cons_succ])))
      (refine walkR_only (fun w' => Ext w1 w') rfl (by decide +kernel) rfl (fun _ h => h) ?_; intro K hK; go_simp; refine (HDel.out wr.drew (OwnK.below HO.out hE)).mono ?_; rintro e w3 ⟨m3, hs3, rfl, ho3, hg3⟩; refine hK _ _ (Below.own (a := some ⟨g, 0, none⟩) (n := m) (c := co) (HX.out.trans hE) hg3 (HX.out.trans hE).size (fun b o e => by simp only [Option.some.injEq, Addr.mk.injEq, and_true] at e; omega) (fun p e => ⟨g, by simpa using e.symm⟩)) ?_; clear hK K; (try simp only [Act.put, List.setIfInBounds_toArray, List.set_cons_zero, List.set_cons_succ]))
      have hX3 : Ext w1 w3 := Below.own (a := some ⟨g, 0, none⟩) (n := m) (c := co) (HX.out.trans hE) hg3 (HX.out.trans hE).size (fun b o e => by simp only [Option.some.injEq, Addr.mk.injEq, and_true] at e; omega) (fun p e => ⟨g, by simpa using e.symm⟩)
      have HO3 := hidP ho3
      have hm3 : m3 ≤ 180 := by
        have h1 := ho3.xl
        have h2 := List.length_filter_le (fun s : Stp => s.2 != 0) (turnTo (refl R ts i) xs A fr Bq tq n)
        have h3 := HTn.out
        omega
      have HCk := hidP (checked_of R ta tn tc ts w1.heap.size _ (some ⟨g, 0, none⟩) m3 co hs3 _ w3 ho3 hX3.size (by omega) (fun k hk => by
        have hmem : ((turnTo (refl R ts i) xs A fr Bq tq n).filter fun s => s.2 != 0).getD k ([], 0) ∈ turnTo (refl R ts i) xs A fr Bq tq n := (List.mem_filter.1 (getD_within _ k ([], 0) (by have := ho3.xl; omega))).1
        have h1 := HTl.out _ hmem
        have h2 := HTw.out _ hmem
        unfold wayAt lenAt
        omega) HT.out (fun w' hx' => HIs1.out w' ((HX1.out.trans hX3).trans hx')))
      rw [HJc.out] at HCk
      dsimp only at HCk
      clear ho3 hg3
      (refine walkR_only (fun w' => Ext w1 w') rfl (by decide +kernel) rfl (fun _ h => h) ?_; intro K hK; go_simp; refine (HCk.out).mono ?_; rintro e w7 ⟨a7, n7, c7, hs7, rfl, ho7, hx7⟩; refine hK _ _ (hX3.trans hx7) ?_; clear hK K; (try simp only [Act.put, List.setIfInBounds_toArray, List.set_cons_zero, List.set_cons_succ]))
      have HX7 := hidP (HX1.out.trans (hX3.trans hx7))
      have HO7 := hidP (ho7.weaken HX1.out.size (Nat.le_refl _))
      have hX7 := hX3.trans hx7
      clear ho7 hx7 hX3
      (repeat (first | (refine walkR_still (v := ?_) rfl (by decide +kernel) rfl (fun _ _ _ h => h) hX7 ?_ ?_; rotate_left; (focus (intro w' hw'; skip; go_simp; all_goals (with_reducible rfl))); simp only [Act.put, List.setIfInBounds_toArray, List.set_cons_zero, List.set_cons_succ]) | (refine walkR_skip rfl (by decide +kernel) rfl (fun _ _ _ h => h) hX7 ?_; simp only [Act.put, List.setIfInBounds_toArray, List.set_cons_zero, List.set_cons_succ])))
      (refine walkR_tail (by rfl) (by kernel_rfl) ?_; simp only [List.drop_succ_cons, List.drop_zero])
      go_wp2
      refine bodyPost_ret (v := .tuple #[.slice a7 n7 c7, .bool J1]) (by simp [results, Tryz.results99, go_sem]) rfl ⟨a7, n7, c7, hs7, rfl, HO7.out, HX7.out⟩
end Go.Proofs.YtfikkfbnlegflaaGreatDoor

namespace Go.Proofs.YtfikkfbnlegflaaGreatDoor
open Go.RowKit

set_option maxHeartbeats 1000000 in
theorem l1Find_any (a : Option Addr) (n c : Nat) (xs : List Int) (x : Int) (w : World) (h : IntsAt w a n xs) (hn : n ≤ 1000000000000) :
    Calls Tryz.prog 145 #[.slice a n c, .int .i64 x] w fun e w' => ∃ v : Int, e = .returned (.int .i64 v) ∧ (0 ≤ v ↔ x ∈ xs) ∧ -1 ≤ v ∧ v ≤ n ∧ w = w' := by
  have G := hidP h
  have L := hidP h.len
  clear h
  go_enter Tryz.func145, Tryz.ntmps145
  go_wp2
  go_loop [5] (fun i => ∃ k : Nat, k ≤ n ∧ Hid (∀ j, j < k → xs.getD j 0 ≠ x) ∧ i = .int .i64 k) (fun i => n - (intOf i).toNat)
  case atStart => exact ⟨0, Nat.zero_le _, fun j h => by omega, rfl⟩
  case round =>
    obtain ⟨k, hk, HJ, rfl⟩ := hrel
    by_cases hlt : k < n
    · obtain ⟨b, o, rfl, q⟩ := G.out.get k hlt
      by_cases hd : xs.getD k 0 = x
      · have HR : Hid (x ∈ xs) := by
          show _ ∈ _
          have hkl : k < xs.length := by have := L.out; omega
          rw [← hd, List.getD_eq_getElem?_getD, List.getElem?_eq_getElem hkl]
          exact List.getElem_mem hkl
        have hb : (xs.getD k 0 == x) = true := by simpa using hd
        rw [List.getD_eq_getElem?_getD] at hb
        clear hd
        go_wp2
        go_ret
        exact ⟨k, rfl, ⟨fun _ => HR.out, fun _ => by omega⟩, by omega, by omega, rfl⟩
      · have hb : (xs.getD k 0 == x) = false := by simpa using hd
        have HD := hidP hd
        clear hd
        rw [List.getD_eq_getElem?_getD] at hb
        go_wp2
        go_round
        case rel =>
          refine ⟨k + 1, by omega, fun j hj => ?_, by go_num⟩
          rcases Nat.lt_succ_iff_lt_or_eq.1 hj with h3 | rfl
          · exact HJ.out j h3
          · exact HD.out
        case measure => simp [intOf]; omega
    · have HR : Hid (x ∉ xs) := by
        intro hm
        obtain ⟨j, hj, rfl⟩ := List.mem_iff_getElem.1 hm
        refine HJ.out j (by have := L.out; omega) ?_
        rw [List.getD_eq_getElem?_getD, List.getElem?_eq_getElem hj]
        rfl
      go_wp2
      go_ret
      exact ⟨-1, rfl, ⟨fun h => by omega, fun h => absurd h HR.out⟩, by omega, by omega, rfl⟩
end Go.Proofs.YtfikkfbnlegflaaGreatDoor

namespace Go.Proofs.YtfikkfbnlegflaaGreatDoor
open Go.RowKit

theorem nodup_le : ∀ (r : Nat) (l : List Nat), l.Nodup → (∀ a ∈ l, a < r) → l.length ≤ r
  | 0, l, _, h => by
    cases l with
    | nil => simp
    | cons a l => have := h a (by simp); omega
  | r + 1, l, hd, h => by
    have ih := nodup_le r (l.erase r) (hd.erase r) (fun a ha => by
      have h1 := List.mem_of_mem_erase ha
      have h2 := h a h1
      have h3 : a ≠ r := by
        intro e
        subst e
        exact (hd.not_mem_erase) ha
      omega)
    rw [List.length_erase] at ih
    split at ih <;> omega
theorem partGo_end (bits : List Bool) (r f k j : Nat) (out : List Nat) (h : ¬ k < out.length) : partGo bits r f k j out = out := by
  cases f with
  | zero => rfl
  | succ f => rw [partGo, if_neg h]
theorem partGo_next (bits : List Bool) (r f k : Nat) (out : List Nat) (h : k < out.length) : partGo bits r (f + 1) k r out = partGo bits r f (k + 1) 0 out := by
  rw [partGo, if_pos h, if_neg (Nat.lt_irrefl _)]
theorem partGo_step (bits : List Bool) (r f k j : Nat) (out : List Nat) (h : k < out.length) (hj : j < r) : partGo bits r (f + 1) k j out = partGo bits r f k (j + 1) (if bits.getD (out.getD k 0 * r + j) false && !out.contains j then out ++ [j] else out) := by
  rw [partGo, if_pos h, if_pos hj]
theorem bits_at (xs : List Int) (r a b : Nat) : (bitsOf xs).getD (a * r + b) false = decide (atM xs r a b ≠ 0) := bitAt_eq
set_option maxRecDepth 100000 in
set_option maxHeartbeats 4000000 in
theorem l5Part_any (r : Nat) (hr : r ≤ 4) (xs : List Int) (ac : Option Addr) (cc : Nat) (i : Nat) (hi : i < r) (w : World) (h : IntsAt w ac (r * r) xs) :
    Calls Tryz.prog 146 #[carV r ac (r * r) cc, .int .i64 i] w fun e w' => ∃ a n c, e = .returned (.slice a n c) ∧ OwnI w' w.heap.size a n c (natI (partL (bitsOf xs) r i)) ∧ Ext w w' ∧ (partL (bitsOf xs) r i).Nodup ∧ (∀ x ∈ partL (bitsOf xs) r i, x < r) := by
  have hx0 := Ext.alloc w (.cells #[.int .i64 r, .slice ac (r * r) cc] 31)
  have hca := CarAt.new w _ rfl r ac (r * r) cc 31
  have H := hidP (h.below hx0)
  obtain ⟨w0, hw0⟩ : ∃ w0, w0 = w.alloc (.cells #[.int .i64 r, .slice ac (r * r) cc] 31) := ⟨_, rfl⟩
  obtain ⟨b2, hb2⟩ : ∃ b, b = w.heap.size := ⟨_, rfl⟩
  have HC : Hid (CarAt w0 b2 r ac (r * r) cc) := by rw [hw0, hb2]; exact hca
  have HX0 : Hid (Ext w w0) := by rw [hw0]; exact hx0
  have H0 : Hid (IntsAt w0 ac (r * r) xs) := by rw [hw0]; exact H.out
  have hP : partL (bitsOf xs) r i = partGo (bitsOf xs) r 64 0 0 [i] := rfl
  generalize partL (bitsOf xs) r i = P at *
  have HP := hidP hP
  have hm25 : (r - 0) * (r + 1) + (r + 1) ≤ 64 := by
    have : (r - 0) * (r + 1) ≤ 4 * 5 := Nat.mul_le_mul (by omega) (by omega)
    omega
  clear h hx0 hca H hP
  go_enter Tryz.func146, Tryz.ntmps146
  go_wp2
  rw [← hw0, ← hb2]
  have hxl := Ext.alloc w0 (.cells #[.int .i64 i] 3)
  have hsz : w0.heap.size = b2 + 1 := by rw [hw0, hb2]; simp
  have HO0 : Hid (OwnI (w0.alloc (.cells #[.int .i64 i] 3)) w0.heap.size (some ⟨b2 + 1, 0, none⟩) 1 1 (natI [i])) := by
    rw [show b2 + 1 = w0.heap.size from hsz.symm]
    refine ⟨?_⟩
    have := World.ownsRow_lit (e := 3) (size := 1) (base := w0.heap.size) w0 #[.int .i64 i] 1 (Nat.le_refl _) (by unfold maxLen; omega) (by simp)
    simpa [ivs, natI] using this
  have HXl := hidP hxl
  clear hw0 hb2 hxl hsz
  go_loopw [5, 6] (fun u t wr => ∃ (k f : Nat) (out : List Nat) (av : Option Addr) (cv : Nat), k ≤ out.length ∧ t = .int .i64 k ∧ u = .slice av out.length cv ∧ Hid out.Nodup ∧ Hid (∀ x ∈ out, x < r) ∧ Hid (P = partGo (bitsOf xs) r f k 0 out) ∧ Hid ((r - k) * (r + 1) + (r + 1) ≤ f) ∧ Hid (OwnI wr w0.heap.size av out.length cv (natI out)) ∧ Hid (Ext w0 wr)) (fun _ t _ => r - (intOf t).toNat)
  case atStart => exact ⟨0, 64, [i], _, 1, by simp, rfl, rfl, by show List.Nodup _; simp, fun x hx => by simp at hx; omega, HP, hm25, HO0, HXl⟩
  case round =>
    clear HO0 HXl HP hm25
    obtain ⟨k, f, out, av, cv, hk, rfl, rfl, HN, HLt, HP, HF, HO, HX⟩ := hrel
    have hlr := nodup_le r out HN.out HLt.out
    by_cases hlt : k < out.length
    · have HF2 : Hid ((r - k) * (r + 1) + (r - 0) + 1 ≤ f) := HF.out
      go_wp2
      go_loopw [5, 7] (fun u t wr => ∃ (j f : Nat) (out : List Nat) (av : Option Addr) (cv : Nat), j ≤ r ∧ t = .int .i64 j ∧ u = .slice av out.length cv ∧ k < out.length ∧ Hid out.Nodup ∧ Hid (∀ x ∈ out, x < r) ∧ Hid (P = partGo (bitsOf xs) r f k j out) ∧ Hid ((r - k) * (r + 1) + (r - j) + 1 ≤ f) ∧ Hid (OwnI wr w0.heap.size av out.length cv (natI out)) ∧ Hid (Ext w0 wr)) (fun _ t _ => r - (intOf t).toNat)
      case atStart => exact ⟨0, f, out, av, cv, Nat.zero_le _, rfl, rfl, hlt, HN, HLt, HP, HF2, HO, HX⟩
      case round =>
        clear HO HX HP HF HF2 HN HLt hlt hk hlr
        obtain ⟨j, f, out, av, cv, hj, rfl, rfl, hlt, HN, HLt, HP, HF, HO, HX⟩ := hrel
        have hlr := nodup_le r out HN.out HLt.out
        obtain ⟨f, rfl⟩ : ∃ f', f = f' + 1 := ⟨f - 1, by have := HF.out; omega⟩
        by_cases hjr : j < r
        · have HS := hidP (partGo_step (bitsOf xs) r f k j out hlt hjr)
          rw [bits_at] at HS
          obtain ⟨g, rfl, _, _, hq, _⟩ := HO.out.cell k hlt
          rw [natI_getD] at hq
          have hkr : out.getD k 0 < r := HLt.out _ (getD_mem hlt)
          have HAt := hidP (fun w' (hx : Ext wr w') => l5At_any r ac (r * r) cc xs (out.getD k 0) j w' ((H0.out.below HX.out).below hx) (Int.natCast_mul r r) (by omega) (by omega) (by omega))
          rw [Int.toNat_natCast] at HAt
          have HFd := hidP (fun w' (hx : Ext wr w') => l1Find_any (some ⟨g, 0, none⟩) out.length cv (natI out) (j : Int) w' (HO.out.below hx).ints (by omega))
          have HQ := hidP (fun w' (hx : Ext wr w') => (hx.cell (p := ⟨g, k, none⟩) (World.block_lt_of_cell? wr _ hq)).trans hq)
          have HMem : Hid ((j : Int) ∈ natI out ↔ j ∈ out) := by
            show _ ↔ _
            unfold natI
            rw [List.mem_map]
            exact ⟨fun ⟨a, h, e⟩ => by obtain rfl : a = j := by omega
                                       exact h, fun h => ⟨j, h, rfl⟩⟩
          have hE : Ext wr wr.drew := Ext.drew wr
          generalize out.getD k 0 = ok at *
          generalize atM xs r ok j = x at *
          clear hq
          by_cases hz : x = 0
          · have hz' : (x != 0) = false := by simpa using hz
            rw [hz] at HS
            have HP2 : Hid (P = partGo (bitsOf xs) r f k (j + 1) out) := by
              show _ = _
              rw [HP.out, HS.out]
              simp
            clear hz HS
            obtain ⟨f0, f1⟩ := HC.out.below HX.out
            go_wp2
            clear f0 f1
            (refine walkR_start (fun w' => Ext wr w') 12 (by kernel_rfl) ?_; simp only [numbered, List.take_succ_cons, List.take_zero, Nat.zero_add, Nat.reduceAdd, List.length_cons, List.length_nil])
            (repeat (first | (refine walkR_still (v := ?_) rfl (by decide +kernel) rfl (fun _ _ _ h => h) hE ?_ ?_; rotate_left; (focus (intro w' hw'; obtain ⟨f0, f1⟩ := HC.out.below (HX.out.trans hw'); have q' := HQ.out w' hw'; go_simp; all_goals (with_reducible rfl))); simp only [Act.put, List.setIfInBounds_toArray, List.set_cons_zero, List.set_cons_succ]) | (refine walkR_skip rfl (by decide +kernel) rfl (fun _ _ _ h => h) hE ?_; simp only [Act.put, List.setIfInBounds_toArray, List.set_cons_zero, List.set_cons_succ])))
            (refine walkR_only (fun w' => Ext wr w') rfl (by decide +kernel) rfl (fun _ h => h) ?_; intro K hK; go_simp; refine (HAt.out _ hE).mono ?_; rintro e w2 ⟨rfl, hx2⟩; refine hK _ _ (hE.trans hx2) ?_; clear hK K; (try simp only [Act.put, List.setIfInBounds_toArray, List.set_cons_zero, List.set_cons_succ]))
            have hE2 := hE.trans hx2
            (repeat (first | (refine walkR_still (v := ?_) rfl (by decide +kernel) rfl (fun _ _ _ h => h) hE2 ?_ ?_; rotate_left; (focus (intro w' hw'; skip; go_simp; all_goals (with_reducible rfl))); simp only [Act.put, List.setIfInBounds_toArray, List.set_cons_zero, List.set_cons_succ]) | (refine walkR_skip rfl (by decide +kernel) rfl (fun _ _ _ h => h) hE2 ?_; simp only [Act.put, List.setIfInBounds_toArray, List.set_cons_zero, List.set_cons_succ])))
            (refine walkR_tail (by rfl) (by kernel_rfl) ?_; simp only [List.drop_succ_cons, List.drop_zero])
            go_wp2
            go_roundw
            case rel => exact ⟨j + 1, f, out, _, cv, by omega, by go_num, rfl, hlt, HN, HLt, HP2, by show _ ≤ _; have := HF.out; omega, HO.out.below hE2, HX.out.trans hE2⟩
            case measure => simp [intOf]; omega
          · have hz' : (x != 0) = true := by simpa using hz
            have HZ := hidP hz
            clear hz
            obtain ⟨f0, f1⟩ := HC.out.below HX.out
            go_wp2
            clear f0 f1
            (refine walkR_start (fun w' => Ext wr w') 12 (by kernel_rfl) ?_; simp only [numbered, List.take_succ_cons, List.take_zero, Nat.zero_add, Nat.reduceAdd, List.length_cons, List.length_nil])
            (repeat (first | (refine walkR_still (v := ?_) rfl (by decide +kernel) rfl (fun _ _ _ h => h) hE ?_ ?_; rotate_left; (focus (intro w' hw'; obtain ⟨f0, f1⟩ := HC.out.below (HX.out.trans hw'); have q' := HQ.out w' hw'; go_simp; all_goals (with_reducible rfl))); simp only [Act.put, List.setIfInBounds_toArray, List.set_cons_zero, List.set_cons_succ]) | (refine walkR_skip rfl (by decide +kernel) rfl (fun _ _ _ h => h) hE ?_; simp only [Act.put, List.setIfInBounds_toArray, List.set_cons_zero, List.set_cons_succ])))
            (refine walkR_only (fun w' => Ext wr w') rfl (by decide +kernel) rfl (fun _ h => h) ?_; intro K hK; go_simp; refine (HAt.out _ hE).mono ?_; rintro e w2 ⟨rfl, hx2⟩; refine hK _ _ (hE.trans hx2) ?_; clear hK K; (try simp only [Act.put, List.setIfInBounds_toArray, List.set_cons_zero, List.set_cons_succ]))
            have hE2 := hE.trans hx2
            (repeat (first | (refine walkR_still (v := ?_) rfl (by decide +kernel) rfl (fun _ _ _ h => h) hE2 ?_ ?_; rotate_left; (focus (intro w' hw'; skip; go_simp; all_goals (with_reducible rfl))); simp only [Act.put, List.setIfInBounds_toArray, List.set_cons_zero, List.set_cons_succ]) | (refine walkR_skip rfl (by decide +kernel) rfl (fun _ _ _ h => h) hE2 ?_; simp only [Act.put, List.setIfInBounds_toArray, List.set_cons_zero, List.set_cons_succ])))
            (refine walkR_only (fun w' => Ext wr w') rfl (by decide +kernel) rfl (fun _ h => h) ?_; intro K hK; go_simp; refine (HFd.out _ hE2).mono ?_; rintro e w3 ⟨v, rfl, hv, hv1, hv2, rfl⟩; refine hK _ _ (hE2) ?_; clear hK K; (try simp only [Act.put, List.setIfInBounds_toArray, List.set_cons_zero, List.set_cons_succ]))
            (refine walkR_tail (by rfl) (by kernel_rfl) ?_; simp only [List.drop_succ_cons, List.drop_zero])
            by_cases hm : j ∈ out
            · have hv0 : 0 ≤ v := hv.2 (HMem.out.2 hm)
              have HP2 : Hid (P = partGo (bitsOf xs) r f k (j + 1) out) := by
                show _ = _
                rw [HP.out, HS.out]
                simp [hm]
              have hvn : ¬ (v < 0) := by omega
              clear hv hm
              go_wp2
              go_roundw
              case rel => exact ⟨j + 1, f, out, _, cv, by omega, by go_num, rfl, hlt, HN, HLt, HP2, by show _ ≤ _; have := HF.out; omega, HO.out.below hE2, HX.out.trans hE2⟩
              case measure => simp [intOf]; omega
            · have hvn : v < 0 := by
                rcases Int.lt_or_le v 0 with h | h
                · exact h
                · exact absurd (HMem.out.1 (hv.1 h)) hm
              have HP2 : Hid (P = partGo (bitsOf xs) r f k (j + 1) (out ++ [j])) := by
                show _ = _
                rw [HP.out, HS.out]
                simp [hm, HZ.out]
              have HN2 : Hid ((out ++ [j]).Nodup) := by
                show List.Nodup _
                rw [List.nodup_append]
                exact ⟨HN.out, by simp, fun a ha b hb e => by simp at hb; subst hb; subst e; exact hm ha⟩
              have HLt2 : Hid (∀ x ∈ out ++ [j], x < r) := fun x hx => by
                simp only [List.mem_append, List.mem_singleton] at hx
                rcases hx with hx | rfl
                · exact HLt.out x hx
                · exact hjr
              have hxb := Ext.alloc w2 (.cells #[.int .i64 j] 3)
              have HO2 := hidP (HO.out.below (hE2.trans hxb))
              have HI2 : Hid (IntsAt (w2.alloc (.cells #[.int .i64 j] 3)) (some ⟨w2.heap.size, 0, none⟩) 1 [(j : Int)]) := ⟨rfl, fun q hq => ⟨_, 0, rfl, by
                obtain rfl : q = 0 := by omega
                exact (cell_top _ _ _ _ _ rfl).trans rfl⟩⟩
              have HX2 := hidP (HX.out.trans (hE2.trans hxb))
              clear hv hm hxb hv1 hv2
              go_wp2_with (at_builtin; refine wpList_append_ints rfl (.tmp 36) (.tmp 38) rfl w0.heap.size (some ⟨g, 0, none⟩) out.length cv (natI out) rfl HO2.out (some ⟨w2.heap.size, 0, none⟩) 1 1 [(j : Int)] rfl HI2.out (fun e => by cases e) (by omega) HX2.out.size ?_; intro a5 c5 w5 ho5 hg5)
              have HX5 := hidP (grown_ext hg5 HX2.out HX2.out.size HO2.out.addr_base)
              rw [show natI out ++ [(j : Int)] = natI (out ++ [j]) by rw [natI_append]; rfl] at ho5
              have HO5 := hidP ho5
              clear ho5 hg5
              go_roundw
              case rel => exact ⟨j + 1, f, out ++ [j], a5, c5, by omega, by go_num, by simp, by simp; omega, HN2, HLt2, HP2, by show _ ≤ _; have := HF.out; omega, by simpa using HO5, HX5⟩
              case measure => simp [intOf]; omega
        · obtain rfl : j = r := by omega
          have HP2 : Hid (P = partGo (bitsOf xs) j f (k + 1) 0 out) := by
            show _ = _
            rw [HP.out, partGo_next _ _ _ _ _ hlt]
          have HF3 : Hid ((j - (k + 1)) * (j + 1) + (j + 1) ≤ f) := by
            have := HF.out
            show _ ≤ _
            have e : j - k = (j - (k + 1)) + 1 := by omega
            rw [e, Nat.add_mul, Nat.one_mul] at this
            omega
          obtain ⟨f0, f1⟩ := HC.out.below HX.out
          go_wp2
          go_roundw
          case rel => exact ⟨k + 1, f, out, av, cv, by omega, by go_num, rfl, HN, HLt, HP2, HF3, HO, HX⟩
          case measure => simp [intOf]; omega
    · have HE : Hid (P = out) := by
        show _ = _
        rw [HP.out, partGo_end _ _ _ _ _ _ hlt]
      go_wp2
      go_ret
      refine ⟨_, _, _, rfl, ?_, HX0.out.trans HX.out, ?_, ?_⟩
      · rw [HE.out]
        exact HO.out.base HX0.out.size
      · rw [HE.out]
        exact HN.out
      · rw [HE.out]
        exact HLt.out
end Go.Proofs.YtfikkfbnlegflaaGreatDoor

namespace Go.Proofs.YtfikkfbnlegflaaGreatDoor
open Go.RowKit

theorem any_idx (l : List Nat) (B : Nat → Bool) : l.any B = (List.range l.length).any fun q => B (l.getD q 0) := by
  rw [Bool.eq_iff_iff, List.any_eq_true, List.any_eq_true]
  constructor
  · rintro ⟨x, hx, hb⟩
    obtain ⟨q, hq, rfl⟩ := List.mem_iff_getElem.1 hx
    exact ⟨q, List.mem_range.2 hq, by simpa [List.getD_eq_getElem?_getD, hq] using hb⟩
  · rintro ⟨q, hq, hb⟩
    exact ⟨_, getD_mem (List.mem_range.1 hq), hb⟩
/-- the reference's test of one more row -/
def fitF (xs : List Int) (r : Nat) (due : List Int) (dr : Nat) (used : List Nat) (x j : Nat) : Bool :=
  (atM xs r x ((used ++ [x]).getD j 0) == atM due dr used.length j) && (atM xs r ((used ++ [x]).getD j 0) x == atM due dr j used.length)
theorem fitF_all (xs : List Int) (r : Nat) (due : List Int) (dr : Nat) (used : List Nat) (x : Nat) : (List.range (used.length + 1)).all (fitF xs r due dr used x) = rowChk xs r due dr used x := by
  rw [List.range_succ, List.all_append]
  have h1 : fitF xs r due dr used x used.length = (atM xs r x x == atM due dr used.length used.length) := by
    unfold fitF
    rw [getD_app_r _ _ _ _ (Nat.le_refl _), Nat.sub_self]
    simp
  have h2 : (List.range used.length).all (fitF xs r due dr used x) = (List.range used.length).all fun j => atM xs r x (used.getD j 0) == atM due dr used.length j && atM xs r (used.getD j 0) x == atM due dr j used.length := by
    apply Bool.eq_iff_iff.2
    simp only [List.all_eq_true, List.mem_range]
    constructor
    · intro h j hj
      have := h j hj
      unfold fitF at this
      rwa [getD_app_l _ _ _ _ hj] at this
    · intro h j hj
      unfold fitF
      rw [getD_app_l _ _ _ _ hj]
      exact h j hj
  rw [h2]
  unfold rowChk
  simp only [List.all_cons, List.all_nil, Bool.and_true]
  rw [h1, Bool.and_comm]
set_option maxRecDepth 100000 in
set_option maxHeartbeats 8000000 in
theorem l5Fits_any (r : Nat) (hr : r ≤ 4) (dr : Nat) (hdr : dr ≤ 4) (xs due : List Int) (rows : List Nat) (hrl : rows.length = dr) (hrr : ∀ x ∈ rows, x < r) : ∀ (f : Nat) (used : List Nat) (ac ad aw a : Option Addr) (cc cd n c cw : Nat) (w : World), IntsAt w ac (r * r) xs → IntsAt w ad (dr * dr) due → IntsAt w a dr (natI rows) → IntsAt w aw n (natI used) → (aw = none → cw = 0) → n + f = dr → (∀ x ∈ used, x < r) →
    Calls Tryz.prog 147 #[carV r ac (r * r) cc, .slice a dr c, .slice aw n cw, carV dr ad (dr * dr) cd] w fun e w' => e = .returned (.bool (searchB rows dr (rowChk xs r due dr) f used)) ∧ Ext w w' := by
  intro f
  induction f with
  | zero =>
    intro used ac ad aw a cc cd n c cw w h1 h2 h3 h4 h5 h6 h7
    have hl := h4.len
    rw [natI_length] at hl
    have HS : Hid (searchB rows dr (rowChk xs r due dr) 0 used = true) := by
      show _ = _
      simp [searchB]
      omega
    obtain rfl : n = dr := by omega
    have hx := hidP ((Ext.alloc w (.cells #[.int .i64 r, .slice ac (r * r) cc] 31)).trans (Ext.alloc _ (.cells #[.int .i64 n, .slice ad (n * n) cd] 31)))
    clear h1 h2 h3 h4 hl h6 h7
    go_enter Tryz.func147, Tryz.ntmps147
    go_wp2
    go_ret
    exact ⟨ret_bool HS.out.symm, hx.out⟩
  | succ f ih =>
    intro used ac ad aw a cc cd n c cw w h1 h2 h3 h4 h5 h6 h7
    have hl := h4.len
    rw [natI_length] at hl
    have hnr : ((n : Int) == dr) = false := by simp; omega
    have hnd : n < dr := by omega
    have hx := hidP ((Ext.alloc w (.cells #[.int .i64 r, .slice ac (r * r) cc] 31)).trans (Ext.alloc _ (.cells #[.int .i64 dr, .slice ad (dr * dr) cd] 31)))
    have HC := hidP ((CarAt.new w _ rfl r ac (r * r) cc 31).below (Ext.alloc _ (.cells #[.int .i64 dr, .slice ad (dr * dr) cd] 31)))
    have HD := hidP (CarAt.new (w.alloc (.cells #[.int .i64 r, .slice ac (r * r) cc] 31)) (w.heap.size + 1) (by simp) dr ad (dr * dr) cd 31)
    have H1 := hidP (h1.below hx.out)
    have H2 := hidP (h2.below hx.out)
    have H3 := hidP (h3.below hx.out)
    have H4 := hidP (h4.below hx.out)
    have H7 := hidP h7
    have HNil := hidP h5
    have HL := hidP hl
    have HN6 := hidP h6
    have HRL := hidP hrl
    have HRR := hidP hrr
    obtain ⟨B, hB⟩ : ∃ B : Nat → Bool, B = fun x => !used.contains x && rowChk xs r due dr used x && searchB rows dr (rowChk xs r due dr) f (used ++ [x]) := ⟨_, rfl⟩
    have HB := hidP (fun i => congrFun hB i)
    have HS : Hid (searchB rows dr (rowChk xs r due dr) (f + 1) used = (List.range dr).any fun q => B (rows.getD q 0)) := by
      show _ = _
      rw [← hrl, ← any_idx, hB, hrl, searchB, decide_eq_false (by omega), Bool.false_or]
    rw [HS.out]
    have HI := hidP ih
    clear h1 h2 h3 h4 hl h6 h5 h7 hB HS ih hrl hrr
    go_enter Tryz.func147, Tryz.ntmps147
    go_wp2
    obtain ⟨w0, hw0⟩ : ∃ w0, w0 = (w.alloc (.cells #[.int .i64 r, .slice ac (r * r) cc] 31)).alloc (.cells #[.int .i64 dr, .slice ad (dr * dr) cd] 31) := ⟨_, rfl⟩
    obtain ⟨b3, hb3⟩ : ∃ b, b = w.heap.size := ⟨_, rfl⟩
    rw [← hb3] at HC HD ⊢
    rw [← hw0] at hx HC HD H1 H2 H3 H4 ⊢
    obtain ⟨b4, hb4⟩ : ∃ b, b = b3 + 1 := ⟨_, rfl⟩
    rw [← hb4] at HD ⊢
    clear hw0 hb3 hb4
    go_loopw [10] (fun t wr => ∃ i : Nat, i ≤ dr ∧ t = .int .i64 i ∧ Hid (∀ q, q < i → B (rows.getD q 0) = false) ∧ Hid (Ext w0 wr)) (fun t _ => dr - (intOf t).toNat)
    case atStart => exact ⟨0, Nat.zero_le _, rfl, fun q hq => by omega, Ext.refl _⟩
    case round =>
      obtain ⟨i, hi, rfl, HJ, HX⟩ := hrel
      by_cases hlt : i < dr
      · obtain ⟨b, o, rfl, qi⟩ := (H3.out.below HX.out).get i hlt
        rw [natI_getD] at qi
        have hxr : rows.getD i 0 < r := HRR.out _ (getD_mem (by rw [HRL.out]; exact hlt))
        obtain ⟨x, hx2⟩ : ∃ x, x = rows.getD i 0 := ⟨_, rfl⟩
        rw [← hx2] at qi hxr
        have HXR := hidP hx2
        have HFd := hidP (l1Find_any aw n cw (natI used) (x : Int) wr (H4.out.below HX.out) (by omega))
        have HMem : Hid ((x : Int) ∈ natI used ↔ x ∈ used) := by
          show _ ↔ _
          unfold natI
          rw [List.mem_map]
          exact ⟨fun ⟨a, h, e⟩ => by obtain rfl : a = x := by omega
                                     exact h, fun h => ⟨x, h, rfl⟩⟩
        clear hx2
        go_wp2_with fail
        refine HFd.out.mono ?_
        rintro e w' ⟨v, rfl, hv, hv1, hv2, rfl⟩
        by_cases hm : x ∈ used
        · have hv0 : 0 ≤ v := hv.2 (HMem.out.2 hm)
          have HBI : Hid (B (rows.getD i 0) = false) := by
            show _ = _
            rw [← HXR.out, HB.out x]
            simp [hm]
          clear hv hm HFd
          go_wp2
          go_roundw
          case rel =>
            refine ⟨i + 1, by omega, by go_num, fun q hq => ?_, HX⟩
            rcases Nat.lt_succ_iff_lt_or_eq.1 hq with h3 | rfl
            · exact HJ.out q h3
            · exact HBI.out
          case measure => simp [intOf]; omega
        · have hvn : ¬ (0 ≤ v) := fun h => hm (HMem.out.1 (hv.1 h))
          obtain ⟨F, hF⟩ : ∃ F : Nat → Bool, F = fitF xs r due dr used x := ⟨_, rfl⟩
          have HF := hidP (fun j => congrFun hF j)
          have HBI : Hid (B (rows.getD i 0) = ((List.range (n + 1)).all F && searchB rows dr (rowChk xs r due dr) f (used ++ [x]))) := by
            show _ = _
            rw [← HXR.out, HB.out x, hF, ← HL.out, fitF_all]
            simp [hm]
          have HQ := hidP (fun w' (hx : Ext wr w') => (hx.cell (p := ⟨b, o + i, none⟩) (World.block_lt_of_cell? wr _ qi)).trans qi)
          have HLI := hidP (fun w' (hx : Ext wr w') => l1Ints_any aw n cw (natI used) w' ((H4.out.below HX.out).below hx) HNil.out (by omega))
          have hE : Ext wr wr.drew := Ext.drew wr
          clear hv hm HFd hF
          go_wp2
          clear qi
          (refine walkR_start (fun w' => Ext wr w') 7 (by kernel_rfl) ?_; simp only [numbered, List.take_succ_cons, List.take_zero, Nat.zero_add, Nat.reduceAdd, List.length_cons, List.length_nil])
          (repeat (first | (refine walkR_still (v := ?_) rfl (by decide +kernel) rfl (fun _ _ _ h => h) hE ?_ ?_; rotate_left; (focus (intro w' hw'; have q' := HQ.out w' hw'; go_simp; all_goals (with_reducible rfl))); simp only [Act.put, List.setIfInBounds_toArray, List.set_cons_zero, List.set_cons_succ]) | (refine walkR_skip rfl (by decide +kernel) rfl (fun _ _ _ h => h) hE ?_; simp only [Act.put, List.setIfInBounds_toArray, List.set_cons_zero, List.set_cons_succ])))
          (refine walkR_later ?_; simp only [List.cons_append, List.nil_append])
          (repeat (first | (refine walkR_still (v := ?_) rfl (by decide +kernel) rfl (fun _ _ _ h => h) hE ?_ ?_; rotate_left; (focus (intro w' hw'; have q' := HQ.out w' hw'; go_simp; all_goals (with_reducible rfl))); simp only [Act.put, List.setIfInBounds_toArray, List.set_cons_zero, List.set_cons_succ]) | (refine walkR_skip rfl (by decide +kernel) rfl (fun _ _ _ h => h) hE ?_; simp only [Act.put, List.setIfInBounds_toArray, List.set_cons_zero, List.set_cons_succ])))
          (refine walkR_later ?_; simp only [List.cons_append, List.nil_append])
          refine walkR_two (fun v u w' => ∃ a1 c1 b1, v = .slice a1 n c1 ∧ u = .slice (some ⟨b1, 0, none⟩) 1 1 ∧ OwnI w' wr.heap.size a1 n c1 (natI used) ∧ w'.cell? ⟨b1, 0, none⟩ = some (.int .i64 x)) (fun v w' => ∃ a1 c1, v = .slice a1 n c1 ∧ OwnI w' wr.heap.size a1 n c1 (natI used)) (fun u w' => ∃ b1, u = .slice (some ⟨b1, 0, none⟩) 1 1 ∧ w'.cell? ⟨b1, 0, none⟩ = some (.int .i64 x)) rfl rfl (by decide +kernel) rfl rfl (by decide) rfl rfl (fun _ => rfl) (fun _ => rfl) ?_ ?_ ?_ ?_ ?_
          · intro K hK
            go_simp
            refine (HLI.out _ hE).mono ?_
            rintro e w2 ⟨a1, c1, rfl, ho, hx⟩
            exact hK _ _ (hE.trans hx) ⟨a1, c1, rfl, ho⟩
          · rintro v w2 hx ⟨a1, c1, rfl, ho⟩ K hK
            go_simp
            exact hK _ _ (hx.trans (Ext.alloc _ _)) ⟨a1, c1, _, rfl, rfl, ho.below (Ext.alloc _ _), (cell_top _ _ _ _ _ rfl).trans rfl⟩
          · intro K hK
            go_simp
            exact hK _ _ (hE.trans (Ext.alloc _ _)) ⟨_, rfl, (cell_top _ _ _ _ _ rfl).trans rfl⟩
          · rintro u w2 hx ⟨b1, rfl, hb⟩ K hK
            go_simp
            refine (HLI.out _ hx).mono ?_
            rintro e w3 ⟨a1, c1, rfl, ho, hx3⟩
            exact hK _ _ (hx.trans hx3) ⟨a1, c1, b1, rfl, rfl, ho.base hx.size, (hx3.cell (p := ⟨b1, 0, none⟩) (World.block_lt_of_cell? _ _ hb)).trans hb⟩
          · rintro v' u' w2 hx2 ⟨a1, c1, b1, rfl, rfl, ho2, hb2⟩
            (try simp only [Act.put, List.setIfInBounds_toArray, List.set_cons_zero, List.set_cons_succ])
            have HI1 : Hid (IntsAt w2 (some ⟨b1, 0, none⟩) 1 [(x : Int)]) := ⟨rfl, fun q hq => ⟨b1, 0, rfl, by
              obtain rfl : q = 0 := by omega
              simpa using hb2⟩⟩
            have HO2 := hidP ho2
            have HX2 := hidP hx2
            clear ho2 hb2 hx2
            (refine walkR_tail (by rfl) (by kernel_rfl) ?_; simp only [List.drop_succ_cons, List.drop_zero])
            go_wp2_with (at_builtin; refine wpList_append_ints rfl (.tmp 34) (.tmp 39) rfl wr.heap.size a1 n c1 (natI used) rfl HO2.out (some ⟨b1, 0, none⟩) 1 1 [(x : Int)] rfl HI1.out (fun e => by cases e) (by omega) HX2.out.size ?_; intro a5 c5 w5 ho5 hg5)
            have hx5 := grown_ext hg5 HX2.out HX2.out.size HO2.out.addr_base
            rw [show natI used ++ [(x : Int)] = natI (used ++ [x]) by rw [natI_append]; rfl] at ho5
            have HO5 := hidP ho5
            have HX5 := hidP (HX.out.trans hx5)
            have HLn : Hid ((used ++ [x]).length = n + 1) := by show _ = _; rw [List.length_append, HL.out]; rfl
            have HNr : Hid (∀ y ∈ used ++ [x], y < r) := fun y hy => by
              simp only [List.mem_append, List.mem_singleton] at hy
              rcases hy with hy | rfl
              · exact H7.out y hy
              · exact hxr
            have HNk : Hid ((used ++ [x]).getD n 0 = x) := by
              show _ = _
              rw [getD_app_r _ _ _ _ (by rw [HL.out]; exact Nat.le_refl _), HL.out, Nat.sub_self]
              rfl
            have HFF : Hid (∀ j, F j = ((atM xs r x ((used ++ [x]).getD j 0) == atM due dr n j) && (atM xs r ((used ++ [x]).getD j 0) x == atM due dr j n))) := fun j => by
              rw [HF.out j, ← HL.out]
              rfl
            obtain ⟨nx, hnx⟩ : ∃ l, l = used ++ [x] := ⟨_, rfl⟩
            rw [← hnx] at HO5 HLn HNr HNk HFF HBI
            clear ho5 hg5 hx5 HO2 HX2 HI1 HF HQ HLI hE
            go_loopw [12, 13] (fun u t wx => ∃ j : Nat, j ≤ n + 1 ∧ t = .int .i64 j ∧ u = .bool ((List.range j).all F) ∧ Hid (Ext w5 wx)) (fun _ t _ => n + 1 - (intOf t).toNat)
            case atStart => exact ⟨0, Nat.zero_le _, rfl, rfl, Ext.refl _⟩
            case round =>
              obtain ⟨j, hj, rfl, rfl, HXj⟩ := hrel
              have HXa := hidP (HX5.out.trans HXj.out)
              have HAS : Hid ((List.range (j + 1)).all F = ((List.range j).all F && F j)) := by
                show _ = _
                rw [List.range_succ, List.all_append]
                simp
              by_cases hjn : j ≤ n
              · have hyr : nx.getD j 0 < r := HNr.out _ (getD_mem (by rw [HLn.out]; omega))
                have hoj := HO5.out.below HXj.out
                obtain ⟨g, rfl, _, _, qk, _⟩ := hoj.cell n (by omega)
                obtain ⟨g', e', _, _, qj, _⟩ := hoj.cell j (by omega)
                simp only [Option.some.injEq, Addr.mk.injEq, and_true] at e'
                subst e'
                rw [natI_getD] at qk qj
                rw [HNk.out] at qk
                have HFJ := hidP (HFF.out j)
                obtain ⟨y, hy⟩ : ∃ y, y = nx.getD j 0 := ⟨_, rfl⟩
                rw [← hy] at HFJ qj hyr
                have HC1 := hidP (fun w' (hx : Ext wr w') => l5At_any r ac (r * r) cc xs x y w' ((H1.out.below HXa.out).below hx) (Int.natCast_mul r r) (by omega) (by omega) (by omega))
                have HC2 := hidP (fun w' (hx : Ext wr w') => l5At_any dr ad (dr * dr) cd due n j w' ((H2.out.below HXa.out).below hx) (Int.natCast_mul dr dr) (by omega) (by omega) (by omega))
                have HC3 := hidP (fun w' (hx : Ext wr w') => l5At_any r ac (r * r) cc xs y x w' ((H1.out.below HXa.out).below hx) (Int.natCast_mul r r) (by omega) (by omega) (by omega))
                have HC4 := hidP (fun w' (hx : Ext wr w') => l5At_any dr ad (dr * dr) cd due j n w' ((H2.out.below HXa.out).below hx) (Int.natCast_mul dr dr) (by omega) (by omega) (by omega))
                rw [Int.toNat_natCast] at HC1 HC2 HC3 HC4
                have HW := hidP (fun w' (hx : Ext wr w') => (⟨HC.out.below (HXa.out.trans hx), HD.out.below (HXa.out.trans hx), (hx.cell (p := ⟨g, n, none⟩) (World.block_lt_of_cell? wr _ qk)).trans qk, (hx.cell (p := ⟨g, j, none⟩) (World.block_lt_of_cell? wr _ qj)).trans qj⟩ : _ ∧ _ ∧ _ ∧ _))
                have hE : Ext wr wr.drew := Ext.drew wr
                have hn1 : (n : Int) < (n : Int) + 1 := by omega
                have hj1 : (j : Int) < (n : Int) + 1 := by omega
                generalize atM xs r x y = x1 at *
                generalize atM due dr n j = y1 at *
                generalize atM xs r y x = x2 at *
                generalize atM due dr j n = y2 at *
                clear qk qj hy hoj
                cases hfj : (List.range j).all F
                · rw [hfj] at HAS
                  go_wp2
                  (refine walkR_start (fun w' => Ext wr w') 35 (by kernel_rfl) ?_; simp only [numbered, List.take_succ_cons, List.take_zero, Nat.zero_add, Nat.reduceAdd, List.length_cons, List.length_nil])
                  (repeat (first | (refine walkR_still (v := ?_) rfl (by decide +kernel) rfl (fun _ _ _ h => h) hE ?_ ?_; rotate_left; (focus (intro w' hw'; skip; go_simp; all_goals (with_reducible rfl))); simp only [Act.put, List.setIfInBounds_toArray, List.set_cons_zero, List.set_cons_succ]) | (refine walkR_skip rfl (by decide +kernel) rfl (fun _ _ _ h => h) hE ?_; simp only [Act.put, List.setIfInBounds_toArray, List.set_cons_zero, List.set_cons_succ])))
                  (refine walkR_tail (by rfl) (by kernel_rfl) ?_; simp only [List.drop_succ_cons, List.drop_zero])
                  go_wp2
                  go_roundw
                  case rel => exact ⟨j + 1, by omega, by go_num, by rw [HAS.out]; rfl, HXj.out.trans hE⟩
                  case measure => simp [intOf]; omega
                · rw [hfj, Bool.true_and] at HAS
                  go_wp2
                  (refine walkR_start (fun w' => Ext wr w') 35 (by kernel_rfl) ?_; simp only [numbered, List.take_succ_cons, List.take_zero, Nat.zero_add, Nat.reduceAdd, List.length_cons, List.length_nil])
                  (repeat (first | (refine walkR_still (v := ?_) rfl (by decide +kernel) rfl (fun _ _ _ h => h) hE ?_ ?_; rotate_left; (focus (intro w' hw'; obtain ⟨⟨f0, f1⟩, ⟨g0, g1⟩, q1, q2⟩ := HW.out w' hw'; go_simp; all_goals (with_reducible rfl))); simp only [Act.put, List.setIfInBounds_toArray, List.set_cons_zero, List.set_cons_succ]) | (refine walkR_skip rfl (by decide +kernel) rfl (fun _ _ _ h => h) hE ?_; simp only [Act.put, List.setIfInBounds_toArray, List.set_cons_zero, List.set_cons_succ])))
                  (refine walkR_later ?_; simp only [List.cons_append, List.nil_append])
                  (repeat (first | (refine walkR_still (v := ?_) rfl (by decide +kernel) rfl (fun _ _ _ h => h) hE ?_ ?_; rotate_left; (focus (intro w' hw'; obtain ⟨⟨f0, f1⟩, ⟨g0, g1⟩, q1, q2⟩ := HW.out w' hw'; go_simp; all_goals (with_reducible rfl))); simp only [Act.put, List.setIfInBounds_toArray, List.set_cons_zero, List.set_cons_succ]) | (refine walkR_skip rfl (by decide +kernel) rfl (fun _ _ _ h => h) hE ?_; simp only [Act.put, List.setIfInBounds_toArray, List.set_cons_zero, List.set_cons_succ])))
                  (refine walkR_later ?_; simp only [List.cons_append, List.nil_append]); (refine walkR_later ?_; simp only [List.cons_append, List.nil_append]); (refine walkR_later ?_; simp only [List.cons_append, List.nil_append]); (refine walkR_later ?_; simp only [List.cons_append, List.nil_append]); (refine walkR_later ?_; simp only [List.cons_append, List.nil_append]); (refine walkR_later ?_; simp only [List.cons_append, List.nil_append]); (refine walkR_later ?_; simp only [List.cons_append, List.nil_append]); (refine walkR_later ?_; simp only [List.cons_append, List.nil_append]); (refine walkR_later ?_; simp only [List.cons_append, List.nil_append]); (refine walkR_later ?_; simp only [List.cons_append, List.nil_append]); (refine walkR_later ?_; simp only [List.cons_append, List.nil_append]); (refine walkR_later ?_; simp only [List.cons_append, List.nil_append]); (refine walkR_later ?_; simp only [List.cons_append, List.nil_append]); (refine walkR_later ?_; simp only [List.cons_append, List.nil_append]); (refine walkR_later ?_; simp only [List.cons_append, List.nil_append]); (refine walkR_later ?_; simp only [List.cons_append, List.nil_append]); (refine walkR_later ?_; simp only [List.cons_append, List.nil_append]); (refine walkR_later ?_; simp only [List.cons_append, List.nil_append]); (refine walkR_later ?_; simp only [List.cons_append, List.nil_append]); (refine walkR_later ?_; simp only [List.cons_append, List.nil_append])
                  (refine walkR_only (fun w' => Ext wr w') rfl (by decide +kernel) rfl (fun _ h => h) ?_; intro K hK; go_simp; refine (HC1.out _ hE).mono ?_; rintro e w6 ⟨rfl, hx6⟩; refine hK _ _ (hE.trans hx6) ?_; clear hK K; (try simp only [Act.put, List.setIfInBounds_toArray, List.set_cons_zero, List.set_cons_succ]))
                  have hE6 := hE.trans hx6
                  clear hx6
                  (refine walkR_only (fun w' => Ext wr w') rfl (by decide +kernel) rfl (fun _ h => h) ?_; intro K hK; go_simp; refine (HC2.out _ hE6).mono ?_; rintro e w7 ⟨rfl, hx7⟩; refine hK _ _ (hE6.trans hx7) ?_; clear hK K; (try simp only [Act.put, List.setIfInBounds_toArray, List.set_cons_zero, List.set_cons_succ]))
                  have hE7 := hE6.trans hx7
                  clear hx7
                  cases hp : (x1 == y1)
                  · rw [hp, Bool.false_and] at HFJ
                    (repeat (first | (refine walkR_still (v := ?_) rfl (by decide +kernel) rfl (fun _ _ _ h => h) hE7 ?_ ?_; rotate_left; (focus (intro w' hw'; skip; go_simp; all_goals (with_reducible rfl))); simp only [Act.put, List.setIfInBounds_toArray, List.set_cons_zero, List.set_cons_succ]) | (refine walkR_skip rfl (by decide +kernel) rfl (fun _ _ _ h => h) hE7 ?_; simp only [Act.put, List.setIfInBounds_toArray, List.set_cons_zero, List.set_cons_succ])))
                    (refine walkR_tail (by rfl) (by kernel_rfl) ?_; simp only [List.drop_succ_cons, List.drop_zero])
                    go_wp2
                    go_roundw
                    case rel => exact ⟨j + 1, by omega, by go_num, by rw [HAS.out, HFJ.out], HXj.out.trans hE7⟩
                    case measure => simp [intOf]; omega
                  · rw [hp, Bool.true_and] at HFJ
                    (repeat (first | (refine walkR_still (v := ?_) rfl (by decide +kernel) rfl (fun _ _ _ h => h) hE7 ?_ ?_; rotate_left; (focus (intro w' hw'; obtain ⟨⟨f0, f1⟩, ⟨g0, g1⟩, q1, q2⟩ := HW.out w' hw'; go_simp; all_goals (with_reducible rfl))); simp only [Act.put, List.setIfInBounds_toArray, List.set_cons_zero, List.set_cons_succ]) | (refine walkR_skip rfl (by decide +kernel) rfl (fun _ _ _ h => h) hE7 ?_; simp only [Act.put, List.setIfInBounds_toArray, List.set_cons_zero, List.set_cons_succ])))
                    (refine walkR_later ?_; simp only [List.cons_append, List.nil_append])
                    (repeat (first | (refine walkR_still (v := ?_) rfl (by decide +kernel) rfl (fun _ _ _ h => h) hE7 ?_ ?_; rotate_left; (focus (intro w' hw'; obtain ⟨⟨f0, f1⟩, ⟨g0, g1⟩, q1, q2⟩ := HW.out w' hw'; go_simp; all_goals (with_reducible rfl))); simp only [Act.put, List.setIfInBounds_toArray, List.set_cons_zero, List.set_cons_succ]) | (refine walkR_skip rfl (by decide +kernel) rfl (fun _ _ _ h => h) hE7 ?_; simp only [Act.put, List.setIfInBounds_toArray, List.set_cons_zero, List.set_cons_succ])))
                    (refine walkR_later ?_; simp only [List.cons_append, List.nil_append]); (refine walkR_later ?_; simp only [List.cons_append, List.nil_append]); (refine walkR_later ?_; simp only [List.cons_append, List.nil_append])
                    (refine walkR_only (fun w' => Ext wr w') rfl (by decide +kernel) rfl (fun _ h => h) ?_; intro K hK; go_simp; refine (HC3.out _ hE7).mono ?_; rintro e w8 ⟨rfl, hx8⟩; refine hK _ _ (hE7.trans hx8) ?_; clear hK K; (try simp only [Act.put, List.setIfInBounds_toArray, List.set_cons_zero, List.set_cons_succ]))
                    have hE8 := hE7.trans hx8
                    clear hx8
                    (refine walkR_only (fun w' => Ext wr w') rfl (by decide +kernel) rfl (fun _ h => h) ?_; intro K hK; go_simp; refine (HC4.out _ hE8).mono ?_; rintro e w9 ⟨rfl, hx9⟩; refine hK _ _ (hE8.trans hx9) ?_; clear hK K; (try simp only [Act.put, List.setIfInBounds_toArray, List.set_cons_zero, List.set_cons_succ]))
                    have hE9 := hE8.trans hx9
                    clear hx9
                    (repeat (first | (refine walkR_still (v := ?_) rfl (by decide +kernel) rfl (fun _ _ _ h => h) hE9 ?_ ?_; rotate_left; (focus (intro w' hw'; skip; go_simp; all_goals (with_reducible rfl))); simp only [Act.put, List.setIfInBounds_toArray, List.set_cons_zero, List.set_cons_succ]) | (refine walkR_skip rfl (by decide +kernel) rfl (fun _ _ _ h => h) hE9 ?_; simp only [Act.put, List.setIfInBounds_toArray, List.set_cons_zero, List.set_cons_succ])))
                    (refine walkR_tail (by rfl) (by kernel_rfl) ?_; simp only [List.drop_succ_cons, List.drop_zero])
                    go_wp2
                    go_roundw
                    case rel => exact ⟨j + 1, by omega, by go_num, by rw [HAS.out, HFJ.out], HXj.out.trans hE9⟩
                    case measure => simp [intOf]; omega
              · obtain rfl : j = n + 1 := by omega
                cases hfa : (List.range (n + 1)).all F
                · rw [hfa, Bool.false_and] at HBI
                  go_wp2
                  go_roundw
                  case rel =>
                    refine ⟨i + 1, by omega, by go_num, fun q hq => ?_, HXa⟩
                    rcases Nat.lt_succ_iff_lt_or_eq.1 hq with h3 | rfl
                    · exact HJ.out q h3
                    · exact HBI.out
                  case measure => simp [intOf]; omega
                · rw [hfa, Bool.true_and] at HBI
                  have HCA := HC.out.below HXa.out
                  obtain ⟨f0, f1⟩ := HCA
                  obtain ⟨g0, g1⟩ := HD.out.below HXa.out
                  have HR := hidP (HI.out nx ac ad a5 (some ⟨b, o, none⟩) cc cd (n + 1) c c5 wr (H1.out.below HXa.out) (H2.out.below HXa.out) (H3.out.below HXa.out) (HO5.out.below HXj.out).ints HO5.out.nil_cap (by have := HN6.out; omega) HNr.out)
                  generalize hsb : searchB rows dr (rowChk xs r due dr) f nx = sb at *
                  cases sb
                  · go_wp2_with fail
                    refine HR.out.mono ?_
                    rintro e w6 ⟨rfl, hx6⟩
                    go_wp2
                    go_roundw
                    case rel =>
                      refine ⟨i + 1, by omega, by go_num, fun q hq => ?_, HXa.out.trans hx6⟩
                      rcases Nat.lt_succ_iff_lt_or_eq.1 hq with h3 | rfl
                      · exact HJ.out q h3
                      · exact HBI.out
                    case measure => simp [intOf]; omega
                  · have HE : Hid (((List.range dr).any fun q => B (rows.getD q 0)) = true) := by
                      show _ = _
                      rw [List.any_eq_true]
                      exact ⟨i, List.mem_range.2 hlt, HBI.out⟩
                    go_wp2_with fail
                    refine HR.out.mono ?_
                    rintro e w6 ⟨rfl, hx6⟩
                    go_wp2
                    go_ret
                    exact ⟨ret_bool HE.out.symm, (hx.out.trans HXa.out).trans hx6⟩
      · obtain rfl : i = dr := by omega
        have HE : Hid (((List.range i).any fun q => B (rows.getD q 0)) = false) := by
          show _ = _
          rw [List.any_eq_false]
          intro q hq
          rw [HJ.out q (List.mem_range.1 hq)]
          simp
        go_wp2
        go_ret
        exact ⟨ret_bool HE.out.symm, hx.out.trans HX.out⟩
end Go.Proofs.YtfikkfbnlegflaaGreatDoor

namespace Go.Proofs.YtfikkfbnlegflaaGreatDoor
open Go.RowKit

def chainO (n : Nat) (d4 : Bool) : Nat → List Int
  | 0 => List.replicate (n * n) 0
  | i + 1 => if decide (i + 1 < n) && !d4 then (((chainO n d4 i).set (i * n + i) 2).set (i * n + i + 1) (-1)).set ((i + 1) * n + i) (-1) else (chainO n d4 i).set (i * n + i) 2
def dChain : Nat → List Int
  | 0 => chainO 4 true 4
  | k + 1 => if k = 1 then dChain k else ((dChain k).set (4 + k) (-1)).set (k * 4 + 1) (-1)
def letterO (k : Nat) : Nat := if k < 4 then 65 else if k < 7 then 66 else if k < 9 then 67 else if k = 9 then 68 else if k = 10 then 70 else 71
theorem name_letter (k : Nat) (hk : k < 12) (s : ByteArray) (hs : s = nameS.getD k ByteArray.empty) (h : 0 < s.size) : s[0].toNat = letterO k := by
  have key : ∀ k, k < 12 → ((nameS.getD k ByteArray.empty).data[0]?.getD 0).toNat = letterO k := by decide +kernel
  have := key k hk
  rw [← hs] at this
  rw [← this]
  have h3 : 0 < s.data.size := h
  rw [Array.getElem?_eq_getElem h3]
  rfl
/-- a place of an owned row, behind changes -/
theorem UpdI.place {w0 w : World} {B g m c : Nat} {xs ys : List Int} (h : UpdI w0 w (some ⟨g, 0, none⟩) m ys) (h0 : OwnI w0 B (some ⟨g, 0, none⟩) m c xs) {i : Nat} (hi : i < m) :
    w.cell? ⟨g, i, none⟩ = some (.int .i64 (ys.getD i 0)) ∧ w.frozen? ⟨g, i, none⟩ = false := by
  obtain ⟨y0, y1⟩ := h.cellInt i hi
  have y2 := h0.unfrozen i g 0 hi rfl
  rw [Nat.zero_add] at y0 y1 y2
  exact ⟨y0, y1.trans y2⟩
theorem UpdI.put {w0 w : World} {g m : Nat} {ys : List Int} (h : UpdI w0 w (some ⟨g, 0, none⟩) m ys) {i : Nat} (hi : i < m) (v : Int) : UpdI w0 (w.setCell ⟨g, i, none⟩ (.int .i64 v)) (some ⟨g, 0, none⟩) m (ys.set i v) := by
  have := h.store i hi v
  rwa [Nat.zero_add] at this
set_option maxRecDepth 100000 in
set_option maxHeartbeats 4000000 in
theorem l5One_any (k : Nat) (hk : k < 12) (s : ByteArray) (hs : s = nameS.getD k ByteArray.empty) (w : World) :
    Calls Tryz.prog 107 #[.string s] w fun e w' => ∃ a, e = .returned (carV (pRank k) a (pRank k * pRank k) (pRank k * pRank k)) ∧ OwnI w' w.heap.size a (pRank k * pRank k) (pRank k * pRank k) (pMat k) ∧ Ext w w' := by
  have h2 := name_size k hk s hs
  have h2' : 1 < s.size := by omega
  have h20 : 0 < s.size := by omega
  obtain ⟨hn1, hn4⟩ := pRank_pos k hk
  have hb := name_rank k hk s hs h2'
  have hl0 := name_letter k hk s hs h20
  obtain ⟨d4, hd4⟩ : ∃ d, d = (k == 9) := ⟨_, rfl⟩
  have hD : (letterO k == 68) = d4 := by
    have key : ∀ k, k < 12 → (letterO k == 68) = (k == 9) := by decide
    rw [hd4]
    exact key k hk
  generalize hnk : pRank k = n at *
  have HK := hidP hnk
  have HK4 := hidP hd4
  obtain ⟨L, hL⟩ : ∃ L, L = letterO k := ⟨_, rfl⟩
  rw [← hL] at hl0 hD
  have HL := hidP hL
  have hnn : (n : Int) * n ≤ 16 := by
    have := Nat.mul_le_mul hn4 hn4
    have h : ((n * n : Nat) : Int) ≤ ((4 * 4 : Nat) : Int) := by exact_mod_cast this
    rw [Int.natCast_mul] at h
    exact h
  have hnn0 : 0 ≤ (n : Int) * n := Int.mul_nonneg (by omega) (by omega)
  have hmk := make_ints ((n : Int) * n) hnn0 (by omega)
  have hmn : ((n : Int) * n).toNat = n * n := by rw [← Int.natCast_mul]; rfl
  rw [hmn] at hmk
  have hD1 : ((L : Int) == 68) = d4 := by
    rw [← hD, Bool.eq_iff_iff, beq_iff_eq, beq_iff_eq]
    omega
  have HD1 := hidP hD1
  clear hmn hs hD hnk hd4 hL hD1 h2
  go_enter Tryz.func107, Tryz.ntmps107
  go_wp2
  have hm0 := OwnI.made (w.alloc (.cells #[.int .i64 0, .slice none 0 0] 31)) (w.heap.size + 1) (n * n) (by simp) (by unfold maxLen; omega)
  have hx1 := Ext.alloc (w.alloc (.cells #[.int .i64 0, .slice none 0 0] 31)) (.cells (Array.replicate (n * n) (.int .i64 0)) 3)
  have hx2 := Ext.alloc ((w.alloc (.cells #[.int .i64 0, .slice none 0 0] 31)).alloc (.cells (Array.replicate (n * n) (.int .i64 0)) 3)) (.cells #[.int .i64 n, .slice (some ⟨w.heap.size + 1, 0, none⟩) (n * n) (n * n)] 31)
  have hca := CarAt.new ((w.alloc (.cells #[.int .i64 0, .slice none 0 0] 31)).alloc (.cells (Array.replicate (n * n) (.int .i64 0)) 3)) (w.heap.size + 1 + 1) (by simp) n (some ⟨w.heap.size + 1, 0, none⟩) (n * n) (n * n) 31
  have hr0 := new_cell (w := w) (b := w.heap.size) rfl (hx1.trans hx2) 0
  have hr1 := new_cell (w := w) (b := w.heap.size) rfl (hx1.trans hx2) 1
  rw [show (w.alloc (.cells #[.int .i64 0, .slice none 0 0] 31)).heap.size = w.heap.size + 1 by simp] at hm0
  have hX : Ext w (((w.alloc (.cells #[.int .i64 0, .slice none 0 0] 31)).alloc (.cells (Array.replicate (n * n) (.int .i64 0)) 3)).alloc (.cells #[.int .i64 n, .slice (some ⟨w.heap.size + 1, 0, none⟩) (n * n) (n * n)] 31)) := (Ext.alloc w _).trans (hx1.trans hx2)
  have hm := hm0.below hx2
  obtain ⟨w1, hw1⟩ : ∃ w1, w1 = ((w.alloc (.cells #[.int .i64 0, .slice none 0 0] 31)).alloc (.cells (Array.replicate (n * n) (.int .i64 0)) 3)).alloc (.cells #[.int .i64 n, .slice (some ⟨w.heap.size + 1, 0, none⟩) (n * n) (n * n)] 31) := ⟨_, rfl⟩
  obtain ⟨g, hg⟩ : ∃ g, g = w.heap.size + 1 := ⟨_, rfl⟩
  obtain ⟨b4, hb4⟩ : ∃ b, b = w.heap.size + 1 + 1 := ⟨_, rfl⟩
  rw [← hw1] at hm hca hr0 hr1 hX ⊢
  rw [← hb4] at hca ⊢
  rw [← hg] at hm hca ⊢
  have n4 : b4 ≠ g := by omega
  have nw : w.heap.size ≠ g := by omega
  have HM := hidP hm
  have HC := hidP hca
  have HX := hidP hX
  have hr0' : w1.cell? ⟨w.heap.size, 0, none⟩ = some (.int .i64 0) := hr0.1
  have hr1' : w1.cell? ⟨w.heap.size, 1, none⟩ = some (.slice none 0 0) := hr1.1
  have HR : Hid (w1.cell? ⟨w.heap.size, 0, none⟩ = some (.int .i64 0) ∧ w1.cell? ⟨w.heap.size, 1, none⟩ = some (.slice none 0 0) ∧ w1.frozen? ⟨w.heap.size, 0, none⟩ = false ∧ w1.frozen? ⟨w.heap.size, 1, none⟩ = false) := ⟨hr0', hr1', hr0.2, hr1.2⟩
  have HU0 := hidP (UpdI.start hm.ints)
  have hlw : w.heap.size < w1.heap.size := World.block_lt_of_cell? w1 _ hr0'
  have HGW : Hid (w.heap.size ≤ g) := by show _ ≤ _; omega
  clear hw1 hg hb4 hm0 hx1 hx2 hr0 hr1 hr0' hr1' hX hm hca
  go_loopw [5] (fun t wr => ∃ i : Nat, i ≤ n ∧ t = .int .i64 i ∧ Hid (UpdI w1 wr (some ⟨g, 0, none⟩) (n * n) (chainO n d4 i))) (fun t _ => n - (intOf t).toNat)
  case atStart => exact ⟨0, Nat.zero_le _, rfl, HU0⟩
  case round =>
    clear HU0
    obtain ⟨i, hi, rfl, HU⟩ := hrel
    obtain ⟨c0, c1⟩ := HC.out
    have f1 := HU.out.far c1 n4
    by_cases hlt : i < n
    · have p1 : i * n + i < n * n := by
        have : (i + 1) * n ≤ n * n := Nat.mul_le_mul_right _ hlt
        rw [Nat.add_mul, Nat.one_mul] at this
        omega
      obtain ⟨y0, y1⟩ := HU.out.place HM.out p1
      have hu1 := HU.out.put p1 2
      have g1 := hu1.far c1 n4
      have P1 := hidP (placeF hn4 hlt hlt)
      obtain ⟨k1, k2, k3, k4, k5⟩ := P1.out
      by_cases hq : i + 1 < n
      · have hq' : (i : Int) + 1 < n := by omega
        cases d4
        · have p2 : i * n + i + 1 < n * n := by
            have : (i + 1) * n ≤ n * n := Nat.mul_le_mul_right _ hlt
            rw [Nat.add_mul, Nat.one_mul] at this
            omega
          have p3 : (i + 1) * n + i < n * n := by
            have : (i + 2) * n ≤ n * n := Nat.mul_le_mul_right _ (by omega)
            rw [Nat.add_mul] at this ⊢
            omega
          obtain ⟨y2, y3⟩ := hu1.place HM.out p2
          have hu2 := hu1.put p2 (-1)
          have g2 := hu2.far c1 n4
          obtain ⟨y4, y5⟩ := hu2.place HM.out p3
          have hu3 := hu2.put p3 (-1)
          have HE : Hid (chainO n false (i + 1) = (((chainO n false i).set (i * n + i) 2).set (i * n + i + 1) (-1)).set ((i + 1) * n + i) (-1)) := by
            show _ = _
            rw [chainO, if_pos (by simp [hq])]
          rw [← HE.out] at hu3
          have HU3 := hidP hu3
          have hd := HD1.out
          obtain ⟨l1, l2, l3, l4, l5⟩ := placeF (i := i + 1) (j := i) hn4 hq hlt
          simp only [Int.natCast_add, Int.cast_ofNat_Int] at l1 l2 l3 l4 l5
          clear hu1 hu2 hu3 c0 c1
          go_wp2
          go_roundw
          case rel => exact ⟨i + 1, by omega, by go_num, HU3⟩
          case measure => simp [intOf]; omega
        · have HE : Hid (chainO n true (i + 1) = (chainO n true i).set (i * n + i) 2) := by
            show _ = _
            rw [chainO, if_neg (by simp)]
          rw [← HE.out] at hu1
          have HU1 := hidP hu1
          have hd := HD1.out
          clear hu1 c0 c1
          go_wp2
          go_roundw
          case rel => exact ⟨i + 1, by omega, by go_num, HU1⟩
          case measure => simp [intOf]; omega
      · have hq' : ¬ (i : Int) + 1 < n := by omega
        have HE : Hid (chainO n d4 (i + 1) = (chainO n d4 i).set (i * n + i) 2) := by
          show _ = _
          rw [chainO, if_neg (by simp [hq])]
        rw [← HE.out] at hu1
        have HU1 := hidP hu1
        clear hu1 c0 c1
        go_wp2
        go_roundw
        case rel => exact ⟨i + 1, by omega, by go_num, HU1⟩
        case measure => simp [intOf]; omega
    · obtain rfl : i = n := by omega
      have hcase : k = 0 ∨ k = 1 ∨ k = 2 ∨ k = 3 ∨ k = 4 ∨ k = 5 ∨ k = 6 ∨ k = 7 ∨ k = 8 ∨ k = 9 ∨ k = 10 ∨ k = 11 := by omega
      rcases hcase with rfl | rfl | rfl | rfl | rfl | rfl | rfl | rfl | rfl | rfl | rfl | rfl
      · obtain rfl : i = 1 := HK.out.symm
        obtain rfl : L = 65 := HL.out
        obtain rfl : d4 = false := HK4.out
        have HUF : Hid (UpdI w1 wr (some ⟨g, 0, none⟩) 1 (pMat 0)) := by
          have h : chainO 1 false 1 = pMat 0 := by decide
          rw [← h]
          exact HU
        obtain ⟨e0, e1⟩ := HC.out
        have t0 := HUF.out.far e0 n4
        have t1 := HUF.out.far e1 n4
        obtain ⟨r0, r1, r2, r3⟩ := HR.out
        have o0 := HUF.out.far r0 nw
        have o1 := HUF.out.far r1 nw
        have o2 := (HUF.out.farF hlw nw).trans r2
        have o3 := (HUF.out.farF hlw nw).trans r3
        have o4 : w.heap.size < wr.heap.size := Nat.lt_of_lt_of_le hlw HUF.out.size
        have HEnd : Hid (OwnI ((wr.setCell ⟨w.heap.size, 0, none⟩ (.int .i64 1)).setCell ⟨w.heap.size, 1, none⟩ (.slice (some ⟨g, 0, none⟩) 1 1)) w.heap.size (some ⟨g, 0, none⟩) 1 1 (pMat 0) ∧ Ext w ((wr.setCell ⟨w.heap.size, 0, none⟩ (.int .i64 1)).setCell ⟨w.heap.size, 1, none⟩ (.slice (some ⟨g, 0, none⟩) 1 1))) := by
          refine ⟨?_, ?_⟩
          · exact ((((HUF.out.own HM.out).base HGW.out).setFar _ 0 _ (Ne.symm nw)).setFar _ 1 _ (Ne.symm nw))
          · have h : Ext w wr := HUF.out.below HX.out HX.out.size fun b o e _ => by cases e; exact HGW.out
            exact (h.setNew _ _ (Nat.le_refl _) _).setNew _ _ (Nat.le_refl _) _
        clear e0 e1 r0 r1 r2 r3
        go_wp2
        refine bodyPost_ret (v := carV 1 (some ⟨g, 0, none⟩) 1 1) (by simp [results, Tryz.results107, go_sem, o0, o1]) rfl ⟨some ⟨g, 0, none⟩, rfl, ?_, ?_⟩
        · exact HEnd.out.1
        · exact HEnd.out.2
      · obtain rfl : i = 2 := HK.out.symm
        obtain rfl : L = 65 := HL.out
        obtain rfl : d4 = false := HK4.out
        have HUF : Hid (UpdI w1 wr (some ⟨g, 0, none⟩) 4 (pMat 1)) := by
          have h : chainO 2 false 2 = pMat 1 := by decide
          rw [← h]
          exact HU
        obtain ⟨e0, e1⟩ := HC.out
        have t0 := HUF.out.far e0 n4
        have t1 := HUF.out.far e1 n4
        obtain ⟨r0, r1, r2, r3⟩ := HR.out
        have o0 := HUF.out.far r0 nw
        have o1 := HUF.out.far r1 nw
        have o2 := (HUF.out.farF hlw nw).trans r2
        have o3 := (HUF.out.farF hlw nw).trans r3
        have o4 : w.heap.size < wr.heap.size := Nat.lt_of_lt_of_le hlw HUF.out.size
        have HEnd : Hid (OwnI ((wr.setCell ⟨w.heap.size, 0, none⟩ (.int .i64 2)).setCell ⟨w.heap.size, 1, none⟩ (.slice (some ⟨g, 0, none⟩) 4 4)) w.heap.size (some ⟨g, 0, none⟩) 4 4 (pMat 1) ∧ Ext w ((wr.setCell ⟨w.heap.size, 0, none⟩ (.int .i64 2)).setCell ⟨w.heap.size, 1, none⟩ (.slice (some ⟨g, 0, none⟩) 4 4))) := by
          refine ⟨?_, ?_⟩
          · exact ((((HUF.out.own HM.out).base HGW.out).setFar _ 0 _ (Ne.symm nw)).setFar _ 1 _ (Ne.symm nw))
          · have h : Ext w wr := HUF.out.below HX.out HX.out.size fun b o e _ => by cases e; exact HGW.out
            exact (h.setNew _ _ (Nat.le_refl _) _).setNew _ _ (Nat.le_refl _) _
        clear e0 e1 r0 r1 r2 r3
        go_wp2
        refine bodyPost_ret (v := carV 2 (some ⟨g, 0, none⟩) 4 4) (by simp [results, Tryz.results107, go_sem, o0, o1]) rfl ⟨some ⟨g, 0, none⟩, rfl, ?_, ?_⟩
        · exact HEnd.out.1
        · exact HEnd.out.2
      · obtain rfl : i = 3 := HK.out.symm
        obtain rfl : L = 65 := HL.out
        obtain rfl : d4 = false := HK4.out
        have HUF : Hid (UpdI w1 wr (some ⟨g, 0, none⟩) 9 (pMat 2)) := by
          have h : chainO 3 false 3 = pMat 2 := by decide
          rw [← h]
          exact HU
        obtain ⟨e0, e1⟩ := HC.out
        have t0 := HUF.out.far e0 n4
        have t1 := HUF.out.far e1 n4
        obtain ⟨r0, r1, r2, r3⟩ := HR.out
        have o0 := HUF.out.far r0 nw
        have o1 := HUF.out.far r1 nw
        have o2 := (HUF.out.farF hlw nw).trans r2
        have o3 := (HUF.out.farF hlw nw).trans r3
        have o4 : w.heap.size < wr.heap.size := Nat.lt_of_lt_of_le hlw HUF.out.size
        have HEnd : Hid (OwnI ((wr.setCell ⟨w.heap.size, 0, none⟩ (.int .i64 3)).setCell ⟨w.heap.size, 1, none⟩ (.slice (some ⟨g, 0, none⟩) 9 9)) w.heap.size (some ⟨g, 0, none⟩) 9 9 (pMat 2) ∧ Ext w ((wr.setCell ⟨w.heap.size, 0, none⟩ (.int .i64 3)).setCell ⟨w.heap.size, 1, none⟩ (.slice (some ⟨g, 0, none⟩) 9 9))) := by
          refine ⟨?_, ?_⟩
          · exact ((((HUF.out.own HM.out).base HGW.out).setFar _ 0 _ (Ne.symm nw)).setFar _ 1 _ (Ne.symm nw))
          · have h : Ext w wr := HUF.out.below HX.out HX.out.size fun b o e _ => by cases e; exact HGW.out
            exact (h.setNew _ _ (Nat.le_refl _) _).setNew _ _ (Nat.le_refl _) _
        clear e0 e1 r0 r1 r2 r3
        go_wp2
        refine bodyPost_ret (v := carV 3 (some ⟨g, 0, none⟩) 9 9) (by simp [results, Tryz.results107, go_sem, o0, o1]) rfl ⟨some ⟨g, 0, none⟩, rfl, ?_, ?_⟩
        · exact HEnd.out.1
        · exact HEnd.out.2
      · obtain rfl : i = 4 := HK.out.symm
        obtain rfl : L = 65 := HL.out
        obtain rfl : d4 = false := HK4.out
        have HUF : Hid (UpdI w1 wr (some ⟨g, 0, none⟩) 16 (pMat 3)) := by
          have h : chainO 4 false 4 = pMat 3 := by decide
          rw [← h]
          exact HU
        obtain ⟨e0, e1⟩ := HC.out
        have t0 := HUF.out.far e0 n4
        have t1 := HUF.out.far e1 n4
        obtain ⟨r0, r1, r2, r3⟩ := HR.out
        have o0 := HUF.out.far r0 nw
        have o1 := HUF.out.far r1 nw
        have o2 := (HUF.out.farF hlw nw).trans r2
        have o3 := (HUF.out.farF hlw nw).trans r3
        have o4 : w.heap.size < wr.heap.size := Nat.lt_of_lt_of_le hlw HUF.out.size
        have HEnd : Hid (OwnI ((wr.setCell ⟨w.heap.size, 0, none⟩ (.int .i64 4)).setCell ⟨w.heap.size, 1, none⟩ (.slice (some ⟨g, 0, none⟩) 16 16)) w.heap.size (some ⟨g, 0, none⟩) 16 16 (pMat 3) ∧ Ext w ((wr.setCell ⟨w.heap.size, 0, none⟩ (.int .i64 4)).setCell ⟨w.heap.size, 1, none⟩ (.slice (some ⟨g, 0, none⟩) 16 16))) := by
          refine ⟨?_, ?_⟩
          · exact ((((HUF.out.own HM.out).base HGW.out).setFar _ 0 _ (Ne.symm nw)).setFar _ 1 _ (Ne.symm nw))
          · have h : Ext w wr := HUF.out.below HX.out HX.out.size fun b o e _ => by cases e; exact HGW.out
            exact (h.setNew _ _ (Nat.le_refl _) _).setNew _ _ (Nat.le_refl _) _
        clear e0 e1 r0 r1 r2 r3
        go_wp2
        refine bodyPost_ret (v := carV 4 (some ⟨g, 0, none⟩) 16 16) (by simp [results, Tryz.results107, go_sem, o0, o1]) rfl ⟨some ⟨g, 0, none⟩, rfl, ?_, ?_⟩
        · exact HEnd.out.1
        · exact HEnd.out.2
      · obtain rfl : i = 2 := HK.out.symm
        obtain rfl : L = 66 := HL.out
        obtain rfl : d4 = false := HK4.out
        obtain ⟨c0, c1⟩ := HC.out
        have f1 := HU.out.far c1 n4
        obtain ⟨y0, y1⟩ := HU.out.place HM.out (show 2 < 4 by omega)
        have hu1 := HU.out.put (show 2 < 4 by omega) (-2)
        have HUF : Hid (UpdI w1 (wr.setCell ⟨g, 2, none⟩ (.int .i64 (-2))) (some ⟨g, 0, none⟩) 4 (pMat 4)) := by
          have h : (chainO 2 false 2).set 2 (-2) = pMat 4 := by decide
          rw [← h]
          exact hu1
        clear c0 c1 hu1
        obtain ⟨e0, e1⟩ := HC.out
        have t0 := HUF.out.far e0 n4
        have t1 := HUF.out.far e1 n4
        obtain ⟨r0, r1, r2, r3⟩ := HR.out
        have o0 := HUF.out.far r0 nw
        have o1 := HUF.out.far r1 nw
        have o2 := (HUF.out.farF hlw nw).trans r2
        have o3 := (HUF.out.farF hlw nw).trans r3
        have o4 : w.heap.size < (wr.setCell ⟨g, 2, none⟩ (.int .i64 (-2))).heap.size := Nat.lt_of_lt_of_le hlw HUF.out.size
        have HEnd : Hid (OwnI (((wr.setCell ⟨g, 2, none⟩ (.int .i64 (-2))).setCell ⟨w.heap.size, 0, none⟩ (.int .i64 2)).setCell ⟨w.heap.size, 1, none⟩ (.slice (some ⟨g, 0, none⟩) 4 4)) w.heap.size (some ⟨g, 0, none⟩) 4 4 (pMat 4) ∧ Ext w (((wr.setCell ⟨g, 2, none⟩ (.int .i64 (-2))).setCell ⟨w.heap.size, 0, none⟩ (.int .i64 2)).setCell ⟨w.heap.size, 1, none⟩ (.slice (some ⟨g, 0, none⟩) 4 4))) := by
          refine ⟨?_, ?_⟩
          · exact ((((HUF.out.own HM.out).base HGW.out).setFar _ 0 _ (Ne.symm nw)).setFar _ 1 _ (Ne.symm nw))
          · have h : Ext w (wr.setCell ⟨g, 2, none⟩ (.int .i64 (-2))) := HUF.out.below HX.out HX.out.size fun b o e _ => by cases e; exact HGW.out
            exact (h.setNew _ _ (Nat.le_refl _) _).setNew _ _ (Nat.le_refl _) _
        clear e0 e1 r0 r1 r2 r3
        go_wp2
        refine bodyPost_ret (v := carV 2 (some ⟨g, 0, none⟩) 4 4) (by simp [results, Tryz.results107, go_sem, o0, o1]) rfl ⟨some ⟨g, 0, none⟩, rfl, ?_, ?_⟩
        · exact HEnd.out.1
        · exact HEnd.out.2
      · obtain rfl : i = 3 := HK.out.symm
        obtain rfl : L = 66 := HL.out
        obtain rfl : d4 = false := HK4.out
        obtain ⟨c0, c1⟩ := HC.out
        have f1 := HU.out.far c1 n4
        obtain ⟨y0, y1⟩ := HU.out.place HM.out (show 7 < 9 by omega)
        have hu1 := HU.out.put (show 7 < 9 by omega) (-2)
        have HUF : Hid (UpdI w1 (wr.setCell ⟨g, 7, none⟩ (.int .i64 (-2))) (some ⟨g, 0, none⟩) 9 (pMat 5)) := by
          have h : (chainO 3 false 3).set 7 (-2) = pMat 5 := by decide
          rw [← h]
          exact hu1
        clear c0 c1 hu1
        obtain ⟨e0, e1⟩ := HC.out
        have t0 := HUF.out.far e0 n4
        have t1 := HUF.out.far e1 n4
        obtain ⟨r0, r1, r2, r3⟩ := HR.out
        have o0 := HUF.out.far r0 nw
        have o1 := HUF.out.far r1 nw
        have o2 := (HUF.out.farF hlw nw).trans r2
        have o3 := (HUF.out.farF hlw nw).trans r3
        have o4 : w.heap.size < (wr.setCell ⟨g, 7, none⟩ (.int .i64 (-2))).heap.size := Nat.lt_of_lt_of_le hlw HUF.out.size
        have HEnd : Hid (OwnI (((wr.setCell ⟨g, 7, none⟩ (.int .i64 (-2))).setCell ⟨w.heap.size, 0, none⟩ (.int .i64 3)).setCell ⟨w.heap.size, 1, none⟩ (.slice (some ⟨g, 0, none⟩) 9 9)) w.heap.size (some ⟨g, 0, none⟩) 9 9 (pMat 5) ∧ Ext w (((wr.setCell ⟨g, 7, none⟩ (.int .i64 (-2))).setCell ⟨w.heap.size, 0, none⟩ (.int .i64 3)).setCell ⟨w.heap.size, 1, none⟩ (.slice (some ⟨g, 0, none⟩) 9 9))) := by
          refine ⟨?_, ?_⟩
          · exact ((((HUF.out.own HM.out).base HGW.out).setFar _ 0 _ (Ne.symm nw)).setFar _ 1 _ (Ne.symm nw))
          · have h : Ext w (wr.setCell ⟨g, 7, none⟩ (.int .i64 (-2))) := HUF.out.below HX.out HX.out.size fun b o e _ => by cases e; exact HGW.out
            exact (h.setNew _ _ (Nat.le_refl _) _).setNew _ _ (Nat.le_refl _) _
        clear e0 e1 r0 r1 r2 r3
        go_wp2
        refine bodyPost_ret (v := carV 3 (some ⟨g, 0, none⟩) 9 9) (by simp [results, Tryz.results107, go_sem, o0, o1]) rfl ⟨some ⟨g, 0, none⟩, rfl, ?_, ?_⟩
        · exact HEnd.out.1
        · exact HEnd.out.2
      · obtain rfl : i = 4 := HK.out.symm
        obtain rfl : L = 66 := HL.out
        obtain rfl : d4 = false := HK4.out
        obtain ⟨c0, c1⟩ := HC.out
        have f1 := HU.out.far c1 n4
        obtain ⟨y0, y1⟩ := HU.out.place HM.out (show 14 < 16 by omega)
        have hu1 := HU.out.put (show 14 < 16 by omega) (-2)
        have HUF : Hid (UpdI w1 (wr.setCell ⟨g, 14, none⟩ (.int .i64 (-2))) (some ⟨g, 0, none⟩) 16 (pMat 6)) := by
          have h : (chainO 4 false 4).set 14 (-2) = pMat 6 := by decide
          rw [← h]
          exact hu1
        clear c0 c1 hu1
        obtain ⟨e0, e1⟩ := HC.out
        have t0 := HUF.out.far e0 n4
        have t1 := HUF.out.far e1 n4
        obtain ⟨r0, r1, r2, r3⟩ := HR.out
        have o0 := HUF.out.far r0 nw
        have o1 := HUF.out.far r1 nw
        have o2 := (HUF.out.farF hlw nw).trans r2
        have o3 := (HUF.out.farF hlw nw).trans r3
        have o4 : w.heap.size < (wr.setCell ⟨g, 14, none⟩ (.int .i64 (-2))).heap.size := Nat.lt_of_lt_of_le hlw HUF.out.size
        have HEnd : Hid (OwnI (((wr.setCell ⟨g, 14, none⟩ (.int .i64 (-2))).setCell ⟨w.heap.size, 0, none⟩ (.int .i64 4)).setCell ⟨w.heap.size, 1, none⟩ (.slice (some ⟨g, 0, none⟩) 16 16)) w.heap.size (some ⟨g, 0, none⟩) 16 16 (pMat 6) ∧ Ext w (((wr.setCell ⟨g, 14, none⟩ (.int .i64 (-2))).setCell ⟨w.heap.size, 0, none⟩ (.int .i64 4)).setCell ⟨w.heap.size, 1, none⟩ (.slice (some ⟨g, 0, none⟩) 16 16))) := by
          refine ⟨?_, ?_⟩
          · exact ((((HUF.out.own HM.out).base HGW.out).setFar _ 0 _ (Ne.symm nw)).setFar _ 1 _ (Ne.symm nw))
          · have h : Ext w (wr.setCell ⟨g, 14, none⟩ (.int .i64 (-2))) := HUF.out.below HX.out HX.out.size fun b o e _ => by cases e; exact HGW.out
            exact (h.setNew _ _ (Nat.le_refl _) _).setNew _ _ (Nat.le_refl _) _
        clear e0 e1 r0 r1 r2 r3
        go_wp2
        refine bodyPost_ret (v := carV 4 (some ⟨g, 0, none⟩) 16 16) (by simp [results, Tryz.results107, go_sem, o0, o1]) rfl ⟨some ⟨g, 0, none⟩, rfl, ?_, ?_⟩
        · exact HEnd.out.1
        · exact HEnd.out.2
      · obtain rfl : i = 3 := HK.out.symm
        obtain rfl : L = 67 := HL.out
        obtain rfl : d4 = false := HK4.out
        obtain ⟨c0, c1⟩ := HC.out
        have f1 := HU.out.far c1 n4
        obtain ⟨y0, y1⟩ := HU.out.place HM.out (show 5 < 9 by omega)
        have hu1 := HU.out.put (show 5 < 9 by omega) (-2)
        have HUF : Hid (UpdI w1 (wr.setCell ⟨g, 5, none⟩ (.int .i64 (-2))) (some ⟨g, 0, none⟩) 9 (pMat 7)) := by
          have h : (chainO 3 false 3).set 5 (-2) = pMat 7 := by decide
          rw [← h]
          exact hu1
        clear c0 c1 hu1
        obtain ⟨e0, e1⟩ := HC.out
        have t0 := HUF.out.far e0 n4
        have t1 := HUF.out.far e1 n4
        obtain ⟨r0, r1, r2, r3⟩ := HR.out
        have o0 := HUF.out.far r0 nw
        have o1 := HUF.out.far r1 nw
        have o2 := (HUF.out.farF hlw nw).trans r2
        have o3 := (HUF.out.farF hlw nw).trans r3
        have o4 : w.heap.size < (wr.setCell ⟨g, 5, none⟩ (.int .i64 (-2))).heap.size := Nat.lt_of_lt_of_le hlw HUF.out.size
        have HEnd : Hid (OwnI (((wr.setCell ⟨g, 5, none⟩ (.int .i64 (-2))).setCell ⟨w.heap.size, 0, none⟩ (.int .i64 3)).setCell ⟨w.heap.size, 1, none⟩ (.slice (some ⟨g, 0, none⟩) 9 9)) w.heap.size (some ⟨g, 0, none⟩) 9 9 (pMat 7) ∧ Ext w (((wr.setCell ⟨g, 5, none⟩ (.int .i64 (-2))).setCell ⟨w.heap.size, 0, none⟩ (.int .i64 3)).setCell ⟨w.heap.size, 1, none⟩ (.slice (some ⟨g, 0, none⟩) 9 9))) := by
          refine ⟨?_, ?_⟩
          · exact ((((HUF.out.own HM.out).base HGW.out).setFar _ 0 _ (Ne.symm nw)).setFar _ 1 _ (Ne.symm nw))
          · have h : Ext w (wr.setCell ⟨g, 5, none⟩ (.int .i64 (-2))) := HUF.out.below HX.out HX.out.size fun b o e _ => by cases e; exact HGW.out
            exact (h.setNew _ _ (Nat.le_refl _) _).setNew _ _ (Nat.le_refl _) _
        clear e0 e1 r0 r1 r2 r3
        go_wp2
        refine bodyPost_ret (v := carV 3 (some ⟨g, 0, none⟩) 9 9) (by simp [results, Tryz.results107, go_sem, o0, o1]) rfl ⟨some ⟨g, 0, none⟩, rfl, ?_, ?_⟩
        · exact HEnd.out.1
        · exact HEnd.out.2
      · obtain rfl : i = 4 := HK.out.symm
        obtain rfl : L = 67 := HL.out
        obtain rfl : d4 = false := HK4.out
        obtain ⟨c0, c1⟩ := HC.out
        have f1 := HU.out.far c1 n4
        obtain ⟨y0, y1⟩ := HU.out.place HM.out (show 11 < 16 by omega)
        have hu1 := HU.out.put (show 11 < 16 by omega) (-2)
        have HUF : Hid (UpdI w1 (wr.setCell ⟨g, 11, none⟩ (.int .i64 (-2))) (some ⟨g, 0, none⟩) 16 (pMat 8)) := by
          have h : (chainO 4 false 4).set 11 (-2) = pMat 8 := by decide
          rw [← h]
          exact hu1
        clear c0 c1 hu1
        obtain ⟨e0, e1⟩ := HC.out
        have t0 := HUF.out.far e0 n4
        have t1 := HUF.out.far e1 n4
        obtain ⟨r0, r1, r2, r3⟩ := HR.out
        have o0 := HUF.out.far r0 nw
        have o1 := HUF.out.far r1 nw
        have o2 := (HUF.out.farF hlw nw).trans r2
        have o3 := (HUF.out.farF hlw nw).trans r3
        have o4 : w.heap.size < (wr.setCell ⟨g, 11, none⟩ (.int .i64 (-2))).heap.size := Nat.lt_of_lt_of_le hlw HUF.out.size
        have HEnd : Hid (OwnI (((wr.setCell ⟨g, 11, none⟩ (.int .i64 (-2))).setCell ⟨w.heap.size, 0, none⟩ (.int .i64 4)).setCell ⟨w.heap.size, 1, none⟩ (.slice (some ⟨g, 0, none⟩) 16 16)) w.heap.size (some ⟨g, 0, none⟩) 16 16 (pMat 8) ∧ Ext w (((wr.setCell ⟨g, 11, none⟩ (.int .i64 (-2))).setCell ⟨w.heap.size, 0, none⟩ (.int .i64 4)).setCell ⟨w.heap.size, 1, none⟩ (.slice (some ⟨g, 0, none⟩) 16 16))) := by
          refine ⟨?_, ?_⟩
          · exact ((((HUF.out.own HM.out).base HGW.out).setFar _ 0 _ (Ne.symm nw)).setFar _ 1 _ (Ne.symm nw))
          · have h : Ext w (wr.setCell ⟨g, 11, none⟩ (.int .i64 (-2))) := HUF.out.below HX.out HX.out.size fun b o e _ => by cases e; exact HGW.out
            exact (h.setNew _ _ (Nat.le_refl _) _).setNew _ _ (Nat.le_refl _) _
        clear e0 e1 r0 r1 r2 r3
        go_wp2
        refine bodyPost_ret (v := carV 4 (some ⟨g, 0, none⟩) 16 16) (by simp [results, Tryz.results107, go_sem, o0, o1]) rfl ⟨some ⟨g, 0, none⟩, rfl, ?_, ?_⟩
        · exact HEnd.out.1
        · exact HEnd.out.2
      · obtain rfl : i = 4 := HK.out.symm
        obtain rfl : L = 68 := HL.out
        obtain rfl : d4 = true := HK4.out
        obtain ⟨c0, c1⟩ := HC.out
        have f1 := HU.out.far c1 n4
        have f0 := HU.out.far c0 n4
        clear c0 c1
        go_wp2
        have HU0 : Hid (UpdI w1 wr (some ⟨g, 0, none⟩) 16 (dChain 0)) := HU.out
        clear HU f0 f1
        go_loopw [6] (fun t wr => ∃ j : Nat, j ≤ 4 ∧ t = .int .i64 j ∧ Hid (UpdI w1 wr (some ⟨g, 0, none⟩) 16 (dChain j))) (fun t _ => 4 - (intOf t).toNat)
        case atStart => exact ⟨0, Nat.zero_le _, rfl, HU0⟩
        case round =>
          clear HU0
          obtain ⟨j, hj, rfl, HU⟩ := hrel
          obtain ⟨c0, c1⟩ := HC.out
          have f1 := HU.out.far c1 n4
          have f0 := HU.out.far c0 n4
          by_cases hj4 : j < 4
          · by_cases hj1 : j = 1
            · subst hj1
              clear c0 c1
              go_wp2
              go_roundw
              case rel => exact ⟨2, by omega, by go_num, HU⟩
              case measure => simp [intOf]
            · have HE : Hid (dChain (j + 1) = ((dChain j).set (4 + j) (-1)).set (j * 4 + 1) (-1)) := by
                show _ = _
                rw [dChain, if_neg hj1]
              have p1 : 4 + j < 16 := by omega
              have p2 : j * 4 + 1 < 16 := by omega
              obtain ⟨y0, y1⟩ := HU.out.place HM.out p1
              have hu1 := HU.out.put p1 (-1)
              have g1 := hu1.far c1 n4
              obtain ⟨y2, y3⟩ := hu1.place HM.out p2
              have hu2 := hu1.put p2 (-1)
              rw [← HE.out] at hu2
              have HU2 := hidP hu2
              have hj1' : ((j : Int) != 1) = true := by simp; omega
              clear hu1 hu2 c0 c1 hj1
              go_wp2
              go_roundw
              case rel => exact ⟨j + 1, by omega, by go_num, HU2⟩
              case measure => simp [intOf]; omega
          · obtain rfl : j = 4 := by omega
            have HUF : Hid (UpdI w1 wr (some ⟨g, 0, none⟩) 16 (pMat 9)) := by
              have h : dChain 4 = pMat 9 := by decide
              rw [← h]
              exact HU
            clear HU f0 f1 c0 c1
            obtain ⟨e0, e1⟩ := HC.out
            have t0 := HUF.out.far e0 n4
            have t1 := HUF.out.far e1 n4
            obtain ⟨r0, r1, r2, r3⟩ := HR.out
            have o0 := HUF.out.far r0 nw
            have o1 := HUF.out.far r1 nw
            have o2 := (HUF.out.farF hlw nw).trans r2
            have o3 := (HUF.out.farF hlw nw).trans r3
            have o4 : w.heap.size < wr.heap.size := Nat.lt_of_lt_of_le hlw HUF.out.size
            have HEnd : Hid (OwnI ((wr.setCell ⟨w.heap.size, 0, none⟩ (.int .i64 4)).setCell ⟨w.heap.size, 1, none⟩ (.slice (some ⟨g, 0, none⟩) 16 16)) w.heap.size (some ⟨g, 0, none⟩) 16 16 (pMat 9) ∧ Ext w ((wr.setCell ⟨w.heap.size, 0, none⟩ (.int .i64 4)).setCell ⟨w.heap.size, 1, none⟩ (.slice (some ⟨g, 0, none⟩) 16 16))) := by
              refine ⟨?_, ?_⟩
              · exact ((((HUF.out.own HM.out).base HGW.out).setFar _ 0 _ (Ne.symm nw)).setFar _ 1 _ (Ne.symm nw))
              · have h : Ext w wr := HUF.out.below HX.out HX.out.size fun b o e _ => by cases e; exact HGW.out
                exact (h.setNew _ _ (Nat.le_refl _) _).setNew _ _ (Nat.le_refl _) _
            clear e0 e1 r0 r1 r2 r3
            go_wp2
            refine bodyPost_ret (v := carV 4 (some ⟨g, 0, none⟩) 16 16) (by simp [results, Tryz.results107, go_sem, o0, o1]) rfl ⟨some ⟨g, 0, none⟩, rfl, ?_, ?_⟩
            · exact HEnd.out.1
            · exact HEnd.out.2
      · obtain rfl : i = 4 := HK.out.symm
        obtain rfl : L = 70 := HL.out
        obtain rfl : d4 = false := HK4.out
        obtain ⟨c0, c1⟩ := HC.out
        have f1 := HU.out.far c1 n4
        obtain ⟨y0, y1⟩ := HU.out.place HM.out (show 9 < 16 by omega)
        have hu1 := HU.out.put (show 9 < 16 by omega) (-2)
        have HUF : Hid (UpdI w1 (wr.setCell ⟨g, 9, none⟩ (.int .i64 (-2))) (some ⟨g, 0, none⟩) 16 (pMat 10)) := by
          have h : (chainO 4 false 4).set 9 (-2) = pMat 10 := by decide
          rw [← h]
          exact hu1
        clear c0 c1 hu1
        obtain ⟨e0, e1⟩ := HC.out
        have t0 := HUF.out.far e0 n4
        have t1 := HUF.out.far e1 n4
        obtain ⟨r0, r1, r2, r3⟩ := HR.out
        have o0 := HUF.out.far r0 nw
        have o1 := HUF.out.far r1 nw
        have o2 := (HUF.out.farF hlw nw).trans r2
        have o3 := (HUF.out.farF hlw nw).trans r3
        have o4 : w.heap.size < (wr.setCell ⟨g, 9, none⟩ (.int .i64 (-2))).heap.size := Nat.lt_of_lt_of_le hlw HUF.out.size
        have HEnd : Hid (OwnI (((wr.setCell ⟨g, 9, none⟩ (.int .i64 (-2))).setCell ⟨w.heap.size, 0, none⟩ (.int .i64 4)).setCell ⟨w.heap.size, 1, none⟩ (.slice (some ⟨g, 0, none⟩) 16 16)) w.heap.size (some ⟨g, 0, none⟩) 16 16 (pMat 10) ∧ Ext w (((wr.setCell ⟨g, 9, none⟩ (.int .i64 (-2))).setCell ⟨w.heap.size, 0, none⟩ (.int .i64 4)).setCell ⟨w.heap.size, 1, none⟩ (.slice (some ⟨g, 0, none⟩) 16 16))) := by
          refine ⟨?_, ?_⟩
          · exact ((((HUF.out.own HM.out).base HGW.out).setFar _ 0 _ (Ne.symm nw)).setFar _ 1 _ (Ne.symm nw))
          · have h : Ext w (wr.setCell ⟨g, 9, none⟩ (.int .i64 (-2))) := HUF.out.below HX.out HX.out.size fun b o e _ => by cases e; exact HGW.out
            exact (h.setNew _ _ (Nat.le_refl _) _).setNew _ _ (Nat.le_refl _) _
        clear e0 e1 r0 r1 r2 r3
        go_wp2
        refine bodyPost_ret (v := carV 4 (some ⟨g, 0, none⟩) 16 16) (by simp [results, Tryz.results107, go_sem, o0, o1]) rfl ⟨some ⟨g, 0, none⟩, rfl, ?_, ?_⟩
        · exact HEnd.out.1
        · exact HEnd.out.2
      · obtain rfl : i = 2 := HK.out.symm
        obtain rfl : L = 71 := HL.out
        obtain rfl : d4 = false := HK4.out
        obtain ⟨c0, c1⟩ := HC.out
        have f1 := HU.out.far c1 n4
        obtain ⟨y0, y1⟩ := HU.out.place HM.out (show 1 < 4 by omega)
        have hu1 := HU.out.put (show 1 < 4 by omega) (-3)
        have HUF : Hid (UpdI w1 (wr.setCell ⟨g, 1, none⟩ (.int .i64 (-3))) (some ⟨g, 0, none⟩) 4 (pMat 11)) := by
          have h : (chainO 2 false 2).set 1 (-3) = pMat 11 := by decide
          rw [← h]
          exact hu1
        clear c0 c1 hu1
        obtain ⟨e0, e1⟩ := HC.out
        have t0 := HUF.out.far e0 n4
        have t1 := HUF.out.far e1 n4
        obtain ⟨r0, r1, r2, r3⟩ := HR.out
        have o0 := HUF.out.far r0 nw
        have o1 := HUF.out.far r1 nw
        have o2 := (HUF.out.farF hlw nw).trans r2
        have o3 := (HUF.out.farF hlw nw).trans r3
        have o4 : w.heap.size < (wr.setCell ⟨g, 1, none⟩ (.int .i64 (-3))).heap.size := Nat.lt_of_lt_of_le hlw HUF.out.size
        have HEnd : Hid (OwnI (((wr.setCell ⟨g, 1, none⟩ (.int .i64 (-3))).setCell ⟨w.heap.size, 0, none⟩ (.int .i64 2)).setCell ⟨w.heap.size, 1, none⟩ (.slice (some ⟨g, 0, none⟩) 4 4)) w.heap.size (some ⟨g, 0, none⟩) 4 4 (pMat 11) ∧ Ext w (((wr.setCell ⟨g, 1, none⟩ (.int .i64 (-3))).setCell ⟨w.heap.size, 0, none⟩ (.int .i64 2)).setCell ⟨w.heap.size, 1, none⟩ (.slice (some ⟨g, 0, none⟩) 4 4))) := by
          refine ⟨?_, ?_⟩
          · exact ((((HUF.out.own HM.out).base HGW.out).setFar _ 0 _ (Ne.symm nw)).setFar _ 1 _ (Ne.symm nw))
          · have h : Ext w (wr.setCell ⟨g, 1, none⟩ (.int .i64 (-3))) := HUF.out.below HX.out HX.out.size fun b o e _ => by cases e; exact HGW.out
            exact (h.setNew _ _ (Nat.le_refl _) _).setNew _ _ (Nat.le_refl _) _
        clear e0 e1 r0 r1 r2 r3
        go_wp2
        refine bodyPost_ret (v := carV 2 (some ⟨g, 0, none⟩) 4 4) (by simp [results, Tryz.results107, go_sem, o0, o1]) rfl ⟨some ⟨g, 0, none⟩, rfl, ?_, ?_⟩
        · exact HEnd.out.1
        · exact HEnd.out.2
end Go.Proofs.YtfikkfbnlegflaaGreatDoor

namespace Go.Proofs.YtfikkfbnlegflaaGreatDoor
open Go.RowKit

section
variable {P : Program} {ops : Array Oper} {Q : Exit → Act → World → Prop} {C : World → Prop} {n : Nat}

theorem walkR_three {i k j di dk dj : Nat} {oi ok oj : Oper} (P1 : Value → World → Prop) (P12 : Value → Value → World → Prop) (PJ : Value → World → Prop) (P1J : Value → Value → World → Prop) (R : Value → Value → Value → World → Prop)
    {rem : List (Nat × Oper)} {f : Nat} {listed : Array Bool} {a : Act} {w : World} (hi : ops[i]? = some oi) (hk : ops[k]? = some ok) (hj : ops[j]? = some oj)
    (hb : (decide (Region.ready .any ops listed = [i, j]) && decide (i < n) && decide (k < n) && decide (j < n) && decide (Region.ready .any ops (listed.setIfInBounds i true) = [k, j]) && decide (Region.ready .any ops ((listed.setIfInBounds i true).setIfInBounds k true) = [j])
      && decide (Region.ready .any ops ((listed.setIfInBounds i true).setIfInBounds j true) = [k]) && decide (Region.ready .any ops (listed.setIfInBounds j true) = [i]) && decide (Region.ready .any ops ((listed.setIfInBounds j true).setIfInBounds i true) = [k]) && decide (i ≠ j) && decide (k ≠ j)) = true)
    (_hdi : oi.dst = some di) (_hdk : ok.dst = some dk) (_hdj : oj.dst = some dj) (hd1 : di ≠ dj) (hd2 : dk ≠ dj)
    (hwi : ∀ a : Act, Region.wanted oi (yielded ops a.tmps) = true) (hwk : ∀ a : Act, Region.wanted ok (yielded ops a.tmps) = true) (hwj : ∀ a : Act, Region.wanted oj (yielded ops a.tmps) = true)
    (h1 : ∀ K : Act → World → Prop, (∀ v w', C w' → P1 v w' → K (a.put (some di) v) w') → oi.wp P a w K Q)
    (h12 : ∀ v w', C w' → P1 v w' → ∀ K : Act → World → Prop, (∀ u w'', C w'' → P12 v u w'' → K ((a.put (some di) v).put (some dk) u) w'') → ok.wp P (a.put (some di) v) w' K Q)
    (h12J : ∀ v u w', C w' → P12 v u w' → ∀ K : Act → World → Prop, (∀ z w'', C w'' → R v u z w'' → K (((a.put (some di) v).put (some dk) u).put (some dj) z) w'') → oj.wp P ((a.put (some di) v).put (some dk) u) w' K Q)
    (h1J : ∀ v w', C w' → P1 v w' → ∀ K : Act → World → Prop, (∀ z w'', C w'' → P1J v z w'' → K ((a.put (some di) v).put (some dj) z) w'') → oj.wp P (a.put (some di) v) w' K Q)
    (h1J2 : ∀ v z w', C w' → P1J v z w' → ∀ K : Act → World → Prop, (∀ u w'', C w'' → R v u z w'' → K (((a.put (some di) v).put (some dj) z).put (some dk) u) w'') → ok.wp P ((a.put (some di) v).put (some dj) z) w' K Q)
    (hJ : ∀ K : Act → World → Prop, (∀ z w', C w' → PJ z w' → K (a.put (some dj) z) w') → oj.wp P a w K Q)
    (hJ1 : ∀ z w', C w' → PJ z w' → ∀ K : Act → World → Prop, (∀ v w'', C w'' → P1J v z w'' → K ((a.put (some dj) z).put (some di) v) w'') → oi.wp P (a.put (some dj) z) w' K Q)
    (h : ∀ v u z w'', C w'' → R v u z w'' → WalkR P ops Q n C rem f (((listed.setIfInBounds i true).setIfInBounds k true).setIfInBounds j true) (((a.put (some di) v).put (some dk) u).put (some dj) z) w'') : WalkR P ops Q n C ((i, oi) :: (k, ok) :: (j, oj) :: rem) (f + 3) listed a w := by
  simp only [Bool.and_eq_true, decide_eq_true_eq] at hb
  obtain ⟨⟨⟨⟨⟨⟨⟨⟨⟨⟨hr, hin⟩, hkn⟩, hjn⟩, hr1⟩, hr12⟩, hr1J⟩, hrJ⟩, hrJ1⟩, hij⟩, hkj⟩ := hb
  -- i and j have come up
  have mid : ∀ v z w', C w' → P1J v z w' → WalkC P ops Q n C (f + 1) ((listed.setIfInBounds i true).setIfInBounds j true) ((a.put (some di) v).put (some dj) z) w' := by
    intro v z w' hc hp
    refine walkC_only C hk (by simp [hr1J, hkn]) (hwk _) (fun _ h => h) fun K hK => ?_
    refine h1J2 v z w' hc hp K fun u w'' hc' hR => hK _ _ hc' ?_
    have := h v u z w'' hc' hR
    rw [Act.put_comm _ hd2, Array.setIfInBounds_comm _ _ (Ne.symm hkj)]
    exact this
  refine walkC_split (f := f + 2) hi hj (by simp [hr, hin, hjn]) (hwi _) (hwj _) ?_ ?_
  · intro K hK
    refine h1 K fun v w' hc hp => hK _ _ hc ?_
    refine walkC_split (f := f + 1) hk hj (by simp [hr1, hkn, hjn]) (hwk _) (hwj _) ?_ ?_
    · intro K' hK'
      refine h12 v w' hc hp K' fun u w'' hc' hp' => hK' _ _ hc' ?_
      refine walkC_only C hj (by simp [hr12, hjn]) (hwj _) (fun _ h => h) fun K2 hK2 => ?_
      exact h12J v u w'' hc' hp' K2 fun z w3 hc3 hR => hK2 _ _ hc3 (h v u z w3 hc3 hR)
    · intro K' hK'
      exact h1J v w' hc hp K' fun z w'' hc' hp' => hK' _ _ hc' (mid v z w'' hc' hp')
  · intro K hK
    refine hJ K fun z w' hc hp => hK _ _ hc ?_
    refine walkC_only C hi (by simp [hrJ, hin]) (hwi _) (fun _ h => h) fun K' hK' => ?_
    refine hJ1 z w' hc hp K' fun v w'' hc' hp' => hK' _ _ hc' ?_
    have := mid v z w'' hc' hp'
    rw [Act.put_comm _ hd1, Array.setIfInBounds_comm _ _ (Ne.symm hij)]
    exact this
end

/-- the slice value at address a (n elements) reads as strings -/
structure StrsR (w : World) (a : Option Addr) (n : Nat) (ss : List ByteArray) : Prop where
  len : ss.length = n
  get : ∀ i, i < n → ∃ b o, a = some ⟨b, o, none⟩ ∧ w.cell? ⟨b, o + i, none⟩ = some (.string (ss.getD i ByteArray.empty))
theorem StrsR.below {w w' : World} {a : Option Addr} {n : Nat} {ss : List ByteArray} (h : StrsR w a n ss) (hb : Ext w w') : StrsR w' a n ss := by
  refine ⟨h.len, fun i hi => ?_⟩
  obtain ⟨b, o, rfl, hc⟩ := h.get i hi
  exact ⟨b, o, rfl, (hb.cell (p := ⟨b, o + i, none⟩) (World.block_lt_of_cell? w _ hc)).trans hc⟩
theorem OwnS.strsR {w : World} {B : Nat} {a : Option Addr} {n c : Nat} {xs : List ByteArray} (h : OwnS w B a n c xs) : StrsR w a n xs := by
  refine ⟨h.len, fun i hi => ?_⟩
  obtain ⟨g, rfl, _, _, _, _, hc⟩ := h.form
  have hl := h.len
  refine ⟨g, 0, rfl, hc i _ ?_⟩
  rw [List.getD_eq_getElem?_getD, List.getElem?_eq_getElem (by omega)]
  rfl
theorem StrsR.part {w : World} {b o n : Nat} {ss : List ByteArray} (h : StrsR w (some ⟨b, o, none⟩) n ss) (i m : Nat) (hm : i + m ≤ n) : StrsR w (some ⟨b, o + i, none⟩) m ((ss.drop i).take m) := by
  have hl := h.len
  refine ⟨by simp; omega, fun j hj => ?_⟩
  obtain ⟨b', o', e, hc⟩ := h.get (i + j) (by omega)
  simp only [Option.some.injEq, Addr.mk.injEq, and_true] at e
  obtain ⟨rfl, rfl⟩ := e
  refine ⟨_, _, rfl, ?_⟩
  rw [Nat.add_assoc, hc]
  simp [List.getD_eq_getElem?_getD, hj, List.getElem?_drop]
theorem OwnS.base {w : World} {B B' : Nat} {a : Option Addr} {n c : Nat} {xs : List ByteArray} (h : OwnS w B a n c xs) (hB : B' ≤ B) : OwnS w B' a n c xs := by
  refine ⟨⟨h.row.1, ?_⟩, h.nn⟩
  rcases h.row.2 with h2 | ⟨g, cap, cur, he, hB', r⟩
  · exact .inl h2
  · exact .inr ⟨g, cap, cur, he, Nat.le_trans hB hB', r⟩
theorem OwnS.blk {w : World} {B : Nat} {a : Option Addr} {n c : Nat} {xs : List ByteArray} (h : OwnS w B a n c xs) : ∃ g cur, a = some ⟨g, 0, none⟩ ∧ w.heap[g]? = some (.cells cur 9) := by
  rcases h.row.2 with ⟨he, _⟩ | ⟨g, cap, cur, he, hB, hg, _⟩
  · simp only [Value.slice.injEq] at he
    exact absurd he.1 h.nn
  · simp only [Value.slice.injEq] at he
    exact ⟨g, cur, he.1, hg⟩
/-- a slice of strings and one of integers lie in different blocks -/
theorem OwnS.ne_ints {w : World} {B B' : Nat} {a a' : Option Addr} {n c n' c' : Nat} {xs : List ByteArray} {ys : List Int} (h : OwnS w B a n c xs) (k : OwnI w B' a' n' c' ys) (g o : Nat) (e : a = some ⟨g, o, none⟩) : some g ≠ (Value.slice a' n' c').ownBlock := by
  intro hk
  cases a' with
  | none => simp [Value.ownBlock] at hk
  | some p =>
    simp only [Value.ownBlock, Option.some.injEq] at hk
    obtain ⟨g1, cur1, e1, h1⟩ := h.blk
    rw [e] at e1
    simp only [Option.some.injEq, Addr.mk.injEq, and_true] at e1
    obtain ⟨rfl, rfl⟩ := e1
    rcases k.row.2 with ⟨he, _⟩ | ⟨g', cap, cur, he, hB, hg, _⟩
    · simp at he
    · simp only [Value.slice.injEq, Option.some.injEq] at he
      obtain ⟨rfl, _⟩ := he
      simp only at hk
      subst hk
      rw [h1] at hg
      simp at hg
/-- a block behind the ones of w is not an owned slice's block -/
theorem OwnI.ne_new {w : World} {B : Nat} {a : Option Addr} {n c : Nat} {xs : List Int} (h : OwnI w B a n c xs) {g : Nat} (hg : w.heap.size ≤ g) : some g ≠ (Value.slice a n c).ownBlock := by
  intro hk
  rcases h.row.2 with ⟨he, _⟩ | ⟨g', cap, cur, he, hB, hg', _⟩
  · simp only [Value.slice.injEq] at he
    rw [he.1] at hk
    simp [Value.ownBlock] at hk
  · simp only [Value.slice.injEq] at he
    rw [he.1] at hk
    simp only [Value.ownBlock, Option.some.injEq] at hk
    have := (Array.getElem?_eq_some_iff.1 hg').1
    omega
theorem StrsR.one {w : World} {g : Nat} {y : ByteArray} (h : w.cell? ⟨g, 0, none⟩ = some (.string y)) : StrsR w (some ⟨g, 0, none⟩) 1 [y] := ⟨rfl, fun i hi => by
  obtain rfl : i = 0 := by omega
  exact ⟨g, 0, rfl, by simpa using h⟩⟩
/-- append of several strings -/
theorem wp_append_strs {o : Oper} {a : Act} {K : Act → World → Prop} {Q : Exit → Act → World → Prop} {w : World} (s x : Operand)
    (ho : o.op = .call { callee := .builtin .append, args := #[s, x], argTypes := #[100, 100] })
    (B : Nat) (av : Option Addr) (nv cv : Nat) (xs : List ByteArray) (hs : a.eval s = .slice av nv cv) (hown : OwnS w B av nv cv xs)
    (ad : Addr) (m c : Nat) (ys : List ByteArray) (hx : a.eval x = .slice (some ad) m c) (hy : StrsR w (some ad) m ys) (hsm : nv + m ≤ 1000000000) (hB : B ≤ w.heap.size)
    (h : ∀ a' c' w', OwnS w' B a' (nv + m) c' (xs ++ ys) → w.grownBy w' (Value.slice av nv cv).ownBlock → K (a.put o.dst (.slice a' (nv + m) c')) w') : o.wp Tryz.prog a w K Q := by
  obtain ⟨i, hi, hz0, hz1, hz2⟩ := info_parts Tryz.info9
  have hl := hy.len
  refine wp_append_own w s x 100 ho B 9 i (.string ⟨#[]⟩) 1 16 Tryz.underlying100 hi hz0 hz1 hz2 rfl (by decide) _ nv (svs xs) hs hown.row ad m c (svs ys) hx (by simp [svs, hl]) ?_ (svs_one ys) (by unfold maxLen; omega) (by omega) hB ?_
  · intro j u hu
    simp only [svs, List.getElem?_map, Option.map_eq_some_iff] at hu
    obtain ⟨y, hy', rfl⟩ := hu
    have hj : j < ys.length := (List.getElem?_eq_some_iff.1 hy').1
    obtain ⟨b, o', e, hc⟩ := hy.get j (by omega)
    simp only [Option.some.injEq] at e
    subst e
    rw [add_none, hc, List.getD_eq_getElem?_getD, hy']
    rfl
  · intro v' w' hr hg hnil
    rw [show svs xs ++ svs ys = svs (xs ++ ys) by simp [svs]] at hr
    rcases hr.2 with ⟨e, _⟩ | ⟨g', cap, cur, he, _⟩
    · have := (hnil.1 e).1
      simp only [Value.slice.injEq] at this
      exact absurd this.1 hown.nn
    · subst he
      exact h _ _ w' ⟨hr, by simp⟩ hg
theorem wpList_append_strs {ops : Array Oper} {rest : List Oper} {o : Oper} {a : Act} {Q : Exit → Act → World → Prop} {w : World} (hgd : o.guard = none) (s x : Operand)
    (ho : o.op = .call { callee := .builtin .append, args := #[s, x], argTypes := #[100, 100] })
    (B : Nat) (av : Option Addr) (nv cv : Nat) (xs : List ByteArray) (hs : a.eval s = .slice av nv cv) (hown : OwnS w B av nv cv xs)
    (ad : Addr) (m c : Nat) (ys : List ByteArray) (hx : a.eval x = .slice (some ad) m c) (hy : StrsR w (some ad) m ys) (hsm : nv + m ≤ 1000000000) (hB : B ≤ w.heap.size)
    (h : ∀ a' c' w', OwnS w' B a' (nv + m) c' (xs ++ ys) → w.grownBy w' (Value.slice av nv cv).ownBlock → wpList Tryz.prog ops Q rest (a.put o.dst (.slice a' (nv + m) c')) w') : wpList Tryz.prog ops Q (o :: rest) a w :=
  wpList_plain hgd fun _ hK => wp_append_strs s x ho B av nv cv xs hs hown ad m c ys hx hy hsm hB fun a' c' w' h2 h3 => hK _ _ (h a' c' w' h2 h3)
end Go.Proofs.YtfikkfbnlegflaaGreatDoor
