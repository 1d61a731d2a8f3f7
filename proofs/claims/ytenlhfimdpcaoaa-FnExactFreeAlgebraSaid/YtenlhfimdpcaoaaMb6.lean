/-
  The program's tableBy: the algebra whose brackets [i, j] with j < i a function gives.
  The program's free algebra: the walk of the function that gives its brackets.
  The program's free algebra: the function that gives its brackets.
  Parts of the walk of the reference's free algebra: rows of a table of words, a list of sums of words, the algebra under way.
  A list of one path.
  Owned lists of paths: each path lies in blocks of its own.
  Append of an owned slice's elements to another one, at a single operation.
  The elimination of the program's free algebra, plain: the least word of what is left. No program in sight.
  The elimination of the reference's free algebra, plain: what is left, step by step; the table's numbers passed over. No program in sight.
  The reference's place of a word among words: l5Place, where the place is known.
  The reference's sum of words of a Lyndon word: l11Sum.
  The reference's product of sums of words: l11Product.
  The reference's sums of enveloping elements: l11Join, l11Give, GeneratorOf, AddEnv.
  The reference's l11Put: a number added to a word of an ordered list, modulo p. Printed by gen/putE.py.
  Paths put together by the reference: l9Add, l9Join.
-/
import Derived.Test.YtenlhfimdpcaoaaMb5
namespace Go.Proofs.Ytenlhfimdpcaoaa
open Go.RowKit

/-- steps, read, a way that is nil having no room -/
structure StepsAt (w : World) (a : Option Addr) (n : Nat) (xs : List Stp) : Prop where
  len : xs.length = n
  get : ∀ k, k < n → ∃ b o aw cw, a = some ⟨b, o, none⟩ ∧ w.cell? ⟨b, o + k * 2, none⟩ = some (.slice aw (wayAt xs k).length cw) ∧ w.cell? ⟨b, o + k * 2 + 1, none⟩ = some (.int .i64 (lenAt xs k)) ∧
    IntsAt w aw (wayAt xs k).length (wayAt xs k) ∧ (wayAt xs k).length ≤ 9223372036854775807 ∧ (aw = none → cw = 0)
theorem StepsAt.below {w w' : World} {a : Option Addr} {n : Nat} {xs : List Stp} (h : StepsAt w a n xs) (hb : Ext w w') : StepsAt w' a n xs := by
  refine ⟨h.len, fun i hi => ?_⟩
  obtain ⟨b, o, aw, cw, rfl, h1, h2, h3, h4, h5⟩ := h.get i hi
  have hl := World.block_lt_of_cell? w _ h1
  exact ⟨b, o, aw, cw, rfl, (hb.cell (p := ⟨b, o + i * 2, none⟩) hl).trans h1, (hb.cell (p := ⟨b, o + i * 2 + 1, none⟩) hl).trans h2, h3.below hb, h4, h5⟩
theorem StepsAt.way {w : World} {a : Option Addr} {n : Nat} {xs : List Stp} (h : StepsAt w a n xs) (k : Nat) (hk : k < n) :
    ∃ b o aw cw, ∃ W : List Int, ∃ L : Int, a = some ⟨b, o, none⟩ ∧ Hid (wayAt xs k = W) ∧ Hid (lenAt xs k = L) ∧ W.length ≤ 9223372036854775807 ∧ Hid (aw = none → cw = 0) ∧
      ∀ w', Ext w w' → w'.cell? ⟨b, o + k * 2, none⟩ = some (.slice aw W.length cw) ∧ w'.cell? ⟨b, o + k * 2 + 1, none⟩ = some (.int .i64 L) ∧ IntsAt w' aw W.length W := by
  obtain ⟨b, o, aw, cw, e, h1, h2, h3, h4, h5⟩ := h.get k hk
  refine ⟨b, o, aw, cw, wayAt xs k, lenAt xs k, e, rfl, rfl, h4, h5, fun w' hx => ?_⟩
  have hl := World.block_lt_of_cell? w _ h1
  exact ⟨(hx.cell (p := ⟨b, o + k * 2, none⟩) hl).trans h1, (hx.cell (p := ⟨b, o + k * 2 + 1, none⟩) hl).trans h2, h3.below hx⟩
theorem OwnK.stepCell {w : World} {B U : Nat} {a : Option Addr} {n c : Nat} {hs : List Hdr} {xs : List Stp} (h : OwnK stepK w B U a n c hs xs) (k : Nat) (hk : k < n) :
    ∃ g aw cw, a = some ⟨g, 0, none⟩ ∧ hs.getD k (none, 0) = (aw, cw) ∧ w.cell? ⟨g, k * 2, none⟩ = some (.slice aw (wayAt xs k).length cw) ∧ w.cell? ⟨g, k * 2 + 1, none⟩ = some (.int .i64 (lenAt xs k)) ∧
    w.frozen? ⟨g, k * 2, none⟩ = false ∧ w.frozen? ⟨g, k * 2 + 1, none⟩ = false ∧ OwnI w B aw (wayAt xs k).length cw (wayAt xs k) := by
  obtain ⟨g, rfl, hc, hf⟩ := h.cell k 0 hk (by decide)
  obtain ⟨g', e, hc', hf'⟩ := h.cell k 1 hk (by decide)
  simp only [Option.some.injEq, Addr.mk.injEq, and_true] at e
  subst e
  rw [show k * stepK.size + 0 = k * 2 from rfl] at hc hf
  rw [show k * stepK.size + 1 = k * 2 + 1 from rfl] at hc' hf'
  exact ⟨g, (hs.getD k (none, 0)).1, (hs.getD k (none, 0)).2, rfl, rfl, hc, hc', hf, hf', h.each k hk⟩
theorem OwnK.stepsAt {w : World} {B U : Nat} {a : Option Addr} {n c : Nat} {hs : List Hdr} {xs : List Stp} (h : OwnK stepK w B U a n c hs xs) : StepsAt w a n xs := by
  refine ⟨h.xl, fun k hk => ?_⟩
  obtain ⟨g, aw, cw, rfl, _, h1, h2, _, _, h5⟩ := h.stepCell k hk
  exact ⟨g, 0, aw, cw, rfl, by rw [Nat.zero_add]; exact h1, by rw [Nat.zero_add]; exact h2, h5.ints, h5.small, h5.nil_cap⟩
/-! ### l9Join -/
end Go.Proofs.Ytenlhfimdpcaoaa

namespace Go.Proofs.Ytenlhfimdpcaoaa
open Go.RowKit

theorem Below.past_block2 {B : Nat} {w0 w w' : World} {k : Nat} (hb : Below B w0 w) (hg : w.grownBy w' (some k)) (hB : B ≤ w.heap.size) (hk : B ≤ k) : Below B w0 w' :=
  Below.grown hb hg hB fun j hj => by cases hj; exact hk
set_option maxRecDepth 100000 in
set_option maxHeartbeats 8000000 in
theorem l11Put_any (p : Int) (B : Nat) (go m co : Nat) (hs : List Hdr) (xs : List Tm) (aw : Option Addr) (cw : Nat) (W : List Int) (L : Int) (w : World) (ho : OwnK stepK w B w.heap.size (some ⟨go, 0, none⟩) m co hs xs)
    (hway : IntsAt w aw W.length W) (hnil : aw = none → cw = 0) (hk : W.length ≤ 1000000) (hm : m ≤ 900000000) (hB : B ≤ w.heap.size) (hp : 1 ≤ p) (hp2 : p ≤ 10007) (hL : -1000000000000 ≤ L) (hL2 : L ≤ 1000000000000)
    (hsum : ∀ i, i < m → 0 ≤ lenAt xs i ∧ lenAt xs i ≤ 1000000) :
    Calls Try.prog 114 #[.int .i64 p, .slice (some ⟨go, 0, none⟩) m co, .slice aw W.length cw, .int .i64 L] w fun e w' => ∃ g' n' c' hs', e = .returned (.slice (some ⟨g', 0, none⟩) n' c') ∧ OwnK stepK w' B w'.heap.size (some ⟨g', 0, none⟩) n' c' hs' (putM p xs W L) ∧ Below B w w' := by
  have HO := hidP ho
  have HWy := hidP hway
  have HN := hidP hnil
  have hxl := ho.xl
  have hhl := ho.hl
  have HB := hidP hB
  have hmc : m ≤ co := by
    rcases ho.form with ⟨e, _⟩ | ⟨_, _, _, _, _, _, h1, _⟩
    · cases e
    · exact h1
  have HSm := hidP hsum
  have HI := hidP (fun w' (hx : Ext w w') => l1Ints_any aw W.length cw W w' (HWy.out.below hx) HN.out (by omega))
  have HMd := hidP (fun w' => l1Mod_any L p w' hp (by omega))
  have hv0 := Int.emod_nonneg L (show p ≠ 0 by omega)
  have hv1 := Int.emod_lt_of_pos L (show 0 < p by omega)
  obtain ⟨v, hv⟩ : ∃ v, v = L % p := ⟨_, rfl⟩
  rw [← hv] at HMd hv0 hv1
  have HVv := hidP hv
  clear ho hway hnil hB hsum hv
  go_enter Try.func114, Try.ntmps114
  go_wp2
  go_loopw [9] (fun i wr => ∃ k : Nat, k ≤ m ∧ i = .int .i64 k ∧ Hid (∀ j, j < k → cmpW (wayAt xs j) W < 0) ∧ Hid (Ext w wr)) (fun i _ => m - (intOf i).toNat)
  case atStart => exact ⟨0, Nat.zero_le _, rfl, fun j hj => by omega, Ext.refl _⟩
  case round =>
    obtain ⟨k, hkm, rfl, HJ, HX⟩ := hrel
    by_cases hlt : k < m
    · obtain ⟨b, o, aV, cV, V, M, e', HV, HM, hvl, HNV, hq⟩ := ((HO.out.below HX.out).stepsAt).way k hlt
      simp only [Option.some.injEq, Addr.mk.injEq, and_true] at e'
      obtain ⟨rfl, rfl⟩ := e'
      have HQ := hidP hq
      obtain ⟨q1, q2, _⟩ := hq wr (Ext.refl wr)
      rw [Nat.zero_add] at q1 q2
      have hki : (k : Int) < (m : Int) := by omega
      have HAb := hidP (fun w' (hx : Ext wr w') => l11Before_any aV aw V.length W.length cV cw V W w' (HQ.out w' hx).2.2 ((HWy.out.below HX.out).below hx) hvl (by omega))
      clear hq
      cases hV : decide (cmpW V W < 0)
      · rw [hV] at HAb
        have HNa : Hid (¬ cmpW V W < 0) := of_decide_eq_false hV
        go_wp2_with fail
        refine (HAb.out _ (Ext.refl _)).mono ?_
        rintro e w2 ⟨rfl, hx2⟩
        have HX2 := hidP (HX.out.trans hx2)
        obtain ⟨q1, q2, _⟩ := HQ.out w2 hx2
        rw [Nat.zero_add] at q1 q2
        have HSame := hidP (l1Same_any aV aw V.length W.length cV cw V W w2 (HQ.out w2 hx2).2.2 (HWy.out.below HX2.out) hvl (by omega))
        clear hV HAb hx2
        cases hE : (V == W)
        · rw [hE] at HSame
          have HNn : Hid (wayAt xs k ≠ W) := by show _ ≠ _; rw [HV.out]; simpa using hE
          have HNb : Hid (¬ cmpW (wayAt xs k) W < 0) := by show ¬ _; rw [HV.out]; have := HNa.out; omega
          clear hE
          go_wp2_with fail
          refine HSame.out.mono ?_
          rintro e w3 ⟨rfl, q, rfl⟩
          have HX3 := hidP (HX2.out.trans (Ext.drewN w2 q))
          clear HSame q1 q2
          by_cases hvz : v = 0
          · have HNe : Hid (putM p xs W L = xs) := by
              show _ = _
              exact putM_new0 (by omega) HJ.out (by have := HNb.out; omega) HNn.out (by rw [← HVv.out]; exact hvz)
            go_wp2_with fail
            refine (HMd.out _).mono ?_
            rintro e w4 ⟨rfl, rfl⟩
            go_wp2
            go_ret
            refine ⟨go, m, co, hs, rfl, ?_, Below.mono HX3.out HB.out⟩
            rw [HNe.out]
            exact (HO.out.below HX3.out).weaken (Nat.le_refl _) HX3.out.size
          · have HNe : Hid (putM p xs W L = xs.take k ++ [(W, v)] ++ xs.drop k) := by
              show _ = _
              rw [putM_new (by omega) HJ.out (by have := HNb.out; omega) HNn.out (by rw [← HVv.out]; exact hvz), HVv.out]
            go_wp2_with fail
            refine (HMd.out _).mono ?_
            rintro e w4 ⟨rfl, rfl⟩
            go_wp2
            obtain ⟨wr', hwr'⟩ : ∃ x, x = w2.drewN q := ⟨_, rfl⟩
            rw [← hwr'] at HX3 ⊢
            clear hwr'
            have hE : Ext wr' wr'.drew := Ext.drew wr'
            have hk0 : (0 : Int) ≤ (k : Int) := by omega
            have hk1 : (k : Int) ≤ (m : Int) := by omega
            have hk2 : (k : Int) ≤ (co : Int) := by omega
            have hk3 : (m : Int) ≤ (co : Int) := by omega
            have hwsz := HX3.out.size
            have hgo := HO.out.base_lt go 0 rfl
            have hBw := HB.out
            (refine walkR_start (fun w' => Ext wr' w') 16 (by kernel_rfl) ?_; simp only [numbered, List.take_succ_cons, List.take_zero, Nat.zero_add, Nat.reduceAdd, List.length_cons, List.length_nil])
            (refine walkR_later ?_; simp only [List.cons_append, List.nil_append])
            (repeat (first | (refine walkR_still (v := ?_) rfl (by decide +kernel) rfl (fun _ _ _ h => h) hE ?_ ?_; rotate_left; (focus (intro w' hw'; skip; go_simp; all_goals (with_reducible rfl))); simp only [Act.put, List.setIfInBounds_toArray, List.set_cons_zero, List.set_cons_succ]) | (refine walkR_skip rfl (by decide +kernel) rfl (fun _ _ _ h => h) hE ?_; simp only [Act.put, List.setIfInBounds_toArray, List.set_cons_zero, List.set_cons_succ])))
            (refine walkR_later ?_; simp only [List.cons_append, List.nil_append])
            (repeat (first | (refine walkR_still (v := ?_) rfl (by decide +kernel) rfl (fun _ _ _ h => h) hE ?_ ?_; rotate_left; (focus (intro w' hw'; skip; go_simp; all_goals (with_reducible rfl))); simp only [Act.put, List.setIfInBounds_toArray, List.set_cons_zero, List.set_cons_succ]) | (refine walkR_skip rfl (by decide +kernel) rfl (fun _ _ _ h => h) hE ?_; simp only [Act.put, List.setIfInBounds_toArray, List.set_cons_zero, List.set_cons_succ])))
            (refine walkR_later ?_; simp only [List.cons_append, List.nil_append])
            (repeat (first | (refine walkR_still (v := ?_) rfl (by decide +kernel) rfl (fun _ _ _ h => h) hE ?_ ?_; rotate_left; (focus (intro w' hw'; skip; go_simp; all_goals (with_reducible rfl))); simp only [Act.put, List.setIfInBounds_toArray, List.set_cons_zero, List.set_cons_succ]) | (refine walkR_skip rfl (by decide +kernel) rfl (fun _ _ _ h => h) hE ?_; simp only [Act.put, List.setIfInBounds_toArray, List.set_cons_zero, List.set_cons_succ])))
            (refine walkR_later ?_; simp only [List.cons_append, List.nil_append]); (refine walkR_later ?_; simp only [List.cons_append, List.nil_append]); (refine walkR_later ?_; simp only [List.cons_append, List.nil_append]); (refine walkR_later ?_; simp only [List.cons_append, List.nil_append])
            (repeat (first | (refine walkR_still (v := ?_) rfl (by decide +kernel) rfl (fun _ _ _ h => h) hE ?_ ?_; rotate_left; (focus (intro w' hw'; skip; go_simp; all_goals (with_reducible rfl))); simp only [Act.put, List.setIfInBounds_toArray, List.set_cons_zero, List.set_cons_succ]) | (refine walkR_skip rfl (by decide +kernel) rfl (fun _ _ _ h => h) hE ?_; simp only [Act.put, List.setIfInBounds_toArray, List.set_cons_zero, List.set_cons_succ])))
            (refine walkR_only (fun w' => Ext wr' w') rfl (by decide +kernel) rfl ?_ ?_)
            · exact fun _ h => h
            intro K hK
            go_simp
            have hE1 := (Ext.alloc wr' (.cells #[] 81)).trans (Ext.drew _)
            have hsz1 : ((wr'.alloc (.cells #[] 81)).drew).heap.size = wr'.heap.size + 1 := by show (wr'.alloc _).heap.size = _; simp
            have HO1 : Hid (OwnK stepK (wr'.alloc (.cells #[] 81)).drew B ((wr'.alloc (.cells #[] 81)).drew).heap.size (some ⟨wr'.heap.size, 0, none⟩) 0 0 [] []) := ((OwnK.made0 stepK wr').below (Ext.drew _)).weaken (B' := B) (by omega) (Nat.le_refl _)
            have HP1 := hidP (((HO.out.below HX3.out).below hE1).front k (by omega))
            have HQ1 := hidP ((HO.out.below HX3.out).below hE1)
            refine hK _ _ hE1 ?_
            clear hK K hE
            (try simp only [Act.put, List.setIfInBounds_toArray, List.set_cons_zero, List.set_cons_succ])
            obtain ⟨w1, hw1⟩ : ∃ w1, w1 = (wr'.alloc (.cells #[] 81)).drew := ⟨_, rfl⟩
            rw [← hw1] at HO1 HP1 HQ1 hE1 hsz1
            first | rw [← hw1] | skip
            clear hw1
            (refine walkR_only (fun w' => Ext wr' w') rfl (by decide +kernel) rfl ?_ ?_)
            · exact fun _ h => h
            intro K hK
            refine wp_append_part stepK 63 (.agg #[.slice none 0 0, .int .i64 0]) 32 (.tmp 73) (.tmp 76) rfl Try.underlying63 Try.info81 rfl (by omega) B _ wr'.heap.size 0 0 [] (hs.take k) [] (xs.take k) rfl HO1.out go 0 k co rfl HP1.out (fun i j hi => by omega) (by omega) (by omega) ?_
            intro g4 c4 w4 ho4 hg4 hn4
            rw [List.nil_append, List.nil_append, Nat.zero_add] at ho4
            rw [Nat.zero_add]
            have hE4 : Ext wr' w4 := Below.past_block2 hE1 hg4 (by omega) (Nat.le_refl _)
            have HQ4 := hidP (HQ1.out.past hg4 (fun g o e => by simp only [Option.some.injEq, Addr.mk.injEq] at e; omega) (by omega))
            have HO4 := hidP ho4
            have hg4b : wr'.heap.size ≤ g4 := by omega
            have hsz4 := hg4.size
            refine hK _ _ hE4 ?_
            clear hK K ho4 hg4 hn4 hE1
            (try simp only [Act.put, List.setIfInBounds_toArray, List.set_cons_zero, List.set_cons_succ])
            (refine walkR_only (fun w' => Ext wr' w') rfl (by decide +kernel) rfl (fun _ h => h) ?_; intro K hK; go_simp; refine (HI.out _ (HX3.out.trans hE4)).mono ?_; rintro e w6 ⟨a1, c1, rfl, ho1, hx6⟩; refine hK _ _ (hE4.trans hx6) ?_; clear hK K; (try simp only [Act.put, List.setIfInBounds_toArray, List.set_cons_zero, List.set_cons_succ]))
            have hE6 := hE4.trans hx6
            (refine walkR_only (fun w' => Ext wr' w') rfl (by decide +kernel) rfl (fun _ h => h) ?_; intro K hK; go_simp; refine (HMd.out _).mono ?_; rintro e w' ⟨rfl, rfl⟩; refine hK _ _ (hE6) ?_; clear hK K; (try simp only [Act.put, List.setIfInBounds_toArray, List.set_cons_zero, List.set_cons_succ]))
            (repeat (first | (refine walkR_still (v := ?_) rfl (by decide +kernel) rfl (fun _ _ _ h => h) hE6 ?_ ?_; rotate_left; (focus (intro w' hw'; skip; go_simp; all_goals (with_reducible rfl))); simp only [Act.put, List.setIfInBounds_toArray, List.set_cons_zero, List.set_cons_succ]) | (refine walkR_skip rfl (by decide +kernel) rfl (fun _ _ _ h => h) hE6 ?_; simp only [Act.put, List.setIfInBounds_toArray, List.set_cons_zero, List.set_cons_succ])))
            (refine walkR_only (fun w' => Ext wr' w') rfl (by decide +kernel) rfl ?_ ?_)
            · exact fun _ h => h
            intro K hK
            go_simp
            have hxa := Ext.alloc w6 (.cells #[.slice a1 W.length c1, .int .i64 v] 81)
            have hE7 := hE6.trans hxa
            have HO7 := hidP (HO4.out.below (hx6.trans hxa))
            have HQ7 := hidP (HQ4.out.below (hx6.trans hxa))
            have HI7 := hidP ((ho1.below hxa).base (B' := B) (by omega))
            have HA1 : Hid (∀ b o, a1 = some ⟨b, o, none⟩ → w4.heap.size ≤ b) := fun b o e => (ho1.at_base b o e).1
            have HP7 : Hid (PartK stepK (w6.alloc (.cells #[.slice a1 W.length c1, .int .i64 v] 81)) B w6.heap.size 0 1 [(a1, c1)] [(W, v)]) := PartK.single (fun j _ => (cell_top _ _ _ _ _ rfl).trans (by simp [stepK])) HI7.out
            have hsz7 := (hx6.trans hxa).size
            refine hK _ _ hE7 ?_
            clear hK K ho1 hx6 hE4 hE6 hxa
            (try simp only [Act.put, List.setIfInBounds_toArray, List.set_cons_zero, List.set_cons_succ])
            obtain ⟨w7, hw7⟩ : ∃ w7, w7 = w6.alloc (.cells #[.slice a1 W.length c1, .int .i64 v] 81) := ⟨_, rfl⟩
            rw [← hw7] at HO7 HQ7 HI7 HP7 hsz7 hE7
            first | rw [← hw7] | skip
            clear hw7
            (refine walkR_only (fun w' => Ext wr' w') rfl (by decide +kernel) rfl ?_ ?_)
            · exact fun _ h => h
            intro K hK
            refine wp_append_part stepK 63 (.agg #[.slice none 0 0, .int .i64 0]) 32 (.tmp 77) (.tmp 84) rfl Try.underlying63 Try.info81 rfl (by omega) B _ g4 k c4 (hs.take k) [(a1, c1)] (xs.take k) [(W, v)] rfl HO7.out w6.heap.size 0 1 1 rfl HP7.out (fun i j hi hj b o b' o' e e' => by
              obtain rfl : j = 0 := by omega
              have h1 := HA1.out b' o' e'
              have h2 := HQ7.out.lt i (by omega) b o (by rw [← e]; simp [List.getD_eq_getElem?_getD, List.getElem?_take, hi])
              omega) (by omega) (by omega) ?_
            intro g10 c10 w10 ho10 hg10 hn10
            have hE10 : Ext wr' w10 := Below.past_block2 hE7 hg10 hE7.size hg4b
            have HQ10 := hidP (HQ7.out.past hg10 (fun g o e => by simp only [Option.some.injEq, Addr.mk.injEq] at e; omega) (by omega))
            have HO10 := hidP ho10
            have hg10b : wr'.heap.size ≤ g10 := by have := hE7.size; omega
            have HP10 := hidP (HQ10.out.part k (by omega))
            refine hK _ _ hE10 ?_
            clear hK K ho10 hg10 hn10 hE7
            (try simp only [Act.put, List.setIfInBounds_toArray, List.set_cons_zero, List.set_cons_succ])
            (refine walkR_tail (by rfl) (by kernel_rfl) ?_; simp only [List.drop_succ_cons, List.drop_zero])
            have hx61 : (if co = k then some (⟨go, 0, none⟩ : Addr) else some ⟨go, k * 2, none⟩) = some ⟨go, if co = k then 0 else k * 2, none⟩ := by split <;> rfl
            have HP61 := hidP (HP10.out.moved (o' := if co = k then 0 else k * 2) (by
              by_cases hck : co = k
              · right; omega
              · left; rw [if_neg hck]; rfl))
            rw [hx61]
            clear hx61
            refine wpList_append_part stepK 63 (.agg #[.slice none 0 0, .int .i64 0]) 32 rfl (.tmp 85) (.tmp 88) rfl Try.underlying63 Try.info81 rfl (by omega) B _ g10 (k + 1) c10 _ (hs.drop k) _ (xs.drop k) rfl HO10.out go _ (m - k) (co - k) (by first | rfl | (rw [Nat.sub_self]; rfl)) HP61.out ?_ (by omega) (by have := hE10.size; omega) ?_
            · intro i j hi hj b o b' o' e e'
              have hhl10 := HQ10.out.hl
              have e2 : (hs.getD (k + j) (none, 0)).1 = some ⟨b', o', none⟩ := by rw [← e']; simp [List.getD_eq_getElem?_getD, List.getElem?_drop]
              by_cases hi2 : i < k
              · have e1 : (hs.getD i (none, 0)).1 = some ⟨b, o, none⟩ := by
                  rw [← e, getD_left _ _ _ _ (by simp; omega)]
                  simp [List.getD_eq_getElem?_getD, List.getElem?_take, hi2]
                exact HQ10.out.apart i (k + j) (by omega) (by omega) (by omega) b o b' o' e1 e2
              · have e1 : a1 = some ⟨b, o, none⟩ := by
                  rw [← e, getD_right _ _ _ _ (by simp; omega)]
                  have : i - (hs.take k).length = 0 := by simp; omega
                  rw [this]
                  rfl
                have h1 := HA1.out b o e1
                have h2 := HQ10.out.lt (k + j) (by omega) b' o' e2
                omega
            intro g14 c14 w14 ho14 hg14 hn14
            have hE14 : Ext wr' w14 := Below.past_block2 hE10 hg14 hE10.size hg10b
            have hX14 : Ext w w14 := HX3.out.trans hE14
            have hn14 : k + 1 + (m - k) = m + 1 := by omega
            rw [hn14] at ho14 ⊢
            rw [← HNe.out] at ho14
            have HO14 := hidP ho14
            have HB14 : Hid (Below B w w14) := Below.mono hX14 HB.out
            clear ho14 hg14 hE10 hE14 hX14
            go_wp2
            all_goals go_ret
            all_goals first | exact ⟨g14, m + 1, c14, _, rfl, HO14.out, HB14.out⟩ | exact ⟨g14, m + 1, c14, rfl, ⟨_, HO14.out⟩, HB14.out⟩
        · rw [hE] at HSame
          obtain rfl : V = W := by simpa using hE
          have hs1 := HSm.out k hlt
          rw [HM.out] at hs1
          have hwr : IntKind.i64.wrap (M + L) = M + L := wrap_in (by omega) (by omega)
          have HMd2 := hidP (fun w' => l1Mod_any (M + L) p w' hp (by omega))
          have hu0 := Int.emod_nonneg (M + L) (show p ≠ 0 by omega)
          have hu1 := Int.emod_lt_of_pos (M + L) (show 0 < p by omega)
          obtain ⟨u, hu⟩ : ∃ u, u = (M + L) % p := ⟨_, rfl⟩
          rw [← hu] at HMd2 hu0 hu1
          have HU := hidP hu
          clear hE hu
          go_wp2_with fail
          refine HSame.out.mono ?_
          rintro e w3 ⟨rfl, q, rfl⟩
          have HX3 := hidP (HX2.out.trans (Ext.drewN w2 q))
          obtain ⟨g, al, cl, e', hh, q1, q2, r1, r2, hol⟩ := (HO.out.below HX3.out).stepCell k (by omega)
          simp only [Option.some.injEq, Addr.mk.injEq, and_true] at e'
          subst e'
          rw [HV.out] at q1
          rw [HM.out] at q2
          have hst := (HO.out.below HX3.out).stored k 1 (by omega) (by decide) (.int .i64 u) (wayAt xs k, u) rfl rfl rfl
          rw [HV.out] at hst
          have HSt := hidP hst
          have hgB := HO.out.base_lt go 0 rfl
          have HXB : Hid (Below B w (w2.drewN q)) := Below.mono HX3.out HB.out
          clear HSame hst hh hol
          go_wp2_with fail
          refine (HMd2.out _).mono ?_
          rintro e w4 ⟨rfl, rfl⟩
          by_cases huz : u = 0
          · have HNe : Hid (putM p xs V L = (xs.set k (V, u)).take k ++ (xs.set k (V, u)).drop (k + 1)) := by
              show _ = _
              rw [putM_gone (by omega) HJ.out HV.out (by rw [HM.out, ← HU.out]; exact huz), List.take_set_of_le (Nat.le_refl k), List.drop_set_of_lt (by omega)]
            subst huz
            have HO3' : Hid (OwnK stepK ((w2.drewN q).setCell ⟨go, k * 2 + 1, none⟩ (.int .i64 0)) B ((w2.drewN q).setCell ⟨go, k * 2 + 1, none⟩ (.int .i64 0)).heap.size (some ⟨go, 0, none⟩) m co hs (xs.set k (V, 0))) := hidP (OwnK.weaken (U' := ((w2.drewN q).setCell ⟨go, k * 2 + 1, none⟩ (.int .i64 0)).heap.size) HSt.out (Nat.le_refl _) (by have := HX3.out.size; simpa [World.setCell] using this))
            have HXC' : Hid (Below B w ((w2.drewN q).setCell ⟨go, k * 2 + 1, none⟩ (.int .i64 0))) := Below.setCell (p := ⟨go, k * 2 + 1, none⟩) HXB.out hgB.1 _
            clear HSt HXB
            go_wp2
            obtain ⟨ys, hys⟩ : ∃ ys, ys = xs.set k (V, 0) := ⟨_, rfl⟩
            rw [← hys] at HNe HO3'
            obtain ⟨wr', hwr'⟩ : ∃ x, x = (w2.drewN q).setCell ⟨go, k * 2 + 1, none⟩ (.int .i64 0) := ⟨_, rfl⟩
            rw [← hwr'] at HO3' HXC' ⊢
            have HO3 := HO3'
            have HXC := HXC'
            clear hwr' hys HO3' HXC' q1 q2 r1 r2
            have hE : Ext wr' wr'.drew := Ext.drew wr'
            have hk0 : (0 : Int) ≤ (k : Int) := by omega
            have hk1 : (k : Int) ≤ (m : Int) := by omega
            have hk2 : (k : Int) ≤ (co : Int) := by omega
            have hk3 : (m : Int) ≤ (co : Int) := by omega
            have hk4 : IntKind.i64.wrap ((k : Int) + 1) = (k : Int) + 1 := wrap_in (by omega) (by omega)
            have hk5 : (k : Int) + 1 ≤ (m : Int) := by omega
            have hk6 : (0 : Int) ≤ (k : Int) + 1 := by omega
            have hk7 : ((k : Int) + 1).toNat = k + 1 := by omega
            have hwsz := HXC.out.size
            have hgo := HO.out.base_lt go 0 rfl
            have hBw := HB.out
            (refine walkR_start (fun w' => Ext wr' w') 9 (by kernel_rfl) ?_; simp only [numbered, List.take_succ_cons, List.take_zero, Nat.zero_add, Nat.reduceAdd, List.length_cons, List.length_nil])
            (refine walkR_later ?_; simp only [List.cons_append, List.nil_append])
            (repeat (first | (refine walkR_still (v := ?_) rfl (by decide +kernel) rfl (fun _ _ _ h => h) hE ?_ ?_; rotate_left; (focus (intro w' hw'; skip; go_simp; all_goals (with_reducible rfl))); simp only [Act.put, List.setIfInBounds_toArray, List.set_cons_zero, List.set_cons_succ]) | (refine walkR_skip rfl (by decide +kernel) rfl (fun _ _ _ h => h) hE ?_; simp only [Act.put, List.setIfInBounds_toArray, List.set_cons_zero, List.set_cons_succ])))
            (refine walkR_later ?_; simp only [List.cons_append, List.nil_append])
            (repeat (first | (refine walkR_still (v := ?_) rfl (by decide +kernel) rfl (fun _ _ _ h => h) hE ?_ ?_; rotate_left; (focus (intro w' hw'; skip; go_simp; all_goals (with_reducible rfl))); simp only [Act.put, List.setIfInBounds_toArray, List.set_cons_zero, List.set_cons_succ]) | (refine walkR_skip rfl (by decide +kernel) rfl (fun _ _ _ h => h) hE ?_; simp only [Act.put, List.setIfInBounds_toArray, List.set_cons_zero, List.set_cons_succ])))
            (refine walkR_only (fun w' => Ext wr' w') rfl (by decide +kernel) rfl ?_ ?_)
            · exact fun _ h => h
            intro K hK
            go_simp
            have hE1 := (Ext.alloc wr' (.cells #[] 81)).trans (Ext.drew _)
            have hsz1 : ((wr'.alloc (.cells #[] 81)).drew).heap.size = wr'.heap.size + 1 := by show (wr'.alloc _).heap.size = _; simp
            have HO1 : Hid (OwnK stepK (wr'.alloc (.cells #[] 81)).drew B ((wr'.alloc (.cells #[] 81)).drew).heap.size (some ⟨wr'.heap.size, 0, none⟩) 0 0 [] []) := ((OwnK.made0 stepK wr').below (Ext.drew _)).weaken (B' := B) (by omega) (Nat.le_refl _)
            have HP1 := hidP ((HO3.out.below hE1).front k (by omega))
            have HQ1 := hidP (HO3.out.below hE1)
            refine hK _ _ hE1 ?_
            clear hK K hE
            (try simp only [Act.put, List.setIfInBounds_toArray, List.set_cons_zero, List.set_cons_succ])
            obtain ⟨w1, hw1⟩ : ∃ w1, w1 = (wr'.alloc (.cells #[] 81)).drew := ⟨_, rfl⟩
            rw [← hw1] at HO1 HP1 HQ1 hE1 hsz1
            first | rw [← hw1] | skip
            clear hw1
            (refine walkR_only (fun w' => Ext wr' w') rfl (by decide +kernel) rfl ?_ ?_)
            · exact fun _ h => h
            intro K hK
            refine wp_append_part stepK 63 (.agg #[.slice none 0 0, .int .i64 0]) 32 (.tmp 57) (.tmp 60) rfl Try.underlying63 Try.info81 rfl (by omega) B _ wr'.heap.size 0 0 [] (hs.take k) [] (ys.take k) rfl HO1.out go 0 k co rfl HP1.out (fun i j hi => by omega) (by omega) (by omega) ?_
            intro g4 c4 w4 ho4 hg4 hn4
            rw [List.nil_append, List.nil_append, Nat.zero_add] at ho4
            rw [Nat.zero_add]
            have hE4 : Ext wr' w4 := Below.past_block2 hE1 hg4 (by omega) (Nat.le_refl _)
            have HQ4 := hidP (HQ1.out.past hg4 (fun g o e => by simp only [Option.some.injEq, Addr.mk.injEq] at e; omega) (by omega))
            have HO4 := hidP ho4
            have hg4b : wr'.heap.size ≤ g4 := by omega
            have HP4 := hidP (HQ4.out.part (k + 1) (by omega))
            refine hK _ _ hE4 ?_
            clear hK K ho4 hg4 hn4 hE1
            (try simp only [Act.put, List.setIfInBounds_toArray, List.set_cons_zero, List.set_cons_succ])
            (refine walkR_tail (by rfl) (by kernel_rfl) ?_; simp only [List.drop_succ_cons, List.drop_zero])
            have hx65 : (if co = k + 1 then some (⟨go, 0, none⟩ : Addr) else some ⟨go, (k + 1) * 2, none⟩) = some ⟨go, if co = k + 1 then 0 else (k + 1) * 2, none⟩ := by split <;> rfl
            have HP65 := hidP (HP4.out.moved (o' := if co = k + 1 then 0 else (k + 1) * 2) (by
              by_cases hck : co = k + 1
              · right; omega
              · left; rw [if_neg hck]; rfl))
            rw [hx65]
            clear hx65
            refine wpList_append_part stepK 63 (.agg #[.slice none 0 0, .int .i64 0]) 32 rfl (.tmp 61) (.tmp 65) rfl Try.underlying63 Try.info81 rfl (by omega) B _ g4 k c4 _ (hs.drop (k + 1)) _ (ys.drop (k + 1)) rfl HO4.out go _ (m - (k + 1)) (co - (k + 1)) (by first | rfl | (rw [Nat.sub_self]; rfl)) HP65.out ?_ (by omega) (by have := hE4.size; omega) ?_
            · intro i j hi hj b o b' o' e e'
              have hhl10 := HQ4.out.hl
              have e2 : (hs.getD (k + 1 + j) (none, 0)).1 = some ⟨b', o', none⟩ := by rw [← e']; simp [List.getD_eq_getElem?_getD, List.getElem?_drop]
              have e1 : (hs.getD i (none, 0)).1 = some ⟨b, o, none⟩ := by
                rw [← e]
                simp [List.getD_eq_getElem?_getD, List.getElem?_take, hi]
              exact HQ4.out.apart i (k + 1 + j) (by omega) (by omega) (by omega) b o b' o' e1 e2
            intro g14 c14 w14 ho14 hg14 hn14
            have hE14 : Ext wr' w14 := Below.past_block2 hE4 hg14 hE4.size hg4b
            have hX14 : Below B w w14 := Below.trans HXC.out (Below.mono hE14 (by omega))
            have hn14 : k + (m - (k + 1)) = m - 1 := by omega
            rw [hn14] at ho14 ⊢
            rw [← HNe.out] at ho14
            have HO14 := hidP ho14
            have HB14 := hidP hX14
            clear ho14 hg14 hE4 hE14 hX14
            go_wp2
            all_goals go_ret
            all_goals first | exact ⟨g14, m - 1, c14, _, rfl, HO14.out, HB14.out⟩ | exact ⟨g14, m - 1, c14, rfl, ⟨_, HO14.out⟩, HB14.out⟩
          · have HNe : Hid (putM p xs V L = xs.set k (V, u)) := by
              show _ = _
              rw [putM_same (by omega) HJ.out HV.out (by rw [HM.out, ← HU.out]; exact huz), HM.out, HU.out]
            go_wp2
            go_ret
            refine ⟨go, m, co, hs, rfl, OwnK.weaken (by rw [HNe.out]; exact HSt.out) (Nat.le_refl _) ?_, Below.setCell (p := ⟨go, k * 2 + 1, none⟩) HXB.out hgB.1 _⟩
            have := HX3.out.size
            simpa [World.setCell] using this
      · rw [hV] at HAb
        have hab := of_decide_eq_true hV
        have HJ2 : Hid (∀ j, j < k + 1 → cmpW (wayAt xs j) W < 0) := by
          intro j hj
          rcases Nat.lt_succ_iff_lt_or_eq.1 hj with h3 | rfl
          · exact HJ.out j h3
          · rw [HV.out]; exact hab
        clear hab hV
        go_wp2_with fail
        refine (HAb.out _ (Ext.refl _)).mono ?_
        rintro e w2 ⟨rfl, hx2⟩
        have HX2 := hidP (HX.out.trans hx2)
        clear hx2 q1 q2
        go_wp2
        go_roundw
        case rel => exact ⟨k + 1, by omega, by go_num, HJ2, HX2⟩
        case measure => simp [intOf]; omega
    · obtain rfl : m = k := by omega
      by_cases hvz : v = 0
      · have HNe : Hid (putM p xs W L = xs) := by
          show _ = _
          exact putM_end0 (l := xs) (fun j hj => HJ.out j (by omega)) (by rw [← HVv.out]; exact hvz)
        go_wp2_with fail
        refine (HMd.out _).mono ?_
        rintro e w4 ⟨rfl, rfl⟩
        go_wp2
        go_ret
        refine ⟨go, m, co, hs, rfl, ?_, Below.mono HX.out HB.out⟩
        rw [HNe.out]
        exact (HO.out.below HX.out).weaken (Nat.le_refl _) HX.out.size
      · have HNe : Hid (putM p xs W L = xs.take m ++ [(W, v)] ++ xs.drop m) := by
          show _ = _
          rw [putM_end (l := xs) (fun j hj => HJ.out j (by omega)) (by rw [← HVv.out]; exact hvz), hxl, HVv.out]
        go_wp2_with fail
        refine (HMd.out _).mono ?_
        rintro e w4 ⟨rfl, rfl⟩
        go_wp2
        obtain ⟨wr', hwr'⟩ : ∃ x, x = wr := ⟨_, rfl⟩
        rw [← hwr'] at HX ⊢
        have HX3 := HX
        clear hwr' HX
        have hE : Ext wr' wr'.drew := Ext.drew wr'
        have hk0 : (0 : Int) ≤ (m : Int) := by omega
        have hk1 : (m : Int) ≤ (m : Int) := by omega
        have hk2 : (m : Int) ≤ (co : Int) := by omega
        have hk3 : (m : Int) ≤ (co : Int) := by omega
        have hwsz := HX3.out.size
        have hgo := HO.out.base_lt go 0 rfl
        have hBw := HB.out
        (refine walkR_start (fun w' => Ext wr' w') 16 (by kernel_rfl) ?_; simp only [numbered, List.take_succ_cons, List.take_zero, Nat.zero_add, Nat.reduceAdd, List.length_cons, List.length_nil])
        (refine walkR_later ?_; simp only [List.cons_append, List.nil_append])
        (repeat (first | (refine walkR_still (v := ?_) rfl (by decide +kernel) rfl (fun _ _ _ h => h) hE ?_ ?_; rotate_left; (focus (intro w' hw'; skip; go_simp; all_goals (with_reducible rfl))); simp only [Act.put, List.setIfInBounds_toArray, List.set_cons_zero, List.set_cons_succ]) | (refine walkR_skip rfl (by decide +kernel) rfl (fun _ _ _ h => h) hE ?_; simp only [Act.put, List.setIfInBounds_toArray, List.set_cons_zero, List.set_cons_succ])))
        (refine walkR_later ?_; simp only [List.cons_append, List.nil_append])
        (repeat (first | (refine walkR_still (v := ?_) rfl (by decide +kernel) rfl (fun _ _ _ h => h) hE ?_ ?_; rotate_left; (focus (intro w' hw'; skip; go_simp; all_goals (with_reducible rfl))); simp only [Act.put, List.setIfInBounds_toArray, List.set_cons_zero, List.set_cons_succ]) | (refine walkR_skip rfl (by decide +kernel) rfl (fun _ _ _ h => h) hE ?_; simp only [Act.put, List.setIfInBounds_toArray, List.set_cons_zero, List.set_cons_succ])))
        (refine walkR_later ?_; simp only [List.cons_append, List.nil_append])
        (repeat (first | (refine walkR_still (v := ?_) rfl (by decide +kernel) rfl (fun _ _ _ h => h) hE ?_ ?_; rotate_left; (focus (intro w' hw'; skip; go_simp; all_goals (with_reducible rfl))); simp only [Act.put, List.setIfInBounds_toArray, List.set_cons_zero, List.set_cons_succ]) | (refine walkR_skip rfl (by decide +kernel) rfl (fun _ _ _ h => h) hE ?_; simp only [Act.put, List.setIfInBounds_toArray, List.set_cons_zero, List.set_cons_succ])))
        (refine walkR_later ?_; simp only [List.cons_append, List.nil_append]); (refine walkR_later ?_; simp only [List.cons_append, List.nil_append]); (refine walkR_later ?_; simp only [List.cons_append, List.nil_append]); (refine walkR_later ?_; simp only [List.cons_append, List.nil_append])
        (repeat (first | (refine walkR_still (v := ?_) rfl (by decide +kernel) rfl (fun _ _ _ h => h) hE ?_ ?_; rotate_left; (focus (intro w' hw'; skip; go_simp; all_goals (with_reducible rfl))); simp only [Act.put, List.setIfInBounds_toArray, List.set_cons_zero, List.set_cons_succ]) | (refine walkR_skip rfl (by decide +kernel) rfl (fun _ _ _ h => h) hE ?_; simp only [Act.put, List.setIfInBounds_toArray, List.set_cons_zero, List.set_cons_succ])))
        (refine walkR_only (fun w' => Ext wr' w') rfl (by decide +kernel) rfl ?_ ?_)
        · exact fun _ h => h
        intro K hK
        go_simp
        have hE1 := (Ext.alloc wr' (.cells #[] 81)).trans (Ext.drew _)
        have hsz1 : ((wr'.alloc (.cells #[] 81)).drew).heap.size = wr'.heap.size + 1 := by show (wr'.alloc _).heap.size = _; simp
        have HO1 : Hid (OwnK stepK (wr'.alloc (.cells #[] 81)).drew B ((wr'.alloc (.cells #[] 81)).drew).heap.size (some ⟨wr'.heap.size, 0, none⟩) 0 0 [] []) := ((OwnK.made0 stepK wr').below (Ext.drew _)).weaken (B' := B) (by omega) (Nat.le_refl _)
        have HP1 := hidP (((HO.out.below HX3.out).below hE1).front m (by omega))
        have HQ1 := hidP ((HO.out.below HX3.out).below hE1)
        refine hK _ _ hE1 ?_
        clear hK K hE
        (try simp only [Act.put, List.setIfInBounds_toArray, List.set_cons_zero, List.set_cons_succ])
        obtain ⟨w1, hw1⟩ : ∃ w1, w1 = (wr'.alloc (.cells #[] 81)).drew := ⟨_, rfl⟩
        rw [← hw1] at HO1 HP1 HQ1 hE1 hsz1
        first | rw [← hw1] | skip
        clear hw1
        (refine walkR_only (fun w' => Ext wr' w') rfl (by decide +kernel) rfl ?_ ?_)
        · exact fun _ h => h
        intro K hK
        refine wp_append_part stepK 63 (.agg #[.slice none 0 0, .int .i64 0]) 32 (.tmp 73) (.tmp 76) rfl Try.underlying63 Try.info81 rfl (by omega) B _ wr'.heap.size 0 0 [] (hs.take m) [] (xs.take m) rfl HO1.out go 0 m co rfl HP1.out (fun i j hi => by omega) (by omega) (by omega) ?_
        intro g4 c4 w4 ho4 hg4 hn4
        rw [List.nil_append, List.nil_append, Nat.zero_add] at ho4
        rw [Nat.zero_add]
        have hE4 : Ext wr' w4 := Below.past_block2 hE1 hg4 (by omega) (Nat.le_refl _)
        have HQ4 := hidP (HQ1.out.past hg4 (fun g o e => by simp only [Option.some.injEq, Addr.mk.injEq] at e; omega) (by omega))
        have HO4 := hidP ho4
        have hg4b : wr'.heap.size ≤ g4 := by omega
        have hsz4 := hg4.size
        refine hK _ _ hE4 ?_
        clear hK K ho4 hg4 hn4 hE1
        (try simp only [Act.put, List.setIfInBounds_toArray, List.set_cons_zero, List.set_cons_succ])
        (refine walkR_only (fun w' => Ext wr' w') rfl (by decide +kernel) rfl (fun _ h => h) ?_; intro K hK; go_simp; refine (HI.out _ (HX3.out.trans hE4)).mono ?_; rintro e w6 ⟨a1, c1, rfl, ho1, hx6⟩; refine hK _ _ (hE4.trans hx6) ?_; clear hK K; (try simp only [Act.put, List.setIfInBounds_toArray, List.set_cons_zero, List.set_cons_succ]))
        have hE6 := hE4.trans hx6
        (refine walkR_only (fun w' => Ext wr' w') rfl (by decide +kernel) rfl (fun _ h => h) ?_; intro K hK; go_simp; refine (HMd.out _).mono ?_; rintro e w' ⟨rfl, rfl⟩; refine hK _ _ (hE6) ?_; clear hK K; (try simp only [Act.put, List.setIfInBounds_toArray, List.set_cons_zero, List.set_cons_succ]))
        (repeat (first | (refine walkR_still (v := ?_) rfl (by decide +kernel) rfl (fun _ _ _ h => h) hE6 ?_ ?_; rotate_left; (focus (intro w' hw'; skip; go_simp; all_goals (with_reducible rfl))); simp only [Act.put, List.setIfInBounds_toArray, List.set_cons_zero, List.set_cons_succ]) | (refine walkR_skip rfl (by decide +kernel) rfl (fun _ _ _ h => h) hE6 ?_; simp only [Act.put, List.setIfInBounds_toArray, List.set_cons_zero, List.set_cons_succ])))
        (refine walkR_only (fun w' => Ext wr' w') rfl (by decide +kernel) rfl ?_ ?_)
        · exact fun _ h => h
        intro K hK
        go_simp
        have hxa := Ext.alloc w6 (.cells #[.slice a1 W.length c1, .int .i64 v] 81)
        have hE7 := hE6.trans hxa
        have HO7 := hidP (HO4.out.below (hx6.trans hxa))
        have HQ7 := hidP (HQ4.out.below (hx6.trans hxa))
        have HI7 := hidP ((ho1.below hxa).base (B' := B) (by omega))
        have HA1 : Hid (∀ b o, a1 = some ⟨b, o, none⟩ → w4.heap.size ≤ b) := fun b o e => (ho1.at_base b o e).1
        have HP7 : Hid (PartK stepK (w6.alloc (.cells #[.slice a1 W.length c1, .int .i64 v] 81)) B w6.heap.size 0 1 [(a1, c1)] [(W, v)]) := PartK.single (fun j _ => (cell_top _ _ _ _ _ rfl).trans (by simp [stepK])) HI7.out
        have hsz7 := (hx6.trans hxa).size
        refine hK _ _ hE7 ?_
        clear hK K ho1 hx6 hE4 hE6 hxa
        (try simp only [Act.put, List.setIfInBounds_toArray, List.set_cons_zero, List.set_cons_succ])
        obtain ⟨w7, hw7⟩ : ∃ w7, w7 = w6.alloc (.cells #[.slice a1 W.length c1, .int .i64 v] 81) := ⟨_, rfl⟩
        rw [← hw7] at HO7 HQ7 HI7 HP7 hsz7 hE7
        first | rw [← hw7] | skip
        clear hw7
        (refine walkR_only (fun w' => Ext wr' w') rfl (by decide +kernel) rfl ?_ ?_)
        · exact fun _ h => h
        intro K hK
        refine wp_append_part stepK 63 (.agg #[.slice none 0 0, .int .i64 0]) 32 (.tmp 77) (.tmp 84) rfl Try.underlying63 Try.info81 rfl (by omega) B _ g4 m c4 (hs.take m) [(a1, c1)] (xs.take m) [(W, v)] rfl HO7.out w6.heap.size 0 1 1 rfl HP7.out (fun i j hi hj b o b' o' e e' => by
          obtain rfl : j = 0 := by omega
          have h1 := HA1.out b' o' e'
          have h2 := HQ7.out.lt i (by omega) b o (by rw [← e]; simp [List.getD_eq_getElem?_getD, List.getElem?_take, hi])
          omega) (by omega) (by omega) ?_
        intro g10 c10 w10 ho10 hg10 hn10
        have hE10 : Ext wr' w10 := Below.past_block2 hE7 hg10 hE7.size hg4b
        have HQ10 := hidP (HQ7.out.past hg10 (fun g o e => by simp only [Option.some.injEq, Addr.mk.injEq] at e; omega) (by omega))
        have HO10 := hidP ho10
        have hg10b : wr'.heap.size ≤ g10 := by have := hE7.size; omega
        have HP10 := hidP (HQ10.out.part m (by omega))
        refine hK _ _ hE10 ?_
        clear hK K ho10 hg10 hn10 hE7
        (try simp only [Act.put, List.setIfInBounds_toArray, List.set_cons_zero, List.set_cons_succ])
        (refine walkR_tail (by rfl) (by kernel_rfl) ?_; simp only [List.drop_succ_cons, List.drop_zero])
        have hx61 : (if co = m then some (⟨go, 0, none⟩ : Addr) else some ⟨go, m * 2, none⟩) = some ⟨go, if co = m then 0 else m * 2, none⟩ := by split <;> rfl
        have HP61 := hidP (HP10.out.moved (o' := if co = m then 0 else m * 2) (by
          by_cases hck : co = m
          · right; omega
          · left; rw [if_neg hck]; rfl))
        rw [hx61]
        clear hx61
        refine wpList_append_part stepK 63 (.agg #[.slice none 0 0, .int .i64 0]) 32 rfl (.tmp 85) (.tmp 88) rfl Try.underlying63 Try.info81 rfl (by omega) B _ g10 (m + 1) c10 _ (hs.drop m) _ (xs.drop m) rfl HO10.out go _ (m - m) (co - m) (by first | rfl | (rw [Nat.sub_self]; rfl)) HP61.out ?_ (by omega) (by have := hE10.size; omega) ?_
        · intro i j hi hj b o b' o' e e'
          have hhl10 := HQ10.out.hl
          have e2 : (hs.getD (m + j) (none, 0)).1 = some ⟨b', o', none⟩ := by rw [← e']; simp [List.getD_eq_getElem?_getD, List.getElem?_drop]
          by_cases hi2 : i < m
          · have e1 : (hs.getD i (none, 0)).1 = some ⟨b, o, none⟩ := by
              rw [← e, getD_left _ _ _ _ (by simp; omega)]
              simp [List.getD_eq_getElem?_getD, List.getElem?_take, hi2]
            exact HQ10.out.apart i (m + j) (by omega) (by omega) (by omega) b o b' o' e1 e2
          · have e1 : a1 = some ⟨b, o, none⟩ := by
              rw [← e, getD_right _ _ _ _ (by simp; omega)]
              have : i - (hs.take m).length = 0 := by simp; omega
              rw [this]
              rfl
            have h1 := HA1.out b o e1
            have h2 := HQ10.out.lt (m + j) (by omega) b' o' e2
            omega
        intro g14 c14 w14 ho14 hg14 hn14
        have hE14 : Ext wr' w14 := Below.past_block2 hE10 hg14 hE10.size hg10b
        have hX14 : Ext w w14 := HX3.out.trans hE14
        have hn14 : m + 1 + (m - m) = m + 1 := by omega
        rw [hn14] at ho14 ⊢
        rw [← HNe.out] at ho14
        have HO14 := hidP ho14
        have HB14 : Hid (Below B w w14) := Below.mono hX14 HB.out
        clear ho14 hg14 hE10 hE14 hX14
        go_wp2
        all_goals go_ret
        all_goals first | exact ⟨g14, m + 1, c14, _, rfl, HO14.out, HB14.out⟩ | exact ⟨g14, m + 1, c14, rfl, ⟨_, HO14.out⟩, HB14.out⟩
end Go.Proofs.Ytenlhfimdpcaoaa

namespace Go.Proofs.Ytenlhfimdpcaoaa
open Go.RowKit

theorem NormM.at {p : Int} {l : List Tm} (h : NormM p l) {i : Nat} (hi : i < l.length) : 0 < lenAt l i ∧ lenAt l i < p := by
  have := h.num (l.getD i ([], 0)) (by rw [getTm hi]; exact List.getElem_mem hi)
  exact this
/-- v times a list, not reduced -/
def scaleQ (v : Int) (us : List Tm) : List Tm := us.map fun q => (q.1, v * q.2)
theorem scaleQ_at (v : Int) (us : List Tm) {k : Nat} (hk : k < us.length) : wayAt (scaleQ v us) k = wayAt us k ∧ lenAt (scaleQ v us) k = v * lenAt us k := by
  unfold wayAt lenAt scaleQ
  simp [List.getD_eq_getElem?_getD, hk]
theorem scaleQ_length (v : Int) (us : List Tm) : (scaleQ v us).length = us.length := by simp [scaleQ]
set_option maxRecDepth 100000 in
set_option maxHeartbeats 4000000 in
theorem l11Join_any (p : Int) (a : Option Addr) (n c : Nat) (us : List Tm) (m : Int) (a' : Option Addr) (n' c' : Nat) (vs : List Tm) (w : World) (h : StepsAt w a n us) (h' : StepsAt w a' n' vs) (hn : n ≤ 100000) (hn' : n' ≤ 100000) (hp : 2 ≤ p) (hp2 : p ≤ 10007)
    (hw : ∀ k, k < n → (wayAt us k).length ≤ 1000000 ∧ 0 ≤ lenAt us k ∧ lenAt us k ≤ 10007) (hw' : ∀ k, k < n' → (wayAt vs k).length ≤ 1000000 ∧ 0 ≤ lenAt vs k ∧ lenAt vs k ≤ 10007) :
    Calls Try.prog 54 #[.int .i64 p, .slice a n c, .int .i64 m, .slice a' n' c'] w fun e w' => ∃ g q c' hs, e = .returned (.slice (some ⟨g, 0, none⟩) q c') ∧ OwnK stepK w' w.heap.size w'.heap.size (some ⟨g, 0, none⟩) q c' hs (putsM p [] (joinE p m us vs)) ∧ Ext w w' := by
  have H := hidP h
  have H' := hidP h'
  have HW := hidP hw
  have HW' := hidP hw'
  have hnl := h.len
  have hnl' := h'.len
  have HM0 : Hid (OwnK stepK (w.alloc (.cells #[] 81)) w.heap.size (w.alloc (.cells #[] 81)).heap.size (some ⟨w.heap.size, 0, none⟩) 0 0 [] (putsM p [] (us.take 0))) := OwnK.made0 stepK w
  have HX0 := hidP (Ext.alloc w (.cells #[] 81))
  have hm0 := Int.emod_nonneg m (show p ≠ 0 by omega)
  have hm1 := Int.emod_lt_of_pos m (show 0 < p by omega)
  have HMd := hidP (fun w' => l1Mod_any m p w' (by omega) (by omega))
  have HJn : Hid (joinE p m us vs = us ++ scaleQ (m % p) vs) := rfl
  obtain ⟨v, hv⟩ : ∃ v, v = m % p := ⟨_, rfl⟩
  rw [← hv] at hm0 hm1 HMd HJn
  clear h h' hw hw' hv
  go_enter Try.func54, Try.ntmps54
  go_wp2
  go_loopw [9, 10] (fun out i wr => ∃ (k g co q : Nat) (hs : List Hdr), k ≤ n ∧ out = .slice (some ⟨g, 0, none⟩) q co ∧ i = .int .i64 k ∧ Hid (OwnK stepK wr w.heap.size wr.heap.size (some ⟨g, 0, none⟩) q co hs (putsM p [] (us.take k))) ∧ Hid (Ext w wr)) (fun _ i _ => n - (intOf i).toNat)
  case atStart => exact ⟨0, _, _, _, [], Nat.zero_le _, rfl, rfl, HM0, HX0⟩
  case round =>
    clear HM0 HX0
    obtain ⟨k, g, co, q, hs, hk, rfl, rfl, HO, HX⟩ := hrel
    by_cases hlt : k < n
    · obtain ⟨b0, o, aw, cw, W, L, rfl, HWy, HL, hwl, HNl, hq⟩ := (H.out.below HX.out).way k hlt
      have HQ := hidP hq
      have hww := HW.out k hlt
      rw [HWy.out, HL.out] at hww
      obtain ⟨hW1, hL1, hL2⟩ := hww
      have hql := HO.out.xl
      have hpl := putsM_length p (us.take k) []
      rw [List.length_take] at hpl
      simp only [List.length_nil] at hpl
      have hor := (NormM.nil p).puts (show 0 < p by omega) (us.take k)
      have HPt := hidP (fun w' (hx : Ext wr w') => l11Put_any p w.heap.size g q co hs (putsM p [] (us.take k)) aw cw W L w' ((HO.out.below hx).weaken (Nat.le_refl _) hx.size) (HQ.out w' hx).2.2 HNl.out hW1 (by omega) (Nat.le_trans HX.out.size hx.size) (by omega) hp2 (by omega) (by omega) (fun i hi => by
        have := hor.at (i := i) (by omega)
        omega))
      have HTk : Hid (putM p (putsM p [] (us.take k)) W L = putsM p [] (us.take (k + 1))) := by
        show _ = _
        rw [putsM_take _ _ _ (by omega), HWy.out, HL.out]
      have hE : Ext wr wr.drew := Ext.drew wr
      clear hq hL1 hL2 hql hpl hor hW1
      go_wp2
      (refine walkR_start (fun w' => Ext wr w') 12 (by kernel_rfl) ?_; simp only [numbered, List.take_succ_cons, List.take_zero, Nat.zero_add, Nat.reduceAdd, List.length_cons, List.length_nil])
      (repeat (first | (refine walkR_still (v := ?_) rfl (by decide +kernel) rfl (fun _ _ _ h => h) hE ?_ ?_; rotate_left; (focus (intro w' hw'; obtain ⟨q1, q2, _⟩ := HQ.out w' hw'; go_simp; all_goals (with_reducible rfl))); simp only [Act.put, List.setIfInBounds_toArray, List.set_cons_zero, List.set_cons_succ]) | (refine walkR_skip rfl (by decide +kernel) rfl (fun _ _ _ h => h) hE ?_; simp only [Act.put, List.setIfInBounds_toArray, List.set_cons_zero, List.set_cons_succ])))
      have HPt2 := hidP (HPt.out _ hE)
      have HXE := hidP (HX.out.trans hE)
      clear hE HPt
      (refine walkR_tail (by rfl) (by kernel_rfl) ?_; simp only [List.drop_succ_cons, List.drop_zero])
      go_wp2_with fail
      refine HPt2.out.mono ?_
      rintro e w2 ⟨g2, q2, c2, hs2, rfl, ho2, hx2⟩
      rw [HTk.out] at ho2
      have HO2 := hidP ho2
      have HX2 : Hid (Ext w w2) := Below.trans HXE.out hx2
      clear ho2 hx2
      go_wp2
      go_roundw
      case rel => exact ⟨k + 1, g2, c2, q2, hs2, by omega, rfl, by go_num, HO2, HX2⟩
      case measure => simp [intOf]; omega
    · obtain rfl : n = k := by omega
      have HT : Hid (us.take n = us ++ (scaleQ v vs).take 0) := by
        show _ = _
        rw [List.take_of_length_le (by omega), List.take_zero, List.append_nil]
      rw [HT.out] at HO
      go_wp2
      go_loopw [9, 11] (fun out i wr => ∃ (k g co q : Nat) (hs : List Hdr), k ≤ n' ∧ out = .slice (some ⟨g, 0, none⟩) q co ∧ i = .int .i64 k ∧ Hid (OwnK stepK wr w.heap.size wr.heap.size (some ⟨g, 0, none⟩) q co hs (putsM p [] (us ++ (scaleQ v vs).take k))) ∧ Hid (Ext w wr)) (fun _ i _ => n' - (intOf i).toNat)
      case atStart => exact ⟨0, _, _, _, _, Nat.zero_le _, rfl, rfl, HO, HX⟩
      case round =>
        clear HO HX
        obtain ⟨k, g, co, q, hs, hk, rfl, rfl, HO, HX⟩ := hrel
        by_cases hlt : k < n'
        · obtain ⟨b0, o, aw, cw, W, L, rfl, HWy, HL, hwl, HNl, hq⟩ := (H'.out.below HX.out).way k hlt
          have HQ := hidP hq
          have hww := HW'.out k hlt
          rw [HWy.out, HL.out] at hww
          obtain ⟨hW1, hL1, hL2⟩ := hww
          have hvL : 0 ≤ v * L := Int.mul_nonneg hm0 hL1
          have hvL2 : v * L ≤ 10007 * 10007 := Int.mul_le_mul (by omega) hL2 hL1 (by omega)
          have hvw : IntKind.i64.wrap (v * L) = v * L := wrap_in (by omega) (by omega)
          have hql := HO.out.xl
          have hpl := putsM_length p (us ++ (scaleQ v vs).take k) []
          rw [List.length_append, List.length_take, scaleQ_length] at hpl
          simp only [List.length_nil] at hpl
          have hor := (NormM.nil p).puts (show 0 < p by omega) (us ++ (scaleQ v vs).take k)
          obtain ⟨hs1, hs2⟩ := scaleQ_at v vs (k := k) (by omega)
          have HPt := hidP (fun w' (hx : Ext wr w') => l11Put_any p w.heap.size g q co hs (putsM p [] (us ++ (scaleQ v vs).take k)) aw cw W (v * L) w' ((HO.out.below hx).weaken (Nat.le_refl _) hx.size) (HQ.out w' hx).2.2 HNl.out hW1 (by omega) (Nat.le_trans HX.out.size hx.size) (by omega) hp2 (by omega) (by omega) (fun i hi => by
            have := hor.at (i := i) (by omega)
            omega))
          have HTk : Hid (putM p (putsM p [] (us ++ (scaleQ v vs).take k)) W (v * L) = putsM p [] (us ++ (scaleQ v vs).take (k + 1))) := by
            show _ = _
            rw [putsM_append, putsM_append, putsM_take _ _ _ (by rw [scaleQ_length]; omega), hs1, hs2, HWy.out, HL.out]
          have hE : Ext wr wr.drew := Ext.drew wr
          clear hq hL1 hL2 hql hpl hor hW1 hs1 hs2 hvL hvL2
          go_wp2
          (refine walkR_start (fun w' => Ext wr w') 16 (by kernel_rfl) ?_; simp only [numbered, List.take_succ_cons, List.take_zero, Nat.zero_add, Nat.reduceAdd, List.length_cons, List.length_nil])
          (repeat (first | (refine walkR_still (v := ?_) rfl (by decide +kernel) rfl (fun _ _ _ h => h) hE ?_ ?_; rotate_left; (focus (intro w' hw'; obtain ⟨q1, q2, _⟩ := HQ.out w' hw'; go_simp; all_goals (with_reducible rfl))); simp only [Act.put, List.setIfInBounds_toArray, List.set_cons_zero, List.set_cons_succ]) | (refine walkR_skip rfl (by decide +kernel) rfl (fun _ _ _ h => h) hE ?_; simp only [Act.put, List.setIfInBounds_toArray, List.set_cons_zero, List.set_cons_succ])))
          (refine walkR_later ?_; simp only [List.cons_append, List.nil_append])
          (repeat (first | (refine walkR_still (v := ?_) rfl (by decide +kernel) rfl (fun _ _ _ h => h) hE ?_ ?_; rotate_left; (focus (intro w' hw'; obtain ⟨q1, q2, _⟩ := HQ.out w' hw'; go_simp; all_goals (with_reducible rfl))); simp only [Act.put, List.setIfInBounds_toArray, List.set_cons_zero, List.set_cons_succ]) | (refine walkR_skip rfl (by decide +kernel) rfl (fun _ _ _ h => h) hE ?_; simp only [Act.put, List.setIfInBounds_toArray, List.set_cons_zero, List.set_cons_succ])))
          (refine walkR_later ?_; simp only [List.cons_append, List.nil_append])
          (refine walkR_only (fun w' => Ext wr w') rfl (by decide +kernel) rfl (fun _ h => h) ?_; intro K hK; go_simp; refine (HMd.out _).mono ?_; rintro e w' ⟨rfl, rfl⟩; refine hK _ _ (hE) ?_; clear hK K; (try simp only [Act.put, List.setIfInBounds_toArray, List.set_cons_zero, List.set_cons_succ]))
          (repeat (first | (refine walkR_still (v := ?_) rfl (by decide +kernel) rfl (fun _ _ _ h => h) hE ?_ ?_; rotate_left; (focus (intro w' hw'; obtain ⟨q1, q2, _⟩ := HQ.out w' hw'; go_simp; all_goals (with_reducible rfl))); simp only [Act.put, List.setIfInBounds_toArray, List.set_cons_zero, List.set_cons_succ]) | (refine walkR_skip rfl (by decide +kernel) rfl (fun _ _ _ h => h) hE ?_; simp only [Act.put, List.setIfInBounds_toArray, List.set_cons_zero, List.set_cons_succ])))
          have HPt2 := hidP (HPt.out _ hE)
          have HXE := hidP (HX.out.trans hE)
          clear hE HPt
          (refine walkR_tail (by rfl) (by kernel_rfl) ?_; simp only [List.drop_succ_cons, List.drop_zero])
          go_wp2_with fail
          refine HPt2.out.mono ?_
          rintro e w2 ⟨g2, q2, c2, hs2, rfl, ho2, hx2⟩
          rw [HTk.out] at ho2
          have HO2 := hidP ho2
          have HX2 : Hid (Ext w w2) := Below.trans HXE.out hx2
          clear ho2 hx2
          go_wp2
          go_roundw
          case rel => exact ⟨k + 1, g2, c2, q2, hs2, by omega, rfl, by go_num, HO2, HX2⟩
          case measure => simp [intOf]; omega
        · obtain rfl : n' = k := by omega
          have HT2 : Hid (us ++ (scaleQ v vs).take n' = joinE p m us vs) := by
            show _ = _
            rw [List.take_of_length_le (by rw [scaleQ_length]; omega), HJn.out]
          rw [HT2.out] at HO
          go_wp2
          go_ret
          exact ⟨g, q, co, hs, rfl, HO.out, HX.out⟩
end Go.Proofs.Ytenlhfimdpcaoaa

namespace Go.Proofs.Ytenlhfimdpcaoaa
open Go.RowKit

/-- one row of the pairs, the first j of them -/
def rowM (p : Int) (q : Tm) (v : List Tm) : List Tm := v.flatMap fun r => [(q.1 ++ r.1, q.2 * r.2 % p), (r.1 ++ q.1, 0 - q.2 * r.2 % p)]
def pairsTo (p : Int) (u v : List Tm) (i j : Nat) : List Tm := pairsM p (u.take i) v ++ rowM p (u.getD i ([], 0)) (v.take j)
theorem rowM_snoc (p : Int) (q : Tm) (v : List Tm) (r : Tm) : rowM p q (v ++ [r]) = rowM p q v ++ [(q.1 ++ r.1, q.2 * r.2 % p), (r.1 ++ q.1, 0 - q.2 * r.2 % p)] := by
  unfold rowM
  rw [List.flatMap_append]
  simp
theorem pairsM_snoc (p : Int) (u : List Tm) (q : Tm) (v : List Tm) : pairsM p (u ++ [q]) v = pairsM p u v ++ rowM p q v := by
  unfold pairsM rowM
  rw [List.flatMap_append]
  simp
theorem take_snocT (v : List Tm) {j : Nat} (hj : j < v.length) : v.take (j + 1) = v.take j ++ [v.getD j ([], 0)] := by
  rw [List.take_succ_eq_append_getElem hj, ← getTm hj]
theorem pairsTo_zero (p : Int) (u v : List Tm) : pairsTo p u v 0 0 = [] := by unfold pairsTo; simp [pairsM, rowM]
theorem pairsTo_step (p : Int) (u v : List Tm) (i : Nat) {j : Nat} (hj : j < v.length) :
    pairsTo p u v i (j + 1) = pairsTo p u v i j ++ [(wayAt u i ++ wayAt v j, lenAt u i * lenAt v j % p), (wayAt v j ++ wayAt u i, 0 - lenAt u i * lenAt v j % p)] := by
  unfold pairsTo
  rw [take_snocT v hj, rowM_snoc, List.append_assoc]
  rfl
theorem pairsTo_row (p : Int) (u v : List Tm) {i : Nat} (hi : i < u.length) : pairsTo p u v i v.length = pairsTo p u v (i + 1) 0 := by
  unfold pairsTo
  rw [List.take_length, take_snocT u hi, pairsM_snoc, List.take_zero]
  show _ = _ ++ []
  rw [List.append_nil]
theorem pairsTo_all (p : Int) (u v : List Tm) : pairsTo p u v u.length 0 = pairsM p u v := by
  unfold pairsTo
  rw [List.take_length, List.take_zero]
  show _ ++ [] = _
  rw [List.append_nil]
theorem rowM_length (p : Int) (q : Tm) (v : List Tm) : (rowM p q v).length = v.length * 2 := by
  induction v with
  | nil => rfl
  | cons r v ih => unfold rowM at ih ⊢; rw [List.flatMap_cons, List.length_append, ih]; simp; omega
theorem pairsM_length (p : Int) (u v : List Tm) : (pairsM p u v).length = u.length * (v.length * 2) := by
  induction u with
  | nil => simp [pairsM]
  | cons q u ih =>
    have : pairsM p (q :: u) v = rowM p q v ++ pairsM p u v := rfl
    rw [this, List.length_append, rowM_length, ih, List.length_cons, Nat.add_mul, Nat.one_mul, Nat.add_comm]
theorem putsM_two (p : Int) (l : List Tm) (x y : Tm) : putsM p [] (l ++ [x, y]) = putM p (putM p (putsM p [] l) x.1 x.2) y.1 y.2 := by
  rw [putsM_append]
  rfl
set_option maxRecDepth 100000 in
set_option maxHeartbeats 8000000 in
theorem l11Product_any (p : Int) (a : Option Addr) (n c : Nat) (us : List Tm) (a' : Option Addr) (n' c' : Nat) (vs : List Tm) (w : World) (h : StepsAt w a n us) (h' : StepsAt w a' n' vs) (hn : n ≤ 10000) (hn' : n' ≤ 10000) (hp : 2 ≤ p) (hp2 : p ≤ 10007)
    (hw : ∀ k, k < n → 1 ≤ (wayAt us k).length ∧ (wayAt us k).length ≤ 1000 ∧ 0 ≤ lenAt us k ∧ lenAt us k ≤ 10007) (hw' : ∀ k, k < n' → 1 ≤ (wayAt vs k).length ∧ (wayAt vs k).length ≤ 1000 ∧ 0 ≤ lenAt vs k ∧ lenAt vs k ≤ 10007) :
    Calls Try.prog 51 #[.int .i64 p, .slice a n c, .slice a' n' c'] w fun e w' => ∃ g q c' hs, e = .returned (.slice (some ⟨g, 0, none⟩) q c') ∧ OwnK stepK w' w.heap.size w'.heap.size (some ⟨g, 0, none⟩) q c' hs (prodM p us vs) ∧ Ext w w' := by
  have H := hidP h
  have H' := hidP h'
  have HW := hidP hw
  have HW' := hidP hw'
  have hnl := h.len
  have hnl' := h'.len
  have HZ := hidP (pairsTo_zero p us vs)
  have HM0 : Hid (OwnK stepK (w.alloc (.cells #[] 81)) w.heap.size (w.alloc (.cells #[] 81)).heap.size (some ⟨w.heap.size, 0, none⟩) 0 0 [] (putsM p [] (pairsTo p us vs 0 0))) := by
    show OwnK _ _ _ _ _ _ _ _ _
    rw [HZ.out]
    exact OwnK.made0 stepK w
  have HX0 := hidP (Ext.alloc w (.cells #[] 81))
  have HSt := hidP (fun i j (hj : j < vs.length) => pairsTo_step p us vs i hj)
  have HRo := hidP (fun i (hi : i < us.length) => pairsTo_row p us vs hi)
  have HAl := hidP (pairsTo_all p us vs)
  rw [hnl'] at HRo
  rw [hnl] at HAl
  have HPr : Hid (prodM p us vs = putsM p [] (pairsM p us vs)) := rfl
  have HLb : Hid (∀ i j, i < n → j ≤ n' → (putsM p [] (pairsTo p us vs i j)).length ≤ 800000000) := by
    intro i j hi hj
    have h1 := putsM_length p (pairsTo p us vs i j) []
    have h2 : (pairsTo p us vs i j).length ≤ 10000 * 20000 + 20000 := by
      unfold pairsTo
      rw [List.length_append, pairsM_length, rowM_length, List.length_take, List.length_take]
      have := Nat.mul_le_mul (show min i us.length ≤ 10000 by omega) (show vs.length * 2 ≤ 20000 by omega)
      omega
    simp only [List.length_nil] at h1
    omega
  have HNo := hidP (fun l => (NormM.nil p).puts (show 0 < p by omega) l)
  clear h h' hw hw'
  go_enter Try.func51, Try.ntmps51
  go_wp2
  go_loopw [7, 8] (fun out iv wr => ∃ (i g co q : Nat) (hs : List Hdr), i ≤ n ∧ out = .slice (some ⟨g, 0, none⟩) q co ∧ iv = .int .i64 i ∧ Hid (OwnK stepK wr w.heap.size wr.heap.size (some ⟨g, 0, none⟩) q co hs (putsM p [] (pairsTo p us vs i 0))) ∧ Hid (Ext w wr)) (fun _ iv _ => n - (intOf iv).toNat)
  case atStart => exact ⟨0, _, _, _, [], Nat.zero_le _, rfl, rfl, HM0, HX0⟩
  case round =>
    clear HM0 HX0
    obtain ⟨i, g, co, q, hs, hi, rfl, rfl, HO, HX⟩ := hrel
    obtain ⟨wo, rfl⟩ : ∃ wo : World, wo = wr := ⟨_, rfl⟩
    by_cases hlt : i < n
    · go_wp2
      go_loopw [7, 9] (fun out jv wr => ∃ (j g co q : Nat) (hs : List Hdr), j ≤ n' ∧ out = .slice (some ⟨g, 0, none⟩) q co ∧ jv = .int .i64 j ∧ Hid (OwnK stepK wr w.heap.size wr.heap.size (some ⟨g, 0, none⟩) q co hs (putsM p [] (pairsTo p us vs i j))) ∧ Hid (Ext w wr)) (fun _ jv _ => n' - (intOf jv).toNat)
      case atStart => exact ⟨0, _, _, _, _, Nat.zero_le _, rfl, rfl, HO, HX⟩
      case round =>
        clear HO HX
        obtain ⟨j, g, co, q, hs, hj, rfl, rfl, HO, HX⟩ := hrel
        by_cases hjl : j < n'
        · obtain ⟨bU, oU, aU, cU, U, LU, rfl, HUy, HUl, hul, HUn, hqU⟩ := H.out.way i hlt
          obtain ⟨bV, oV, aV, cV, V, LV, rfl, HVy, HVl, hvl, HVn, hqV⟩ := H'.out.way j hjl
          have HQ := hidP (fun w' (hx : Ext w w') => (⟨(hqU w' hx).1, (hqU w' hx).2.1, (hqV w' hx).1, (hqV w' hx).2.1⟩ : _ ∧ _ ∧ _ ∧ _))
          have HIU := hidP (fun w' (hx : Ext w w') => (hqU w' hx).2.2)
          have HIV := hidP (fun w' (hx : Ext w w') => (hqV w' hx).2.2)
          obtain ⟨u0, u1, u2, u3⟩ := HW.out i hlt
          obtain ⟨v0, v1, v2, v3⟩ := HW'.out j hjl
          have hst := HSt.out i j (by omega)
          rw [HUy.out, HUl.out, HVy.out, HVl.out] at hst
          rw [HUy.out] at u0 u1
          rw [HUl.out] at u2 u3
          rw [HVy.out] at v0 v1
          rw [HVl.out] at v2 v3
          obtain ⟨d1, o1, rfl, _⟩ := (HIU.out w (Ext.refl _)).get 0 u0
          obtain ⟨d2, o2, rfl, _⟩ := (HIV.out w (Ext.refl _)).get 0 v0
          have hm0 : 0 ≤ LU * LV := Int.mul_nonneg u2 v2
          have hm1 : LU * LV ≤ 100140049 := Int.le_trans (Int.mul_le_mul u3 v3 v2 (by decide)) (by decide)
          have e1 : IntKind.i64.wrap (LU * LV) = LU * LV := wrap_in (by omega) (by omega)
          have e2 : Int.tmod (LU * LV) p = LU * LV % p := Int.tmod_eq_emod_of_nonneg hm0
          have hpz : ¬ p = 0 := by omega
          have HMb : Hid (0 ≤ LU * LV % p ∧ LU * LV % p < p) := ⟨Int.emod_nonneg _ hpz, Int.emod_lt_of_pos _ (by omega)⟩
          have HST := hidP hst
          have hql := HO.out.xl
          have hqb := HLb.out i j hlt hj
          have HLb1 := hidP hqb
          have HN1 := hidP (HNo.out (pairsTo p us vs i j))
          have HTw := hidP (putsM_two p (pairsTo p us vs i j))
          clear hst hqU hqV
          generalize LU * LV % p = mm at *
          generalize pairsTo p us vs i j = PT at *
          have hE : Ext wr wr.drew := Ext.drew wr
          go_wp2
          (refine walkR_start (fun w' => Ext wr w') 13 (by kernel_rfl) ?_; simp only [numbered, List.take_succ_cons, List.take_zero, Nat.zero_add, Nat.reduceAdd, List.length_cons, List.length_nil])
          (repeat (first | (refine walkR_still (v := ?_) rfl (by decide +kernel) rfl (fun _ _ _ h => h) hE ?_ ?_; rotate_left; (focus (intro w' hw'; obtain ⟨q1, q2, q3, q4⟩ := HQ.out w' (HX.out.trans hw'); go_simp; all_goals (with_reducible rfl))); simp only [Act.put, List.setIfInBounds_toArray, List.set_cons_zero, List.set_cons_succ]) | (refine walkR_skip rfl (by decide +kernel) rfl (fun _ _ _ h => h) hE ?_; simp only [Act.put, List.setIfInBounds_toArray, List.set_cons_zero, List.set_cons_succ])))
          (refine walkR_tail (by rfl) (by kernel_rfl) ?_; simp only [List.drop_succ_cons, List.drop_zero])
          clear hm0 hm1 e1 e2
          go_wp2
          have hE2 : Ext wr wr.drew.drew := hE.trans (Ext.drew _)
          have HC1 := hidP (fun w' (hx : Ext w w') => l1Ints_any (some ⟨d1, o1, none⟩) U.length cU U w' (HIU.out w' hx) (fun e => by cases e) (by omega))
          have HC2 := hidP (fun w' (hx : Ext w w') => l1Ints_any (some ⟨d2, o2, none⟩) V.length cV V w' (HIV.out w' hx) (fun e => by cases e) (by omega))
          (refine walkR_start (fun w' => Ext wr w') 15 (by kernel_rfl) ?_; simp only [numbered, List.take_succ_cons, List.take_zero, Nat.zero_add, Nat.reduceAdd, List.length_cons, List.length_nil])
          (repeat (first | (refine walkR_still (v := ?_) rfl (by decide +kernel) rfl (fun _ _ _ h => h) hE2 ?_ ?_; rotate_left; (focus (intro w' hw'; obtain ⟨q1, q2, q3, q4⟩ := HQ.out w' (HX.out.trans hw'); go_simp; all_goals (with_reducible rfl))); simp only [Act.put, List.setIfInBounds_toArray, List.set_cons_zero, List.set_cons_succ]) | (refine walkR_skip rfl (by decide +kernel) rfl (fun _ _ _ h => h) hE2 ?_; simp only [Act.put, List.setIfInBounds_toArray, List.set_cons_zero, List.set_cons_succ])))
          (refine walkR_later ?_; simp only [List.cons_append, List.nil_append])
          (repeat (first | (refine walkR_still (v := ?_) rfl (by decide +kernel) rfl (fun _ _ _ h => h) hE2 ?_ ?_; rotate_left; (focus (intro w' hw'; obtain ⟨q1, q2, q3, q4⟩ := HQ.out w' (HX.out.trans hw'); go_simp; all_goals (with_reducible rfl))); simp only [Act.put, List.setIfInBounds_toArray, List.set_cons_zero, List.set_cons_succ]) | (refine walkR_skip rfl (by decide +kernel) rfl (fun _ _ _ h => h) hE2 ?_; simp only [Act.put, List.setIfInBounds_toArray, List.set_cons_zero, List.set_cons_succ])))
          (refine walkR_later ?_; simp only [List.cons_append, List.nil_append])
          (repeat (first | (refine walkR_still (v := ?_) rfl (by decide +kernel) rfl (fun _ _ _ h => h) hE2 ?_ ?_; rotate_left; (focus (intro w' hw'; obtain ⟨q1, q2, q3, q4⟩ := HQ.out w' (HX.out.trans hw'); go_simp; all_goals (with_reducible rfl))); simp only [Act.put, List.setIfInBounds_toArray, List.set_cons_zero, List.set_cons_succ]) | (refine walkR_skip rfl (by decide +kernel) rfl (fun _ _ _ h => h) hE2 ?_; simp only [Act.put, List.setIfInBounds_toArray, List.set_cons_zero, List.set_cons_succ])))
          (refine walkR_only (fun w' => Ext wr w') rfl (by decide +kernel) rfl (fun _ h => h) ?_; intro K hK; go_simp; refine (HC1.out _ (HX.out.trans hE2)).mono ?_; rintro e w4 ⟨a4, c4, rfl, ho4, hx4⟩; refine hK _ _ (hE2.trans hx4) ?_; clear hK K; (try simp only [Act.put, List.setIfInBounds_toArray, List.set_cons_zero, List.set_cons_succ]))
          have hE4 := hE2.trans hx4
          (refine walkR_only (fun w' => Ext wr w') rfl (by decide +kernel) rfl ?_ ?_)
          · exact fun _ h => h
          intro K hK
          refine wp_append_ints (.tmp 44) (.tmp 49) rfl wr.heap.size a4 U.length c4 U rfl (ho4.base hE2.size) ⟨d2, o2, none⟩ V.length cV V rfl (HIV.out _ (HX.out.trans hE4)) (by omega) hE4.size ?_
          intro a5 c5 w5 ho5 hg5
          have hE5 : Ext wr w5 := grown_ext hg5 hE4 hE4.size (fun q e => (ho4.base hE2.size).addr_base q e)
          have HO5 := hidP ho5
          have HE5 := hidP hE5
          refine hK _ _ hE5 ?_
          clear hK K ho5 hg5 hE5 hE4 hE2 hE ho4 hx4
          (try simp only [Act.put, List.setIfInBounds_toArray, List.set_cons_zero, List.set_cons_succ])
          (refine walkR_tail (by rfl) (by kernel_rfl) ?_; simp only [List.drop_succ_cons, List.drop_zero])
          have HX5 := hidP (HX.out.trans HE5.out)
          have HPt := hidP (l11Put_any p w.heap.size g q co hs (putsM p [] PT) a5 c5 (U ++ V) mm w5 ((HO.out.below HE5.out).weaken (Nat.le_refl _) HE5.out.size) (by rw [List.length_append]; exact HO5.out.ints) HO5.out.nil_cap (by rw [List.length_append]; omega) (by omega) HX5.out.size (by omega) hp2 (by have := HMb.out; omega) (by have := HMb.out; omega) (fun i hi => by
            have := HN1.out.at (i := i) (by omega)
            omega))
          rw [List.length_append] at HPt
          clear HO HO5 HN1 hql hqb
          go_wp2_with fail
          refine HPt.out.mono ?_
          rintro e w6 ⟨g6, q6, c6, hs6, rfl, ho6, hx6⟩
          have HO6 := hidP ho6
          have HX6 : Hid (Ext w w6) := Below.trans HX5.out hx6
          clear ho6 hx6 HPt HE5 HX5 HX
          have hql6 := HO6.out.xl
          have HN6 : Hid (NormM p (putM p (putsM p [] PT) (U ++ V) mm)) := (HNo.out PT).put (by omega) _ _
          have HLe : Hid (q6 ≤ 800000001) := by
            show _ ≤ _
            have h1 := HLb1.out
            have h2 := putsM_length p [(U ++ V, mm)] (putsM p [] PT)
            rw [putsM_one] at h2
            simp only [List.length_cons, List.length_nil] at h2
            omega
          have hqb6 := HLe.out
          go_wp2
          have hE : Ext w w6.drew := HX6.out.trans (Ext.drew w6)
          (refine walkR_start (fun w' => Ext w w') 16 (by kernel_rfl) ?_; simp only [numbered, List.take_succ_cons, List.take_zero, Nat.zero_add, Nat.reduceAdd, List.length_cons, List.length_nil])
          (repeat (first | (refine walkR_still (v := ?_) rfl (by decide +kernel) rfl (fun _ _ _ h => h) hE ?_ ?_; rotate_left; (focus (intro w' hw'; obtain ⟨q1, q2, q3, q4⟩ := HQ.out w' hw'; go_simp; all_goals (with_reducible rfl))); simp only [Act.put, List.setIfInBounds_toArray, List.set_cons_zero, List.set_cons_succ]) | (refine walkR_skip rfl (by decide +kernel) rfl (fun _ _ _ h => h) hE ?_; simp only [Act.put, List.setIfInBounds_toArray, List.set_cons_zero, List.set_cons_succ])))
          (refine walkR_later ?_; simp only [List.cons_append, List.nil_append])
          (repeat (first | (refine walkR_still (v := ?_) rfl (by decide +kernel) rfl (fun _ _ _ h => h) hE ?_ ?_; rotate_left; (focus (intro w' hw'; obtain ⟨q1, q2, q3, q4⟩ := HQ.out w' hw'; go_simp; all_goals (with_reducible rfl))); simp only [Act.put, List.setIfInBounds_toArray, List.set_cons_zero, List.set_cons_succ]) | (refine walkR_skip rfl (by decide +kernel) rfl (fun _ _ _ h => h) hE ?_; simp only [Act.put, List.setIfInBounds_toArray, List.set_cons_zero, List.set_cons_succ])))
          (refine walkR_later ?_; simp only [List.cons_append, List.nil_append])
          (repeat (first | (refine walkR_still (v := ?_) rfl (by decide +kernel) rfl (fun _ _ _ h => h) hE ?_ ?_; rotate_left; (focus (intro w' hw'; obtain ⟨q1, q2, q3, q4⟩ := HQ.out w' hw'; go_simp; all_goals (with_reducible rfl))); simp only [Act.put, List.setIfInBounds_toArray, List.set_cons_zero, List.set_cons_succ]) | (refine walkR_skip rfl (by decide +kernel) rfl (fun _ _ _ h => h) hE ?_; simp only [Act.put, List.setIfInBounds_toArray, List.set_cons_zero, List.set_cons_succ])))
          (refine walkR_only (fun w' => Ext w w') rfl (by decide +kernel) rfl (fun _ h => h) ?_; intro K hK; go_simp; refine (HC2.out _ hE).mono ?_; rintro e w7 ⟨a7, c7, rfl, ho7, hx7⟩; refine hK _ _ (hE.trans hx7) ?_; clear hK K; (try simp only [Act.put, List.setIfInBounds_toArray, List.set_cons_zero, List.set_cons_succ]))
          have hE7 := hE.trans hx7
          have hx67 : Ext w6 w7 := (Ext.drew w6).trans hx7
          (refine walkR_only (fun w' => Ext w w') rfl (by decide +kernel) rfl ?_ ?_)
          · exact fun _ h => h
          intro K hK
          refine wp_append_ints (.tmp 60) (.tmp 65) rfl w6.heap.size a7 V.length c7 V rfl ho7 ⟨d1, o1, none⟩ U.length cU U rfl (HIU.out _ hE7) (by omega) hx67.size ?_
          intro a8 c8 w8 ho8 hg8
          have hE8 : Ext w6 w8 := grown_ext hg8 hx67 hx67.size (fun q e => ho7.addr_base q e)
          have HO8 := hidP ho8
          have HE8 := hidP hE8
          refine hK _ _ (HX6.out.trans hE8) ?_
          clear hK K ho8 hg8 hE8 hE7 hE ho7 hx7 hx67
          (try simp only [Act.put, List.setIfInBounds_toArray, List.set_cons_zero, List.set_cons_succ])
          (refine walkR_tail (by rfl) (by kernel_rfl) ?_; simp only [List.drop_succ_cons, List.drop_zero])
          have HX8 := hidP (HX6.out.trans HE8.out)
          have hng : IntKind.i64.wrap (-mm) = -mm := wrap_in (by have := HMb.out; omega) (by have := HMb.out; omega)
          have HPt := hidP (l11Put_any p w.heap.size g6 q6 c6 hs6 (putM p (putsM p [] PT) (U ++ V) mm) a8 c8 (V ++ U) (-mm) w8 ((HO6.out.below HE8.out).weaken (Nat.le_refl _) HE8.out.size) (by rw [List.length_append]; exact HO8.out.ints) HO8.out.nil_cap (by rw [List.length_append]; omega) (by omega) HX8.out.size (by omega) hp2 (by have := HMb.out; omega) (by have := HMb.out; omega) (fun i hi => by
            have := HN6.out.at (i := i) (by omega)
            omega))
          rw [List.length_append] at HPt
          have HFin : Hid (putM p (putM p (putsM p [] PT) (U ++ V) mm) (V ++ U) (-mm) = putsM p [] (pairsTo p us vs i (j + 1))) := by
            show _ = _
            rw [HST.out, HTw.out, Int.zero_sub]
          clear HO6 HO8 HN6 hql6 hqb6 HLe
          go_wp2_with fail
          refine HPt.out.mono ?_
          rintro e w9 ⟨g9, q9, c9, hs9, rfl, ho9, hx9⟩
          rw [HFin.out] at ho9
          have HO9 := hidP ho9
          have HX9 : Hid (Ext w w9) := Below.trans HX8.out hx9
          clear ho9 hx9 HPt
          go_wp2
          go_roundw
          case rel => exact ⟨j + 1, g9, c9, q9, hs9, by omega, rfl, by go_num, HO9, HX9⟩
          case measure => simp [intOf]; omega
        · have HO2 : Hid (OwnK stepK wr w.heap.size wr.heap.size (some ⟨g, 0, none⟩) q co hs (putsM p [] (pairsTo p us vs (i + 1) 0))) := by
            have hh := HO.out
            rw [show j = n' by omega, HRo.out i (by omega)] at hh
            exact hh
          go_wp2
          go_roundw
          case rel => exact ⟨i + 1, g, co, q, hs, by omega, rfl, by go_num, HO2, HX⟩
          case measure => simp [intOf]; omega
    · have HO2 : Hid (OwnK stepK wo w.heap.size wo.heap.size (some ⟨g, 0, none⟩) q co hs (prodM p us vs)) := by
        have hh := HO.out
        rw [show i = n by omega, HAl.out, ← HPr.out] at hh
        exact hh
      go_wp2
      go_ret
      exact ⟨g, q, co, hs, rfl, HO2.out, HX.out⟩
end Go.Proofs.Ytenlhfimdpcaoaa

namespace Go.Proofs.Ytenlhfimdpcaoaa
open Go.RowKit

theorem putM_words (p : Int) (w : List Int) (n : Int) : ∀ (l : List Tm), ∀ q ∈ putM p l w n, q.1 = w ∨ ∃ r ∈ l, r.1 = q.1
  | [], q, h => by
    unfold putM at h
    split at h
    · cases h
    · rw [List.mem_singleton] at h; subst h; exact .inl rfl
  | t :: l, q, h => by
    unfold putM at h
    split at h
    · rcases List.mem_cons.1 h with h | h
      · exact .inr ⟨t, List.mem_cons_self, by rw [h]⟩
      · rcases putM_words p w n l q h with h | ⟨r, h1, h2⟩
        · exact .inl h
        · exact .inr ⟨r, List.mem_cons_of_mem _ h1, h2⟩
    · split at h
      · split at h
        · exact .inr ⟨q, List.mem_cons_of_mem _ h, rfl⟩
        · rcases List.mem_cons.1 h with h | h
          · subst h; exact .inl rfl
          · exact .inr ⟨q, List.mem_cons_of_mem _ h, rfl⟩
      · split at h
        · exact .inr ⟨q, h, rfl⟩
        · rcases List.mem_cons.1 h with h | h
          · subst h; exact .inl rfl
          · exact .inr ⟨q, h, rfl⟩
theorem putsM_words (p : Int) : ∀ (b o : List Tm), ∀ q ∈ putsM p o b, (∃ r ∈ b, r.1 = q.1) ∨ ∃ r ∈ o, r.1 = q.1
  | [], o, q, h => .inr ⟨q, h, rfl⟩
  | t :: b, o, q, h => by
    have h2 : q ∈ putsM p (putM p o t.1 t.2) b := h
    rcases putsM_words p b _ q h2 with ⟨r, h1, h3⟩ | ⟨r, h1, h3⟩
    · exact .inl ⟨r, List.mem_cons_of_mem _ h1, h3⟩
    · rcases putM_words p t.1 t.2 o r h1 with h4 | ⟨s, h4, h5⟩
      · exact .inl ⟨t, List.mem_cons_self, by rw [← h3, h4]⟩
      · exact .inr ⟨s, h4, by rw [h5, h3]⟩
theorem sumF_words (p : Int) : ∀ (f : Nat) (w : List Int), ∀ q ∈ sumF p f w, q.1.length = w.length
  | 0, w, q, h => by
    have h : q ∈ [(w, (1 : Int))] := h
    rw [List.mem_singleton] at h; subst h; rfl
  | f + 1, w, q, h => by
    unfold sumF at h
    split at h
    · rw [List.mem_singleton] at h; subst h; rfl
    · rename_i hl
      obtain ⟨c1, c2⟩ := cutL_le w (by omega)
      unfold prodM at h
      rcases putsM_words p _ _ q h with ⟨r, h1, h3⟩ | ⟨r, h1, _⟩
      · unfold pairsM at h1
        obtain ⟨x, hx, h1⟩ := List.mem_flatMap.1 h1
        obtain ⟨y, hy, h1⟩ := List.mem_flatMap.1 h1
        have e1 := sumF_words p f _ x hx
        have e2 := sumF_words p f _ y hy
        rw [List.length_take] at e1
        rw [List.length_drop] at e2
        rw [← h3]
        rcases List.mem_cons.1 h1 with h1 | h1
        · subst h1; show (x.1 ++ y.1).length = _; rw [List.length_append]; omega
        · rw [List.mem_singleton] at h1; subst h1; show (y.1 ++ x.1).length = _; rw [List.length_append]; omega
      · cases h1
theorem sumF_few (p : Int) : ∀ (f : Nat) (w : List Int), 1 ≤ w.length → (sumF p f w).length ≤ 2 ^ (w.length - 1)
  | 0, w, h => by show 1 ≤ _; exact Nat.one_le_two_pow
  | f + 1, w, h => by
    unfold sumF
    split
    · show 1 ≤ _; exact Nat.one_le_two_pow
    · rename_i hl
      obtain ⟨c1, c2⟩ := cutL_le w (by omega)
      have h1 := sumF_few p f (w.take (cutL w)) (by rw [List.length_take]; omega)
      have h2 := sumF_few p f (w.drop (cutL w)) (by rw [List.length_drop]; omega)
      rw [List.length_take, Nat.min_eq_left (by omega)] at h1
      rw [List.length_drop] at h2
      have h3 := putsM_length p (pairsM p (sumF p f (w.take (cutL w))) (sumF p f (w.drop (cutL w)))) []
      rw [pairsM_length] at h3
      have h4 := Nat.mul_le_mul h1 (Nat.mul_le_mul_right 2 h2)
      have h5 : 2 ^ (cutL w - 1) * (2 ^ (w.length - cutL w - 1) * 2) = 2 ^ (w.length - 1) := by
        rw [← Nat.pow_succ, ← Nat.pow_add]
        congr 1
        omega
      unfold prodM
      simp only [List.length_nil] at h3
      omega
theorem sumF_at {p : Int} (hp : 2 ≤ p) (hp2 : p ≤ 10007) (f : Nat) {W : List Int} (h1 : 1 ≤ W.length) (h8 : W.length ≤ 1000) {k : Nat} (hk : k < (sumF p f W).length) :
    1 ≤ (wayAt (sumF p f W) k).length ∧ (wayAt (sumF p f W) k).length ≤ 1000 ∧ 0 ≤ lenAt (sumF p f W) k ∧ lenAt (sumF p f W) k ≤ 10007 := by
  have hn := (sumF_norm hp f W).at hk
  have hw := sumF_words p f W ((sumF p f W).getD k ([], 0)) (by rw [getTm hk]; exact List.getElem_mem hk)
  have hw : (wayAt (sumF p f W) k).length = W.length := hw
  omega
/-- one word with its number in a slice of its own -/
theorem stepOne {w : World} {B : Nat} {a1 : Option Addr} {n1 c1 : Nat} {W : List Int} (L : Int) (ho : OwnI w B a1 n1 c1 W) (hB : B ≤ w.heap.size) :
    OwnK stepK (w.alloc (.cells #[.slice a1 n1 c1, .int .i64 L] 81)) B (w.alloc (.cells #[.slice a1 n1 c1, .int .i64 L] 81)).heap.size (some ⟨w.heap.size, 0, none⟩) 1 1 [(a1, c1)] [(W, L)] := by
  have hl := ho.len
  have hb := ho.below (Ext.alloc w (.cells #[.slice a1 n1 c1, .int .i64 L] 81))
  have hs : w.heap.size < (w.alloc (.cells #[.slice a1 n1 c1, .int .i64 L] 81)).heap.size := by simp
  refine ⟨⟨rfl, .inr ⟨w.heap.size, 1, _, rfl, hB, heap_alloc_new _ _, Nat.le_refl _, by unfold maxLen; omega, rfl, ?_⟩⟩, rfl, rfl, fun i hi => ?_, fun i j hi hj hij => by omega, fun i hi b o e => ?_, fun b o e => ?_⟩
  · show _ = [Value.slice a1 W.length c1, Value.int .i64 L] ++ []
    rw [hl]
    rfl
  · obtain rfl : i = 0 := by omega
    show OwnI _ B a1 W.length c1 W
    rw [hl]
    exact hb
  · obtain rfl : i = 0 := by omega
    exact (hb.at_base b o e).2
  · simp only [Option.some.injEq, Addr.mk.injEq, and_true] at e
    simp [← e.1]
theorem OwnI.capX {w : World} {B : Nat} {a : Option Addr} {n c : Nat} {xs : List Int} (h : OwnI w B a n c xs) : n ≤ c ∧ c ≤ 9223372036854775807 := by
  refine ⟨h.capN, ?_⟩
  rcases h.row.2 with ⟨he, h0⟩ | ⟨g, cap, cur, he, _, _, hnc, hcm, _⟩
  · simp only [Value.slice.injEq] at he
    omega
  · simp only [Value.slice.injEq] at he
    unfold maxLen at hcm
    omega
set_option maxHeartbeats 2000000 in
theorem l11Sum_one (p : Int) (b o c : Nat) (W : List Int) (w : World) (h : IntsAt w (some ⟨b, o, none⟩) 1 W) :
    Calls Try.prog 49 #[.int .i64 p, .slice (some ⟨b, o, none⟩) 1 c] w fun e w' => ∃ g q c' hs, e = .returned (.slice (some ⟨g, 0, none⟩) q c') ∧ OwnK stepK w' w.heap.size w'.heap.size (some ⟨g, 0, none⟩) q c' hs [(W, 1)] ∧ Ext w w' := by
  have HI := hidP (l1Ints_any (some ⟨b, o, none⟩) 1 c W w h (fun e => by cases e) (by omega))
  clear h
  go_enter Try.func49, Try.ntmps49
  go_wp2_with fail
  refine HI.out.mono ?_
  rintro e w1 ⟨a1, c1, rfl, ho1, hx1⟩
  have HO := hidP (stepOne (L := 1) ho1 hx1.size)
  have HX := hidP (hx1.trans (Ext.alloc w1 (.cells #[.slice a1 1 c1, .int .i64 1] 81)))
  clear ho1 hx1 HI
  go_wp2
  go_ret
  exact ⟨_, 1, 1, _, rfl, HO.out, HX.out⟩
set_option maxHeartbeats 2000000 in
theorem l11Sum_any (p : Int) (hp : 2 ≤ p) (hp2 : p ≤ 10007) : ∀ (f b o n c : Nat) (W : List Int) (w : World), IntsAt w (some ⟨b, o, none⟩) n W → n ≤ c → c ≤ 9223372036854775807 → 1 ≤ n → n ≤ 8 → n ≤ f + 1 →
    Calls Try.prog 49 #[.int .i64 p, .slice (some ⟨b, o, none⟩) n c] w fun e w' => ∃ g q c' hs, e = .returned (.slice (some ⟨g, 0, none⟩) q c') ∧ OwnK stepK w' w.heap.size w'.heap.size (some ⟨g, 0, none⟩) q c' hs (sumF p f W) ∧ Ext w w'
  | 0, b, o, n, c, W, w, h, hnc, hc, h1, h8, hf => by
    obtain rfl : n = 1 := by omega
    exact l11Sum_one p b o c W w h
  | f + 1, b, o, n, c, W, w, h, hnc, hc, h1, h8, hf => by
    have hlen := h.len
    by_cases hone : n = 1
    · subst hone
      have e : sumF p (f + 1) W = [(W, 1)] := by
        unfold sumF
        rw [if_pos (by omega)]
      rw [e]
      exact l11Sum_one p b o c W w h
    · have hsu : sumF p (f + 1) W = prodM p (sumF p f (W.take (cutL W))) (sumF p f (W.drop (cutL W))) := by
        show (if W.length ≤ 1 then [(W, 1)] else _) = _
        rw [if_neg (by omega)]
      have HSu := hidP hsu
      obtain ⟨k1, k2⟩ := cutL_le W (by omega)
      have HCt := hidP (l11Cut_any b o n c W w h hnc hc (by omega) (by omega))
      have hl1 : (W.take (cutL W)).length = cutL W := by rw [List.length_take]; omega
      have hl2 : (W.drop (cutL W)).length = n - cutL W := by rw [List.length_drop]; omega
      have hb1 : ((n : Int) == 1) = false := by simp; omega
      have HA1 := hidP (fun k (hk : k < (sumF p f (W.take (cutL W))).length) => sumF_at hp hp2 f (W := W.take (cutL W)) (by omega) (by omega) hk)
      have HA2 := hidP (fun k (hk : k < (sumF p f (W.drop (cutL W))).length) => sumF_at hp hp2 f (W := W.drop (cutL W)) (by omega) (by omega) hk)
      have HF1 := hidP (sumF_few p f (W.take (cutL W)) (by omega))
      have HF2 := hidP (sumF_few p f (W.drop (cutL W)) (by omega))
      have hpw : ∀ m, m ≤ 8 → 2 ^ (m - 1) ≤ 128 := by decide
      have hq1 := hpw (W.take (cutL W)).length (by omega)
      have hq2 := hpw (W.drop (cutL W)).length (by omega)
      have HQ1 := hidP hq1
      have HQ2 := hidP hq2
      generalize hU : W.take (cutL W) = U at *
      generalize hV : W.drop (cutL W) = V at *
      generalize hk : cutL W = kc at *
      have k3 : kc < n := by omega
      clear hU hV hk hq1 hq2 hpw h hsu hlen k2
      go_enter Try.func49, Try.ntmps49
      go_wp2_with fail
      refine HCt.out.mono ?_
      rintro e w1 ⟨a1, n1, c1, a2, n2, c2, rfl, ho1, ho2, hx1⟩
      have hn1 := ho1.len
      have hn2 := ho2.len
      obtain ⟨g1, rfl, _⟩ := ho1.cell 0 (by omega)
      obtain ⟨g2, rfl, _⟩ := ho2.cell 0 (by omega)
      have hR1 := l11Sum_any p hp hp2 f g1 0 n1 c1 U w1 ho1.ints ho1.capX.1 ho1.capX.2 (by omega) (by omega) (by omega)
      have HR1 := hidP hR1
      have HX1 := hidP hx1
      have HO2 := hidP ho2
      clear HCt ho1 ho2 hx1 hR1
      go_wp2_with fail
      refine HR1.out.mono ?_
      rintro e w2 ⟨g3, q3, c3, hs3, rfl, ho3, hx2⟩
      have hR2 := l11Sum_any p hp hp2 f g2 0 n2 c2 V w2 (HO2.out.ints.below hx2) HO2.out.capX.1 HO2.out.capX.2 (by omega) (by omega) (by omega)
      have HR2 := hidP hR2
      have HX2 := hidP (HX1.out.trans hx2)
      have HO3 := hidP ho3
      clear hR2 ho3 hx2 HR1
      go_wp2_with fail
      refine HR2.out.mono ?_
      rintro e w3 ⟨g4, q4, c4, hs4, rfl, ho4, hx3⟩
      have hxl3 := HO3.out.xl
      have hxl4 := ho4.xl
      have hPr := l11Product_any p (some ⟨g3, 0, none⟩) q3 c3 (sumF p f U) (some ⟨g4, 0, none⟩) q4 c4 (sumF p f V) w3 ((HO3.out.below hx3).stepsAt) ho4.stepsAt (by have := HF1.out; have := HQ1.out; omega) (by have := HF2.out; have := HQ2.out; omega) hp hp2 (fun k hk => HA1.out k (by omega)) (fun k hk => HA2.out k (by omega))
      have HPr := hidP hPr
      have HX3 := hidP (HX2.out.trans hx3)
      clear hPr ho4 hx3 hxl3 hxl4 HR2 HO3
      go_wp2_with fail
      refine HPr.out.mono ?_
      rintro e w4 ⟨g5, q5, c5, hs5, rfl, ho5, hx4⟩
      have HO5 := hidP (ho5.weaken HX3.out.size (Nat.le_refl _))
      have HX4 := hidP (HX3.out.trans hx4)
      clear ho5 hx4 HPr
      go_wp2
      go_ret
      exact ⟨g5, q5, c5, hs5, rfl, by rw [HSu.out]; exact HO5.out, HX4.out⟩
end Go.Proofs.Ytenlhfimdpcaoaa

namespace Go.Proofs.Ytenlhfimdpcaoaa
open Go.RowKit

set_option maxHeartbeats 2000000 in
theorem l5Place_at (a : Option Addr) (n c : Nat) (rows : List (List Int)) (ax : Option Addr) (nx cx : Nat) (X : List Int) (w : World) (h : RowsI w a n rows) (hx : IntsAt w ax nx X) (hn : n ≤ 1000000) (hnx : nx ≤ 1000000) (hrl : ∀ i, i < n → (rows.getD i []).length ≤ 1000000) (k0 : Nat) (hk0 : k0 < n) (hat : rows.getD k0 [] = X) (hbe : ∀ j, j < k0 → rows.getD j [] ≠ X) :
    Calls Try.prog 52 #[.slice a n c, .slice ax nx cx] w fun e w' => e = .returned (.int .i64 (k0 : Int)) ∧ Ext w w' := by
  have HR := hidP h
  have HX := hidP hx
  have HL := hidP hrl
  have HLen := hidP h.len
  have HAt := hidP hat
  have HBe := hidP hbe
  clear h hx hrl hat hbe
  go_enter Try.func52, Try.ntmps52
  go_wp2
  go_loopw [5] (fun i wr => ∃ k : Nat, k ≤ n ∧ i = .int .i64 k ∧ Hid (∀ j, j < k → rows.getD j [] ≠ X) ∧ Hid (Ext w wr)) (fun i _ => n - (intOf i).toNat)
  case atStart => exact ⟨0, Nat.zero_le _, rfl, fun j h => by omega, Ext.refl _⟩
  case round =>
    obtain ⟨k, hk, rfl, HJ, HE⟩ := hrel
    by_cases hlt : k < n
    · obtain ⟨b, o, ar, cr, rfl, hc, hr, _⟩ := (HR.out.below HE.out).get k hlt
      have hl := HL.out k hlt
      obtain ⟨V, hV⟩ : ∃ V, V = rows.getD k [] := ⟨_, rfl⟩
      rw [← hV] at hc hr hl
      have HV := hidP hV
      have HS := hidP (l1Same_any ar ax V.length nx cr cx V X wr hr (HX.out.below HE.out) (by omega) (by omega))
      clear hV hr
      cases hb : (V == X)
      · rw [hb] at HS
        have HJ' : Hid (∀ j, j < k + 1 → rows.getD j [] ≠ X) := by
          intro j hj
          rcases Nat.lt_succ_iff_lt_or_eq.1 hj with h3 | rfl
          · exact HJ.out j h3
          · rw [← HV.out]; simpa using hb
        clear hb
        go_wp2_with fail
        refine HS.out.mono ?_
        rintro e w2 ⟨rfl, q, rfl⟩
        have HE2 := hidP (HE.out.trans (Ext.drewN wr q))
        go_wp2
        go_roundw
        case rel => exact ⟨k + 1, by omega, by go_num, HJ', HE2⟩
        case measure => simp [intOf]; omega
      · rw [hb] at HS
        have hkk : k = k0 := by
          have hVX : V = X := by simpa using hb
          rcases Nat.lt_trichotomy k k0 with h | h | h
          · exact absurd (HV.out.symm.trans hVX) (HBe.out k h)
          · exact h
          · exact absurd HAt.out (HJ.out k0 h)
        have HKK := hidP hkk
        clear hkk
        clear hb
        go_wp2_with fail
        refine HS.out.mono ?_
        rintro e w2 ⟨rfl, q, rfl⟩
        have HE2 := hidP (HE.out.trans (Ext.drewN wr q))
        go_wp2
        go_ret
        exact ⟨by rw [← HKK.out]; rfl, HE2.out⟩
    · exact absurd HAt.out (HJ.out k0 (by omega))
end Go.Proofs.Ytenlhfimdpcaoaa

namespace Go.Proofs.Ytenlhfimdpcaoaa
open Go.RowKit

theorem byTo_skip (p : Int) (n : Nat) (f : Nat → Nat → List Int) (i j : Nat) {k m : Nat} (hkm : k ≤ m) (hz : ∀ q, k ≤ q → q < m → (f i j).getD q 0 = 0) : tabF n (byTo p f i j k) = tabF n (byTo p f i j m) := by
  apply tabF_congr
  intro a b q _ _ _
  unfold byTo
  by_cases h : b < a
  · rw [if_pos h, if_pos h]
    by_cases h2 : a < i ∨ a = i ∧ (b < j ∨ b = j ∧ q < k)
    · rw [if_pos h2, if_pos (by omega)]
    · rw [if_neg h2]
      by_cases h3 : a < i ∨ a = i ∧ (b < j ∨ b = j ∧ q < m)
      · rw [if_pos h3]
        obtain ⟨rfl, rfl⟩ : a = i ∧ b = j := by omega
        rw [hz q (by omega) (by omega)]
      · rw [if_neg h3]
  · rw [if_neg h, if_neg h]
    by_cases h4 : a < b
    · rw [if_pos h4, if_pos h4]
      by_cases h2 : b < i ∨ b = i ∧ (a < j ∨ a = j ∧ q < k)
      · rw [if_pos h2, if_pos (by omega)]
      · rw [if_neg h2]
        by_cases h3 : b < i ∨ b = i ∧ (a < j ∨ a = j ∧ q < m)
        · rw [if_pos h3]
          obtain ⟨rfl, rfl⟩ : b = i ∧ a = j := by omega
          rw [hz q (by omega) (by omega)]
          simp
        · rw [if_neg h3]
    · rw [if_neg h4, if_neg h4]
theorem byTo_past (p : Int) (n : Nat) (f : Nat → Nat → List Int) (i j : Nat) {k : Nat} (hz : ∀ q, k ≤ q → q < (f i j).length → (f i j).getD q 0 = 0) : tabF n (byTo p f i j k) = tabF n (byTo p f i (j + 1) 0) := by
  by_cases hk : k ≤ (f i j).length
  · rw [byTo_skip p n f i j hk (fun q h1 h2 => hz q h1 h2), byTo_next p n f i j _ (Nat.le_refl _)]
  · exact byTo_next p n f i j k (by omega)
theorem words_mem {L : Nat} (hL : 0 < L) : ∀ n, ∀ x ∈ wordsZ L n, 1 ≤ x.length ∧ x.length ≤ n
  | 0, x, h => by cases h
  | n + 1, x, h => by
    have h : x ∈ wordsZ L n ++ lynTo L (n + 1) (L ^ (n + 1)) := h
    rcases List.mem_append.1 h with h | h
    · have := words_mem hL n x h
      omega
    · have := (lynTo_mem hL x h).2.1
      omega
theorem words_at {L n k : Nat} (hL : 0 < L) (hk : k < (wordsZ L n).length) : 1 ≤ ((wordsZ L n).getD k []).length ∧ ((wordsZ L n).getD k []).length ≤ n := by
  apply words_mem hL n
  rw [List.getD_eq_getElem?_getD, List.getElem?_eq_getElem hk]
  exact List.getElem_mem hk
/-- the sums of the words, modulo p -/
def frM (p : Int) (L n : Nat) : List (List Tm) := (wordsZ L n).map (sumF p 8)
theorem frM_length (p : Int) (L n : Nat) : (frM p L n).length = (wordsZ L n).length := by simp [frM]
theorem frM_at (p : Int) {L n k : Nat} (hk : k < (wordsZ L n).length) : (frM p L n).getD k [] = sumF p 8 ((wordsZ L n).getD k []) := by
  unfold frM
  simp [List.getD_eq_getElem?_getD, hk]
theorem frM_sum (p : Int) {L n k : Nat} (hk : k < (wordsZ L n).length) (x : List Int) : cntSum ((frM p L n).getD k []) x % p = cntSum (frS L n k) x % p := by
  rw [frM_at p hk]
  exact sumF_sum p 8 _ x
/-- what is left of the bracket [i, j] from the basis element k0 on -/
structure ElimR (p : Int) (L n i j k0 : Nat) (R : List Tm) : Prop where
  rest : RestM p (wordsZ L n).length (fun k => cntSum (frS L n k)) (fun k => (frT L n i j).getD k 0) k0 R
  few : R.length ≤ 40000 + 128 * k0
  len : ∀ q ∈ R, q.1.length ≤ 16
theorem prodM_length (p : Int) (u v : List Tm) : (prodM p u v).length ≤ u.length * (v.length * 2) := by
  unfold prodM
  have := putsM_length p (pairsM p u v) []
  rw [pairsM_length] at this
  simpa using this
theorem prodM_words (p : Int) (u v : List Tm) {a b : Nat} (hu : ∀ q ∈ u, q.1.length = a) (hv : ∀ q ∈ v, q.1.length = b) : ∀ q ∈ prodM p u v, q.1.length = a + b := by
  intro q h
  unfold prodM at h
  rcases putsM_words p _ _ q h with ⟨r, h1, h3⟩ | ⟨r, h1, _⟩
  · unfold pairsM at h1
    obtain ⟨x, hx, h1⟩ := List.mem_flatMap.1 h1
    obtain ⟨y, hy, h1⟩ := List.mem_flatMap.1 h1
    have e1 := hu x hx
    have e2 := hv y hy
    rw [← h3]
    rcases List.mem_cons.1 h1 with h1 | h1
    · subst h1; show (x.1 ++ y.1).length = _; rw [List.length_append]; omega
    · rw [List.mem_singleton] at h1; subst h1; show (y.1 ++ x.1).length = _; rw [List.length_append]; omega
  · cases h1
theorem sum_few8 (p : Int) {W : List Int} (h1 : 1 ≤ W.length) (h8 : W.length ≤ 8) : (sumF p 8 W).length ≤ 128 := by
  have h := sumF_few p 8 W h1
  have hpw : ∀ m, m ≤ 8 → 2 ^ (m - 1) ≤ 128 := by decide
  have := hpw W.length h8
  omega
theorem elim_start {p : Int} (hp : 2 ≤ p) {L n i j : Nat} (hL : 0 < L) (hn : n ≤ 8) (h : FreeOk L n) (hi : i < (wordsZ L n).length) (hj : j < i) (hl : ((wordsZ L n).getD i []).length + ((wordsZ L n).getD j []).length ≤ n) :
    ElimR p L n i j 0 (prodM p ((frM p L n).getD i []) ((frM p L n).getD j [])) := by
  have hwi := words_at hL hi
  have hwj := words_at (L := L) (n := n) (k := j) hL (by omega)
  refine ⟨⟨(NormM.nil p).puts (by omega) _, fun x => ?_⟩, ?_, ?_⟩
  · rw [gM_prod (fun x => frM_sum p hi x) (fun x => frM_sum p (show j < _ by omega) x) x, h.tab i j hi hj hl x]
  · rw [frM_at p hi, frM_at p (show j < _ by omega)]
    have h1 := prodM_length p (sumF p 8 ((wordsZ L n).getD i [])) (sumF p 8 ((wordsZ L n).getD j []))
    have h2 := sum_few8 p hwi.1 (by omega)
    have h3 := sum_few8 p hwj.1 (by omega)
    have h4 := Nat.mul_le_mul h2 (Nat.mul_le_mul_right 2 h3)
    omega
  · rw [frM_at p hi, frM_at p (show j < _ by omega)]
    intro q hq
    have := prodM_words p _ _ (sumF_words p 8 ((wordsZ L n).getD i [])) (sumF_words p 8 ((wordsZ L n).getD j [])) q hq
    omega
theorem frRow_at (p : Int) (L n i j k : Nat) : (frRow p L n i j).getD k 0 = (frT L n i j).getD k 0 % p := frRow_get p L n i j k
theorem frRow_length (p : Int) (L n i j : Nat) : (frRow p L n i j).length = (wordsZ L n).length := by
  unfold frRow
  rw [List.length_map, frT_length]
theorem elim_step {p : Int} (hp : 2 ≤ p) {L n i j k0 : Nat} (hL : 0 < L) (hn : n ≤ 8) (h : FreeOk L n) {q : Tm} {l : List Tm} (e : ElimR p L n i j k0 (q :: l)) :
    ∃ m, k0 ≤ m ∧ m < (wordsZ L n).length ∧ q.1 = (wordsZ L n).getD m [] ∧ q.2 = (frRow p L n i j).getD m 0 ∧ (∀ s, s < m → (wordsZ L n).getD s [] ≠ q.1) ∧ (∀ s, k0 ≤ s → s < m → (frRow p L n i j).getD s 0 = 0) ∧
      ElimR p L n i j (m + 1) (putsM p [] (joinE p (0 - q.2) (q :: l) ((frM p L n).getD m []))) := by
  obtain ⟨m, h0, hm, hw, hc, hz⟩ := e.rest.head (by omega) h.lead
  have hwm := words_at hL hm
  refine ⟨m, h0, hm, hw, by rw [frRow_at]; exact hc, fun s hs => ?_, fun s h1 h2 => by rw [frRow_at]; exact hz s h1 h2, ?_, ?_, ?_⟩
  · intro e2
    have hb := h.lead.inc s m hs hm
    have hb : Before ((wordsZ L n).getD s []) ((wordsZ L n).getD m []) := hb
    rw [e2, hw] at hb
    exact before_ord.irr _ hb
  · exact e.rest.next (by omega) h0 hm hc hz (fun x => frM_sum p hm x)
  · have h1 := putsM_length p (joinE p (0 - q.2) (q :: l) ((frM p L n).getD m [])) []
    have h2 := sum_few8 p hwm.1 (by omega)
    have h3 := e.few
    rw [← frM_at p hm] at h2
    have h4 : (joinE p (0 - q.2) (q :: l) ((frM p L n).getD m [])).length = (q :: l).length + ((frM p L n).getD m []).length := by
      unfold joinE
      simp
      omega
    rw [h4] at h1
    simp only [List.length_nil] at h1
    omega
  · intro r hr
    rcases putsM_words p _ _ r hr with ⟨s, h1, h3⟩ | ⟨s, h1, _⟩
    · rw [← h3]
      unfold joinE at h1
      rcases List.mem_append.1 h1 with h1 | h1
      · exact e.len s h1
      · obtain ⟨t, ht, rfl⟩ := List.mem_map.1 h1
        rw [frM_at p hm] at ht
        have := sumF_words p 8 _ t ht
        show t.1.length ≤ 16
        omega
    · cases h1
theorem elim_end {p : Int} {L n i j k0 : Nat} (h : FreeOk L n) (e : ElimR p L n i j k0 []) : ∀ s, k0 ≤ s → s < (frRow p L n i j).length → (frRow p L n i j).getD s 0 = 0 := by
  intro s h1 h2
  rw [frRow_length] at h2
  rw [frRow_at]
  exact e.rest.empty h.lead s h1 h2
theorem elim_none (p : Int) {L n i j : Nat} (hl : ¬ ((wordsZ L n).getD i []).length + ((wordsZ L n).getD j []).length ≤ n) : ∀ s, 0 ≤ s → s < (frRow p L n i j).length → (frRow p L n i j).getD s 0 = 0 := by
  intro s _ _
  rw [frRow_at]
  unfold frT
  rw [if_neg hl]
  simp [List.getD_eq_getElem?_getD, List.getElem?_replicate]
  split <;> simp
theorem elim_num {p : Int} {L n i j k0 : Nat} {R : List Tm} (e : ElimR p L n i j k0 R) {k : Nat} (hk : k < R.length) : (wayAt R k).length ≤ 16 ∧ 0 < lenAt R k ∧ lenAt R k < p := by
  refine ⟨?_, e.rest.norm.at hk⟩
  have := e.len (R.getD k ([], 0)) (by rw [getTm hk]; exact List.getElem_mem hk)
  exact this
theorem frM_num {p : Int} (hp : 2 ≤ p) {L n m : Nat} (hL : 0 < L) (hn : n ≤ 8) (hm : m < (wordsZ L n).length) {k : Nat} (hk : k < ((frM p L n).getD m []).length) :
    1 ≤ (wayAt ((frM p L n).getD m []) k).length ∧ (wayAt ((frM p L n).getD m []) k).length ≤ 16 ∧ 0 < lenAt ((frM p L n).getD m []) k ∧ lenAt ((frM p L n).getD m []) k < p := by
  rw [frM_at p hm] at hk ⊢
  have hwm := words_at hL hm
  have h1 := (sumF_norm hp 8 ((wordsZ L n).getD m [])).at hk
  have hw := sumF_words p 8 ((wordsZ L n).getD m []) ((sumF p 8 ((wordsZ L n).getD m [])).getD k ([], 0)) (by rw [getTm hk]; exact List.getElem_mem hk)
  have hw : (wayAt (sumF p 8 ((wordsZ L n).getD m [])) k).length = _ := hw
  omega
end Go.Proofs.Ytenlhfimdpcaoaa

namespace Go.Proofs.Ytenlhfimdpcaoaa
open Go.RowKit

theorem keyF_list (x : List Int) : (keyF x).toList = x.map letU := by rw [Go.ByteArray.toList_eq]; simp [keyF, letU]
theorem letU_lt {a b : Int} (ha : 0 ≤ a ∧ a < 4) (hb : 0 ≤ b ∧ b < 4) : letU a < letU b ↔ a < b := by
  have key : ∀ m : Nat, m < 4 → ∀ n : Nat, n < 4 → (((48 + m).toUInt8 < (48 + n).toUInt8) ↔ m < n) := by decide
  have := key a.toNat (by omega) b.toNat (by omega)
  unfold letU
  rw [this]
  omega
theorem letU_eq {a b : Int} (ha : 0 ≤ a ∧ a < 4) (hb : 0 ≤ b ∧ b < 4) : letU a = letU b ↔ a = b := ⟨letter_inj ha hb, fun h => by rw [h]⟩
theorem less_lt : ∀ {x y : List Int}, (∀ z ∈ x, 0 ≤ z ∧ z < 4) → (∀ z ∈ y, 0 ≤ z ∧ z < 4) → (Op.bytesLess (x.map letU) (y.map letU) = true ↔ x < y)
  | x, [], _, _ => by simp [Op.bytesLess]
  | [], b :: y, _, _ => by simp [Op.bytesLess]
  | a :: x, b :: y, hx, hy => by
    have ha := hx a (by simp)
    have hb := hy b (by simp)
    have ih := less_lt (x := x) (y := y) (fun z hz => hx z (by simp [hz])) (fun z hz => hy z (by simp [hz]))
    rw [List.map_cons, List.map_cons, List.cons_lt_cons_iff, Op.bytesLess, Bool.or_eq_true, Bool.and_eq_true, ih, decide_eq_true_eq, letU_lt ha hb, beq_iff_eq, letU_eq ha hb]
/-- the program's order of keys is that of the words of one length -/
theorem key_less {L l : Nat} (hL : L ≤ 4) {x y : List Int} (hx : WordF L l x) (hy : WordF L l y) : Op.bytesLess (keyF x).toList (keyF y).toList = decide (cmpW x y < 0) := by
  rw [keyF_list, keyF_list, Bool.eq_iff_iff, decide_eq_true_eq, less_lt (fun z hz => by have := hx.let_ z hz; omega) (fun z hz => by have := hy.let_ z hz; omega), ← lexC_lt]
  unfold cmpW
  rw [hx.len, hy.len, cmpI_self]
  simp
theorem key_empty {L l : Nat} {x : List Int} (hx : WordF L l x) (hl : 0 < l) : (keyF x).toList.isEmpty = false := by
  rw [keyF_list]
  cases x with
  | nil => have := hx.len; simp at this; omega
  | cons a x => rfl
section
variable {p : Int} {N : Nat} {wd : Nat → List Int} {S : Nat → List Int → Int} {T : Nat → Int} {k0 : Nat}
theorem elimP_least (hL : Lead N wd S) {x : List Int} (hx : fromS N S T k0 x % p ≠ 0) (hm : ∀ y, fromS N S T k0 y % p ≠ 0 → y = x ∨ Before x y) :
    ∃ m, k0 ≤ m ∧ m < N ∧ x = wd m ∧ fromS N S T k0 x % p = T m % p ∧ ∀ j, k0 ≤ j → j < m → T j % p = 0 := by
  obtain ⟨m, ⟨h0, hN, hne⟩, hmin⟩ : ∃ m, (k0 ≤ m ∧ m < N ∧ T m % p ≠ 0) ∧ ∀ j, k0 ≤ j → j < m → T j % p = 0 := by
    have hex : ∃ m, k0 ≤ m ∧ m < N ∧ T m % p ≠ 0 := by
      refine Classical.byContradiction fun hn => hx (fromS_zero (fun j h1 h2 => Classical.byContradiction fun h3 => hn ⟨j, h1, h2, h3⟩) x)
    obtain ⟨m, hm⟩ := hex
    induction m using Nat.strongRecOn with
    | ind m ih =>
      by_cases hb : ∃ j, j < m ∧ k0 ≤ j ∧ T j % p ≠ 0
      · obtain ⟨j, h1, h2, h3⟩ := hb
        exact ih j h1 ⟨h2, by omega, h3⟩
      · exact ⟨m, hm, fun j h1 h2 => Classical.byContradiction fun h3 => hb ⟨j, h2, h1, h3⟩⟩
  have e := hL.at hN h0 hmin
  have hw : x = wd m := by
    rcases hm (wd m) (by rw [e]; exact hne) with h2 | h2
    · exact h2.symm
    · exact absurd (hL.below hmin h2) hx
  exact ⟨m, h0, hN, hw, by rw [hw]; exact e, hmin⟩
theorem elimP_end (hL : Lead N wd S) (h : ∀ x, fromS N S T k0 x % p = 0) : ∀ j, k0 ≤ j → j < N → T j % p = 0 := by
  intro j
  induction j using Nat.strongRecOn with
  | ind j ih =>
    intro h0 hj
    rw [← hL.at hj h0 (fun i h1 h2 => ih i h2 h1 (by omega))]
    exact h _
end
/-- the program's list of numbers up to k0 -/
def frTo (p : Int) (L n i j k0 : Nat) : List Int := (List.range (wordsZ L n).length).map fun q => if q < k0 then (frT L n i j).getD q 0 % p else 0
theorem frTo_length (p : Int) (L n i j k0 : Nat) : (frTo p L n i j k0).length = (wordsZ L n).length := by simp [frTo]
theorem frTo_get (p : Int) {L n q : Nat} (i j k0 : Nat) (hq : q < (wordsZ L n).length) : (frTo p L n i j k0).getD q 0 = if q < k0 then (frT L n i j).getD q 0 % p else 0 := by
  unfold frTo
  simp [List.getD_eq_getElem?_getD, hq]
theorem frTo_zero (p : Int) (L n i j : Nat) : frTo p L n i j 0 = List.replicate (wordsZ L n).length 0 := by
  unfold frTo
  simp [List.map_const']
theorem frTo_step (p : Int) {L n i j k0 m : Nat} (h0 : k0 ≤ m) (hm : m < (wordsZ L n).length) (hz : ∀ q, k0 ≤ q → q < m → (frT L n i j).getD q 0 % p = 0) : (frTo p L n i j k0).set m ((frT L n i j).getD m 0 % p) = frTo p L n i j (m + 1) := by
  refine ints_ext (by rw [List.length_set, frTo_length, frTo_length]) fun q hq => ?_
  rw [List.length_set, frTo_length] at hq
  rw [frTo_get p i j _ hq, List.getD_eq_getElem?_getD, List.getElem?_set]
  by_cases e : m = q
  · subst e
    rw [if_pos rfl, if_pos (by rw [frTo_length]; exact hm), if_pos (by omega)]
    rfl
  · rw [if_neg e, ← List.getD_eq_getElem?_getD, frTo_get p i j _ hq]
    by_cases h1 : q < k0
    · rw [if_pos h1, if_pos (by omega)]
    · rw [if_neg h1]
      by_cases h2 : q < m + 1
      · rw [if_pos h2, hz q (by omega) (by omega)]
      · rw [if_neg h2]
theorem frTo_end (p : Int) {L n i j k0 : Nat} (hz : ∀ q, k0 ≤ q → q < (wordsZ L n).length → (frT L n i j).getD q 0 % p = 0) : frTo p L n i j k0 = frRow p L n i j := by
  refine ints_ext (by rw [frTo_length, frRow_length]) fun q hq => ?_
  rw [frTo_length] at hq
  rw [frTo_get p i j _ hq, frRow_at]
  by_cases h1 : q < k0
  · rw [if_pos h1]
  · rw [if_neg h1, hz q (by omega) hq]
/-- the sum of products over the integers, on the way -/
theorem gM_start {p : Int} {L n i j : Nat} (h : FreeOk L n) (hi : i < (wordsZ L n).length) (hj : j < i) (hl : ((wordsZ L n).getD i []).length + ((wordsZ L n).getD j []).length ≤ n) (x : List Int) :
    gM p (mulZ (frS L n i) (frS L n j)) x = fromS (wordsZ L n).length (fun k => cntSum (frS L n k)) (fun k => (frT L n i j).getD k 0) 0 x % p := by
  unfold gM
  rw [h.tab i j hi hj hl x]
theorem gM_next {p : Int} {L n i j k0 m : Nat} (hm : m < (wordsZ L n).length) (h0 : k0 ≤ m) (hz : ∀ q, k0 ≤ q → q < m → (frT L n i j).getD q 0 % p = 0) {c : Int} (hc : c = (frT L n i j).getD m 0 % p) {V : List Tm} (hV : ∀ x, cntSum V x = gM p (frS L n m) x) {g : List Int → Int}
    (hg : ∀ x, g x = fromS (wordsZ L n).length (fun k => cntSum (frS L n k)) (fun k => (frT L n i j).getD k 0) k0 x % p) (x : List Int) :
    (g x - c * cntSum V x) % p = fromS (wordsZ L n).length (fun k => cntSum (frS L n k)) (fun k => (frT L n i j).getD k 0) (m + 1) x % p := by
  rw [← fromS_next hm h0 hz, hg, hV, hc]
  unfold gM
  rw [Int.sub_emod, Int.emod_emod_of_dvd _ (Int.dvd_refl p), ← Int.mul_emod, ← Int.sub_emod]
end Go.Proofs.Ytenlhfimdpcaoaa

namespace Go.Proofs.Ytenlhfimdpcaoaa
open Go.RowKit

variable {α : Type}
end Go.Proofs.Ytenlhfimdpcaoaa

set_option linter.unusedVariables false
set_option linter.unusedSimpArgs false
namespace Go.Proofs.Ytenlhfimdpcaoaa
open Go.RowKit

/-- a path in memory: its blocks lie from lo on and under hi -/
structure PEl where
  lo : Nat
  hi : Nat
  at_ : Option Addr
  cap : Nat
  hs : List Hdr
  q : List Stp
def PEl.val (e : PEl) : Value := .slice e.at_ e.q.length e.cap
def pvs (ps : List PEl) : List Value := ps.map PEl.val
theorem pvs_length (ps : List PEl) : (pvs ps).length = ps.length := by simp [pvs]
structure PEl.Ok (w : World) (B : Nat) (e : PEl) : Prop where
  own : OwnK stepK w e.lo e.hi e.at_ e.q.length e.cap e.hs e.q
  base : B ≤ e.lo
  le : e.lo ≤ e.hi
  top : e.hi ≤ w.heap.size
structure OwnPs (w : World) (B : Nat) (a : Option Addr) (n c : Nat) (ps : List PEl) : Prop where
  row : w.ownsRow B 63 1 (.slice a n c) n (pvs ps)
  nn : a ≠ none
  each : ∀ e ∈ ps, e.Ok w B
  sep : ps.Pairwise (fun e f => e.hi ≤ f.lo)
  far : ∀ e ∈ ps, ∀ b o, a = some ⟨b, o, none⟩ → b < e.lo ∨ e.hi ≤ b
section
variable {w w' : World} {B n c : Nat} {a : Option Addr} {ps : List PEl}
theorem OwnPs.len (h : OwnPs w B a n c ps) : ps.length = n := by
  have := h.row.1
  simpa [pvs_length] using this
theorem OwnPs.form (h : OwnPs w B a n c ps) : ∃ g, a = some ⟨g, 0, none⟩ ∧ B ≤ g ∧ g < w.heap.size ∧ n ≤ c ∧ c ≤ maxLen := by
  rcases h.row.2 with ⟨he, h0⟩ | ⟨g, cap, cur, he, hB, hg, hnc, hcm, hcs, ht⟩
  · simp only [Value.slice.injEq] at he
    exact absurd he.1 h.nn
  · simp only [Value.slice.injEq, true_and] at he
    obtain ⟨rfl, rfl⟩ := he
    exact ⟨g, rfl, hB, (Array.getElem?_eq_some_iff.1 hg).1, hnc, hcm⟩
theorem OwnPs.cell (h : OwnPs w B a n c ps) {k : Nat} (hk : k < n) {g : Nat} (e : a = some ⟨g, 0, none⟩) : ∃ (hk2 : k < ps.length), w.cell? ⟨g, k, none⟩ = some (ps[k].val) := by
  subst e
  have hk2 : k < ps.length := by have := h.len; omega
  refine ⟨hk2, ?_⟩
  have h3 := h.row.cellAt k (by omega)
  rw [h3]
  simp [pvs, hk2]
/-- whatever leaves the list's own blocks alone, keeps it -/
theorem OwnPs.kept (h : OwnPs w B a n c ps) {row : Option Nat} (hg : w.grownBy w' row) (hr : ∀ b, row = some b → (∀ o, a ≠ some ⟨b, o, none⟩) ∧ ∀ e ∈ ps, b < e.lo ∨ e.hi ≤ b) : OwnPs w' B a n c ps := by
  obtain ⟨g, rfl, _⟩ := h.form
  refine ⟨h.row.kept hg (.inr fun e => ?_), h.nn, fun e he => ?_, h.sep, h.far⟩
  · exact (hr g e.symm).1 0 rfl
  · obtain ⟨h1, h2, h3, h4⟩ := h.each e he
    have key : ∀ b, e.lo ≤ b → b < e.hi → some b ≠ row := fun b h5 h6 h7 => by
      have := (hr b h7.symm).2 e he
      omega
    exact ⟨h1.kept hg (fun b o e1 => key b (h1.base_lt b o e1).1 (h1.olt b o e1)) (fun i hi b o e1 => key b ((h1.each i hi).at_base b o e1).1 (h1.lt i hi b o e1)), h2, h3, Nat.le_trans h4 hg.size⟩
theorem OwnPs.below (h : OwnPs w B a n c ps) (hb : Ext w w') : OwnPs w' B a n c ps :=
  h.kept (row := none) ⟨hb.os, hb.tape, hb.output, hb.size, fun k hk _ => hb.block k hk⟩ (by simp)
/-- the list grows: a path behind the others -/
theorem OwnPs.snoc_of (h : OwnPs w B a n c ps) {v' : Value} {e : PEl} (hr : w'.ownsRow B 63 1 v' (n + 1) (pvs ps ++ [e.val])) (hg : w.grownBy w' (Value.slice a n c).ownBlock)
    (he : e.Ok w B) (hs : ∀ f ∈ ps, f.hi ≤ e.lo) (hf : ∀ b o, a = some ⟨b, o, none⟩ → b < e.lo ∨ e.hi ≤ b) (hn : ∀ g m k, v' = .slice (some ⟨g, 0, none⟩) m k → a = some ⟨g, 0, none⟩ ∨ w.heap.size ≤ g) :
    ∃ a' c', v' = .slice a' (n + 1) c' ∧ OwnPs w' B a' (n + 1) c' (ps ++ [e]) := by
  obtain ⟨g0, rfl, _⟩ := h.form
  rcases hr.2 with ⟨_, h0⟩ | ⟨g', cap, cur, rfl, hB', hgb, hnc, _⟩
  · omega
  have hev : ∀ f ∈ ps ++ [e], f.Ok w B := fun f hf => by
    rcases List.mem_append.1 hf with h1 | h1
    · exact h.each f h1
    · simp only [List.mem_singleton] at h1
      subst h1; exact he
  have hfa : ∀ f ∈ ps ++ [e], g0 < f.lo ∨ f.hi ≤ g0 := fun f hf2 => by
    rcases List.mem_append.1 hf2 with h1 | h1
    · exact h.far f h1 g0 0 rfl
    · simp only [List.mem_singleton] at h1
      subst h1; exact hf g0 0 rfl
  refine ⟨_, _, rfl, ?_, by simp, fun f hf1 => ?_, ?_, fun f hf1 b o e1 => ?_⟩
  · rw [show pvs (ps ++ [e]) = pvs ps ++ [e.val] by simp [pvs]]
    exact hr
  · obtain ⟨h1, h2, h3, h4⟩ := hev f hf1
    have key : ∀ b, f.lo ≤ b → b < f.hi → some b ≠ (Value.slice (some (⟨g0, 0, none⟩ : Addr)) n c).ownBlock := fun b h5 h6 h7 => by
      simp only [Value.ownBlock, Option.some.injEq] at h7
      have := hfa f hf1
      omega
    exact ⟨h1.kept hg (fun b o e1 => key b (h1.base_lt b o e1).1 (h1.olt b o e1)) (fun i hi b o e1 => key b ((h1.each i hi).at_base b o e1).1 (h1.lt i hi b o e1)), h2, h3, Nat.le_trans h4 hg.size⟩
  · rw [List.pairwise_append]
    exact ⟨h.sep, List.pairwise_singleton _ _, fun x hx y hy => by simp only [List.mem_singleton] at hy; subst hy; exact hs x hx⟩
  · simp only [Option.some.injEq, Addr.mk.injEq, and_true] at e1
    obtain ⟨rfl, _⟩ := e1
    rcases hn _ _ _ rfl with h5 | h5
    · simp only [Option.some.injEq, Addr.mk.injEq, and_true] at h5
      rw [← h5]
      exact hfa f hf1
    · exact .inr (Nat.le_trans (hev f hf1).top h5)
end
theorem Try.infoSteps : (Try.prog.info? 63).map (fun i => (i.zero, i.size, i.bytes)) = some (some (.slice none 0 0), 1, 24) := by kernel_rfl
/-- append of one path to an owned list of paths -/
theorem wpList_append_path {ops : Array Oper} {rest : List Oper} {o : Oper} {av : Act} {Q : Exit → Act → World → Prop} {w : World} (hgd : o.guard = none) (s x : Operand)
    (ho : o.op = .call { callee := .builtin .append, args := #[s, x], argTypes := #[75, 75] }) (B : Nat) (a : Option Addr) (n c : Nat) (ps : List PEl) (hsv : av.eval s = .slice a n c) (hown : OwnPs w B a n c ps)
    (g m : Nat) (e : PEl) (hx : av.eval x = .slice (some ⟨g, 0, none⟩) 1 m) (hy : w.cell? ⟨g, 0, none⟩ = some e.val) (he : e.Ok w B) (hs : ∀ f ∈ ps, f.hi ≤ e.lo) (hf : ∀ b o, a = some ⟨b, o, none⟩ → b < e.lo ∨ e.hi ≤ b) (hsm : n ≤ 1000000000) (hB : B ≤ w.heap.size)
    (h : ∀ a' c' w', OwnPs w' B a' (n + 1) c' (ps ++ [e]) → w.grownBy w' (Value.slice a n c).ownBlock → OrNew w.heap.size a a' → wpList Try.prog ops Q rest (av.put o.dst (.slice a' (n + 1) c')) w') : wpList Try.prog ops Q (o :: rest) av w := by
  obtain ⟨i, hi, hz0, hz1, hz2⟩ := info_parts Try.infoSteps
  have hcells : ∀ j u, [e.val][j]? = some u → w.cell? ((⟨g, 0, none⟩ : Addr).add j) = some u := by
    intro j u hu
    cases j with
    | zero =>
      simp only [List.getElem?_cons_zero, Option.some.injEq] at hu
      subst hu
      rw [add_none]
      exact hy
    | succ j => simp at hu
  have hone : ∀ u ∈ [e.val], u.oneCell' = true := fun u hu => by simp only [List.mem_singleton] at hu; subst hu; rfl
  obtain ⟨g0, rfl, _, hgl, hnc, hcm⟩ := hown.form
  by_cases hroom : n + 1 ≤ c
  · refine wpList_append_fits w hgd s x 75 ho B 63 i 1 Try.underlying75 hi hz1 g0 n c (pvs ps) hsv hown.row ⟨g, 0, none⟩ 1 m [e.val] hx rfl hcells hone hroom ?_
    intro w' hr hg
    obtain ⟨a', c', e2, hk⟩ := hown.snoc_of hr hg he hs hf (fun g1 m1 k1 e3 => by cases e3; exact .inl rfl)
    simp only [Value.slice.injEq] at e2
    obtain ⟨rfl, _, rfl⟩ := e2
    exact h _ _ w' hk hg (.inl rfl)
  · have hlx := hown.row.1
    refine wpList_append_grows w hgd s x 75 ho 63 i (.slice none 0 0) 1 24 Try.underlying75 hi hz0 hz1 hz2 rfl (by decide) (some ⟨g0, 0, none⟩) n c (pvs ps) hsv (fun e => by cases e) hlx ?_ ⟨g, 0, none⟩ 1 m [e.val] hx rfl hcells hone (by omega) (by unfold maxLen; omega) (by omega) ?_
    · intro b e1 j u hu
      simp only [Option.some.injEq] at e1
      subst e1
      have hj : j < n * 1 := by have := (List.getElem?_eq_some_iff.1 hu).1; rwa [hlx] at this
      rw [add_none, Nat.zero_add, hown.row.cellAt j hj]
      exact hu
    · intro v' w' hr hg0
      have hg : w.grownBy w' (Value.slice (some (⟨g0, 0, none⟩ : Addr)) n c).ownBlock := ⟨hg0.os, hg0.tape, hg0.output, hg0.size, fun k hk _ => hg0.block k hk (by simp)⟩
      have hnew : ∀ g1 m1 k1, v' = .slice (some ⟨g1, 0, none⟩) m1 k1 → w.heap.size ≤ g1 := fun g1 m1 k1 e1 => by
        rcases hr.2 with ⟨_, h0⟩ | ⟨g', cap, cur, he, hB', _⟩
        · omega
        · rw [e1] at he
          simp only [Value.slice.injEq, Option.some.injEq, Addr.mk.injEq, and_true] at he
          rw [he.1]; exact hB'
      have hr2 : w'.ownsRow B 63 1 v' (n + 1) (pvs ps ++ [e.val]) := by
        refine ⟨hr.1, ?_⟩
        rcases hr.2 with h2 | ⟨g', cap, cur, he, hB', r⟩
        · exact .inl h2
        · exact .inr ⟨g', cap, cur, he, Nat.le_trans hB hB', r⟩
      obtain ⟨a', c', rfl, hk⟩ := hown.snoc_of hr2 hg he hs hf (fun g1 m1 k1 e1 => .inr (hnew g1 m1 k1 e1))
      refine h a' c' w' hk hg (.inr fun b o e1 => ?_)
      obtain ⟨g2, rfl, _⟩ := hk.form
      simp only [Option.some.injEq, Addr.mk.injEq, and_true] at e1
      rw [← e1.1]
      exact hnew _ _ _ rfl
end Go.Proofs.Ytenlhfimdpcaoaa

set_option linter.unusedVariables false
namespace Go.Proofs.Ytenlhfimdpcaoaa
open Go.RowKit

theorem OwnPs.ext {w w' w0 : World} {B n c : Nat} {a : Option Addr} {ps : List PEl} (h : OwnPs w B a n c ps) (hg : w.grownBy w' (Value.slice a n c).ownBlock) (hb : Ext w0 w) (hB : w0.heap.size ≤ B) : Ext w0 w' := by
  refine Below.grown hb hg hb.size fun k hk => ?_
  obtain ⟨g, rfl, h1, _⟩ := h.form
  simp only [Value.ownBlock, Option.some.injEq] at hk
  omega
end Go.Proofs.Ytenlhfimdpcaoaa

namespace Go.Proofs.Ytenlhfimdpcaoaa
open Go.RowKit

theorem OwnK.rowAt {w : World} {B U : Nat} {a : Option Addr} {n c : Nat} {hs : List Hdr} {xs : List (List Int)} (h : OwnK rowK w B U a n c hs xs) (k : Nat) (hk : k < n) (hp : 0 < (xs.getD k []).length) :
    ∃ g b cw, a = some ⟨g, 0, none⟩ ∧ OwnI w B (some ⟨b, 0, none⟩) (xs.getD k []).length cw (xs.getD k []) ∧ (xs.getD k []).length ≤ cw ∧ cw ≤ 9223372036854775807 ∧ w.cell? ⟨g, k, none⟩ = some (.slice (some ⟨b, 0, none⟩) (xs.getD k []).length cw) := by
  obtain ⟨g, rfl, hc, _⟩ := h.cell k 0 hk (by decide)
  rw [show k * rowK.size + 0 = k from by show k * 1 + 0 = k; omega] at hc
  have ho := h.each k hk
  have ho : OwnI w B (hs.getD k (none, 0)).1 (xs.getD k []).length (hs.getD k (none, 0)).2 (xs.getD k []) := ho
  have hc : w.cell? ⟨g, k, none⟩ = some (.slice (hs.getD k (none, 0)).1 (xs.getD k []).length (hs.getD k (none, 0)).2) := hc
  obtain ⟨b, hb, _⟩ := ho.cell 0 hp
  rw [hb] at ho hc
  exact ⟨g, b, _, rfl, ho, ho.capX.1, ho.capX.2, hc⟩
theorem OwnPs.made (w : World) : OwnPs (w.alloc (.cells #[] 63)) w.heap.size (some ⟨w.heap.size, 0, none⟩) 0 0 [] :=
  { row := ⟨by simp [pvs], .inr ⟨w.heap.size, 0, #[], rfl, Nat.le_refl _, heap_alloc_new _ _, Nat.le_refl _, by unfold maxLen; omega, by simp, by simp [pvs]⟩⟩
    nn := by simp
    each := fun e he => absurd he (by simp)
    sep := List.Pairwise.nil
    far := fun e he => absurd he (by simp) }
/-- a list of lists of steps, read -/
structure SumsAt (w : World) (a : Option Addr) (n : Nat) (L : List (List Stp)) : Prop where
  len : L.length = n
  get : ∀ k, k < n → ∃ g at_ cp, a = some ⟨g, 0, none⟩ ∧ w.cell? ⟨g, k, none⟩ = some (.slice at_ (L.getD k []).length cp) ∧ StepsAt w at_ (L.getD k []).length (L.getD k [])
theorem OwnPs.sums {w : World} {B n c : Nat} {a : Option Addr} {ps : List PEl} (h : OwnPs w B a n c ps) {L : List (List Stp)} (hq : ps.map PEl.q = L) : SumsAt w a n L := by
  subst hq
  refine ⟨by rw [List.length_map]; exact h.len, fun k hk => ?_⟩
  obtain ⟨g, e, _⟩ := h.form
  obtain ⟨hk2, hc⟩ := h.cell hk e
  have hq : (ps.map PEl.q).getD k [] = ps[k].q := by simp [List.getD_eq_getElem?_getD, hk2]
  rw [hq]
  exact ⟨g, ps[k].at_, ps[k].cap, e, hc, (h.each _ (List.getElem_mem _)).own.stepsAt⟩
theorem SumsAt.below {w w' : World} {a : Option Addr} {n : Nat} {L : List (List Stp)} (h : SumsAt w a n L) (hx : Ext w w') : SumsAt w' a n L := by
  refine ⟨h.len, fun k hk => ?_⟩
  obtain ⟨g, at_, cp, e, hc, hs⟩ := h.get k hk
  exact ⟨g, at_, cp, e, (hx.cell (p := ⟨g, k, none⟩) (World.block_lt_of_cell? w _ hc)).trans hc, hs.below hx⟩
/-- the algebra that is made: its variable's block b, its table at a -/
structure FreT (w2 w : World) (b : Nat) (p : Int) (N N3 : Nat) (a : Option Addr) (ts : List Int) : Prop where
  alg : AlgAt w b p (N : Int) a N3 N3
  own : OwnI w w2.heap.size a N3 N3 ts
  ext : Ext w2 w
  ne : ∀ b' o', a = some ⟨b', o', none⟩ → b ≠ b'
theorem FreT.below {w2 w w' : World} {b : Nat} {p : Int} {N N3 : Nat} {a : Option Addr} {ts : List Int} (h : FreT w2 w b p N N3 a ts) (hx : Ext w w') : FreT w2 w' b p N N3 a ts :=
  ⟨h.alg.below hx, h.own.below hx, h.ext.trans hx, h.ne⟩
theorem FreT.upd {w2 w w' : World} {b : Nat} {p : Int} {N N3 : Nat} {a : Option Addr} {ts ys : List Int} (h : FreT w2 w b p N N3 a ts) (hu : UpdI w w' a N3 ys) : FreT w2 w' b p N N3 a ys :=
  ⟨h.alg.upd hu h.ne, hu.own h.own, hu.below h.ext h.ext.size (fun b o e _ => (h.own.at_base b o e).1), h.ne⟩
theorem FreT.as {w2 w : World} {b : Nat} {p : Int} {N N3 : Nat} {a : Option Addr} {ts ys : List Int} (h : FreT w2 w b p N N3 a ts) (e : ts = ys) : FreT w2 w b p N N3 a ys := e ▸ h
/-- the inner loop: what is left from k0 on, the table up to it -/
structure FreJ (p : Int) (M q i j : Nat) (w2 wj : World) (b N N3 : Nat) (a : Option Addr) (k0 : Nat) (v : Value) (w : World) : Prop where
  le : k0 ≤ N
  st : ∃ (ar : Option Addr) (nr cr : Nat) (hs : List Hdr) (R : List Tm), v = .slice ar nr cr ∧ OwnK stepK w wj.heap.size w.heap.size ar nr cr hs R ∧ ElimR p M q i j k0 R ∧ FreT w2 w b p N N3 a (tabF N (byTo p (frRow p M q) i j k0)) ∧ wj.heap.size ≤ w.heap.size
end Go.Proofs.Ytenlhfimdpcaoaa

namespace Go.Proofs.Ytenlhfimdpcaoaa
open Go.RowKit

/-- what the function that gives brackets reads: words, steps, sums, prime, places of words -/
structure FreX (w : World) (bw bm bs bp bi : Nat) (p : Int) (L n : Nat) (av : Option Addr) (cv : Nat) (gs sc ib ni : Nat) (ms : Nat → Nat) (fi : ByteArray → Option Value) : Prop where
  cw : w.cell? ⟨bw, 0, none⟩ = some (.slice av (wordsZ L n).length cv)
  cm : w.cell? ⟨bm, 0, none⟩ = some (.int .i64 (n : Int))
  cs : w.cell? ⟨bs, 0, none⟩ = some (.slice (some ⟨gs, 0, none⟩) (wordsZ L n).length sc)
  cp : w.cell? ⟨bp, 0, none⟩ = some (.int .i64 p)
  ci : w.cell? ⟨bi, 0, none⟩ = some (.map (some ib))
  words : RowsI w av (wordsZ L n).length (wordsZ L n)
  sums : ∀ k, k < (wordsZ L n).length → w.cell? ⟨gs, k, none⟩ = some (.map (some (ms k))) ∧ ∃ mm f, FreM w (ms k) mm L ((wordsZ L n).getD k []).length p (gM p (frS L n k)) f
  idx : MapS w Try.prog 9 ib ni fi
  at_ : ∀ k, k < (wordsZ L n).length → fi (keyF ((wordsZ L n).getD k [])) = some (.int .i64 (k : Int))
theorem FreX.below {w w' : World} {bw bm bs bp bi : Nat} {p : Int} {L n : Nat} {av : Option Addr} {cv gs sc ib ni : Nat} {ms : Nat → Nat} {fi : ByteArray → Option Value} (h : FreX w bw bm bs bp bi p L n av cv gs sc ib ni ms fi) (hx : Ext w w') : FreX w' bw bm bs bp bi p L n av cv gs sc ib ni ms fi where
  cw := (hx.cell (p := ⟨bw, 0, none⟩) (World.block_lt_of_cell? w _ h.cw)).trans h.cw
  cm := (hx.cell (p := ⟨bm, 0, none⟩) (World.block_lt_of_cell? w _ h.cm)).trans h.cm
  cs := (hx.cell (p := ⟨bs, 0, none⟩) (World.block_lt_of_cell? w _ h.cs)).trans h.cs
  cp := (hx.cell (p := ⟨bp, 0, none⟩) (World.block_lt_of_cell? w _ h.cp)).trans h.cp
  ci := (hx.cell (p := ⟨bi, 0, none⟩) (World.block_lt_of_cell? w _ h.ci)).trans h.ci
  words := h.words.below hx
  sums := fun k hk => by
    obtain ⟨h1, mm, f, h2⟩ := h.sums k hk
    exact ⟨(hx.cell (p := ⟨gs, k, none⟩) (World.block_lt_of_cell? w _ h1)).trans h1, mm, f, h2.below hx⟩
  idx := h.idx.below hx
  at_ := h.at_
theorem FreM.sub {w w' : World} {b n m L l : Nat} {p c u v : Int} {g : List Int → Int} {V : List Tm} {f : ByteArray → Option Value} (h : FreM w b n L l p (fun x => (g x - c * cntSum V x) % p) f) (hp : 0 < p) (hL : L ≤ 4) {y : List Int} (hy : WordF L l y)
    (hv : v = ((g y - c * cntSum V y) % p - c * u % p) % p) (hm : MapS w' Try.prog 9 b m (putF f (keyF y) (.int .i64 v))) :
    FreM w' b m L l p (fun x => (g x - c * cntSum (V ++ [(y, u)]) x) % p) (putF f (keyF y) (.int .i64 v)) := by
  have hr : 0 ≤ v ∧ v < p := by rw [hv]; exact ⟨Int.emod_nonneg _ (by omega), Int.emod_lt_of_pos _ hp⟩
  refine (h.put hL hy hr hm).congr fun x => ?_
  rw [cntSum_append]
  by_cases e : x = y
  · subst e
    rw [if_pos rfl, hv, ← Int.sub_emod]
    simp only [cntSum, if_true, Int.add_zero]
    congr 1
    rw [Int.mul_add]
    omega
  · rw [if_neg e]
    simp only [cntSum]
    rw [if_neg (fun h => e h.symm)]
    simp
/-- the least word met so far whose number is not 0, as text -/
def LeastS (L l : Nat) (g : List Int → Int) (s : ByteArray) (U : List Tm) : Prop :=
  (s = ⟨#[]⟩ ∧ ∀ q ∈ U, q.2 = 0) ∨ ∃ x, WordF L l x ∧ s = keyF x ∧ g x ≠ 0 ∧ ∀ q ∈ U, q.2 ≠ 0 → q.1 = x ∨ Before x q.1
theorem LeastS.pass {L l : Nat} {g : List Int → Int} {s : ByteArray} {U : List Tm} (h : LeastS L l g s U) {y : List Int} (hy : g y = 0) : LeastS L l g s (U ++ [(y, g y)]) := by
  rcases h with ⟨h1, h2⟩ | ⟨x, h1, h2, h3, h4⟩
  · refine .inl ⟨h1, fun q hq => ?_⟩
    rcases List.mem_append.1 hq with hq | hq
    · exact h2 q hq
    · rw [List.mem_singleton] at hq; subst hq; exact hy
  · refine .inr ⟨x, h1, h2, h3, fun q hq hn => ?_⟩
    rcases List.mem_append.1 hq with hq | hq
    · exact h4 q hq hn
    · rw [List.mem_singleton] at hq; subst hq; exact absurd hy hn
theorem LeastS.first {L l : Nat} {g : List Int → Int} {U : List Tm} (h : ∀ q ∈ U, q.2 = 0) {y : List Int} (hw : WordF L l y) (hy : g y ≠ 0) : LeastS L l g (keyF y) (U ++ [(y, g y)]) := by
  refine .inr ⟨y, hw, rfl, hy, fun q hq hn => ?_⟩
  rcases List.mem_append.1 hq with hq | hq
  · exact absurd (h q hq) hn
  · rw [List.mem_singleton] at hq; subst hq; exact .inl rfl
theorem LeastS.stay {L l : Nat} {g : List Int → Int} {U : List Tm} {x : List Int} (h1 : WordF L l x) (h3 : g x ≠ 0) (h4 : ∀ q ∈ U, q.2 ≠ 0 → q.1 = x ∨ Before x q.1) {y : List Int} (hb : ¬ Before y x) : LeastS L l g (keyF x) (U ++ [(y, g y)]) := by
  refine .inr ⟨x, h1, rfl, h3, fun q hq hn => ?_⟩
  rcases List.mem_append.1 hq with hq | hq
  · exact h4 q hq hn
  · rw [List.mem_singleton] at hq; subst hq
    by_cases e : y = x
    · exact .inl e
    · rcases before_ord.tot e with h | h
      · exact absurd h hb
      · exact .inr h
theorem LeastS.take {L l : Nat} {g : List Int → Int} {U : List Tm} {x : List Int} (h4 : ∀ q ∈ U, q.2 ≠ 0 → q.1 = x ∨ Before x q.1) {y : List Int} (hw : WordF L l y) (hy : g y ≠ 0) (hb : Before y x) : LeastS L l g (keyF y) (U ++ [(y, g y)]) := by
  refine .inr ⟨y, hw, rfl, hy, fun q hq hn => ?_⟩
  rcases List.mem_append.1 hq with hq | hq
  · rcases h4 q hq hn with h | h
    · rw [h]; exact .inr hb
    · exact .inr (before_ord.tr hb h)
  · rw [List.mem_singleton] at hq; subst hq; exact .inl rfl
/-- all met: the least word of all -/
theorem LeastS.done {L l : Nat} {g : List Int → Int} {s : ByteArray} {U : List Tm} (h : LeastS L l g s U) (hall : ∀ x, cntSum U x = g x) (hw : ∀ q ∈ U, g q.1 = q.2) : (s = ⟨#[]⟩ ∧ ∀ x, g x = 0) ∨ ∃ x, WordF L l x ∧ s = keyF x ∧ g x ≠ 0 ∧ ∀ y, g y ≠ 0 → y = x ∨ Before x y := by
  have mem : ∀ y, g y ≠ 0 → ∃ q ∈ U, q.1 = y ∧ q.2 ≠ 0 := by
    intro y hy
    have : ∃ q ∈ U, q.1 = y := Classical.byContradiction fun hn => hy (by rw [← hall]; exact cntSum_none fun q hq e => hn ⟨q, hq, e⟩)
    obtain ⟨q, hq, rfl⟩ := this
    exact ⟨q, hq, rfl, by rw [← hw q hq]; exact hy⟩
  rcases h with ⟨h1, h2⟩ | ⟨x, h1, h2, h3, h4⟩
  · refine .inl ⟨h1, fun y => Classical.byContradiction fun hy => ?_⟩
    obtain ⟨q, hq, _, hn⟩ := mem y hy
    exact hn (h2 q hq)
  · refine .inr ⟨x, h1, h2, h3, fun y hy => ?_⟩
    obtain ⟨q, hq, rfl, hn⟩ := mem y hy
    exact h4 q hq hn
end Go.Proofs.Ytenlhfimdpcaoaa

namespace Go.Proofs.Ytenlhfimdpcaoaa
open Go.RowKit

/-- where the loop stands: k0 words are done -/
structure FreK (p : Int) (L n i j l : Nat) (w : World) (bo bl k0 : Nat) (wr : World) : Prop where
  le : k0 ≤ (wordsZ L n).length
  st : ∃ (m : Nat) (f : ByteArray → Option Value), OwnI wr w.heap.size (some ⟨bo, 0, none⟩) (wordsZ L n).length (wordsZ L n).length (frTo p L n i j k0) ∧ FreM wr bl m L l p (fun x => fromS (wordsZ L n).length (fun k => cntSum (frS L n k)) (fun k => (frT L n i j).getD k 0) k0 x % p) f ∧ m ≤ 10000000000 + k0 * 65536 ∧ Ext w wr
set_option maxRecDepth 100000 in
set_option maxHeartbeats 8000000 in
theorem freeTab_any (bw bm bs bp bi : Nat) (p : Int) (L n : Nat) (av : Option Addr) (cv gs sc ib ni : Nat) (ms : Nat → Nat) (fi : ByteArray → Option Value) (i j : Nat) (w : World) (hX : FreX w bw bm bs bp bi p L n av cv gs sc ib ni ms fi) (hp : 2 ≤ p) (hp2 : p ≤ 10007) (hL0 : 0 < L) (hL : L ≤ 4) (hn : n ≤ 8) (hN : (wordsZ L n).length ≤ 28) (hF : FreeOk L n) (hij : j < i) (hi : i < (wordsZ L n).length) :
    Calls Try.prog 121 #[.int .i64 i, .int .i64 j, .pointer (some ⟨bw, 0, none⟩), .pointer (some ⟨bm, 0, none⟩), .pointer (some ⟨bs, 0, none⟩), .pointer (some ⟨bp, 0, none⟩), .pointer (some ⟨bi, 0, none⟩)] w fun e w' => ∃ a c, e = .returned (.slice a (frRow p L n i j).length c) ∧ IntsAt w' a (frRow p L n i j).length (frRow p L n i j) ∧ (∀ b o, a = some ⟨b, o, none⟩ → w.heap.size ≤ b) ∧ Ext w w' := by
  have HX := hidP (fun w' (hx : Ext w w') => hX.below hx)
  have HF := hidP hF
  have HRl := hidP (frRow_length p L n i j)
  have HFz := hidP (frTo_zero p L n i j)
  have HFe := hidP (fun k0 => @frTo_end p L n i j k0)
  have HWa := hidP (fun k (hk : k < (wordsZ L n).length) => words_at hL0 hk)
  have HNo := hidP (fun (hl : ¬ ((wordsZ L n).getD i []).length + ((wordsZ L n).getD j []).length ≤ n) q (_ : 0 ≤ q) (_ : q < (wordsZ L n).length) => show (frT L n i j).getD q 0 % p = 0 by
    rw [← frRow_at]
    exact elim_none p hl q (Nat.zero_le _) (by rw [frRow_length]; assumption))
  have HSt := hidP (fun hl => @gM_start p L n i j hF hi hij hl)
  obtain ⟨x0, x1, x2, x3, x4, _, _, _, _⟩ := hX
  have hmk := make_ints (((wordsZ L n).length : Nat) : Int) (by omega) (by omega)
  rw [Int.toNat_natCast] at hmk
  have HM := hidP (OwnI.made w w.heap.size (wordsZ L n).length (Nat.le_refl _) (by unfold maxLen; omega))
  have hxa := Ext.alloc w (.cells (Array.replicate (wordsZ L n).length (.int .i64 0)) 3)
  have HXa := hidP hxa
  have hwi := HWa.out i hi
  have hwj := HWa.out j (by omega)
  clear hxa
  obtain ⟨wa, hwa⟩ : ∃ wa, wa = w.alloc (.cells (Array.replicate (wordsZ L n).length (.int .i64 0)) 3) := ⟨_, rfl⟩
  rw [← hwa] at HM HXa
  have hmk1 := hmk w
  rw [← hwa] at hmk1
  have HSz : Hid (w.heap.size < wa.heap.size) := by show _ < _; rw [hwa]; simp
  rw [← HFz.out] at HM
  obtain ⟨bo, hbo⟩ : ∃ b, b = w.heap.size := ⟨_, rfl⟩
  rw [← hbo] at HM hmk1 HSz
  have HBo := hidP hbo
  clear hmk hbo hwa
  obtain ⟨gv, ov, ai, ci, hav, hci, hii, _⟩ := (HX.out wa HXa.out).words.get i hi
  obtain ⟨gv', ov', aj, cj, hav', hcj, hij2, _⟩ := (HX.out wa HXa.out).words.get j (by omega)
  rw [hav] at hav'
  cases hav'
  subst hav
  obtain ⟨hsi, mi, fI, hfi⟩ := (HX.out wa HXa.out).sums i hi
  obtain ⟨hsj, mj, fJ, hfj⟩ := (HX.out wa HXa.out).sums j (by omega)
  have hb1 := World.block_lt_of_cell? wa _ hci
  have hb2 := World.block_lt_of_cell? wa _ hsi
  have HCe := hidP (fun w' (hx : Ext wa w') => (⟨(hx.cell (p := ⟨gv, ov + i, none⟩) hb1).trans hci, (hx.cell (p := ⟨gv, ov + j, none⟩) hb1).trans hcj, (hx.cell (p := ⟨gs, i, none⟩) hb2).trans hsi, (hx.cell (p := ⟨gs, j, none⟩) hb2).trans hsj⟩ : _ ∧ _ ∧ _ ∧ _))
  have HCx := hidP (fun w' (hx : Ext wa w') => (⟨(HX.out w' (HXa.out.trans hx)).cw, (HX.out w' (HXa.out.trans hx)).cm, (HX.out w' (HXa.out.trans hx)).cs, (HX.out w' (HXa.out.trans hx)).cp, (HX.out w' (HXa.out.trans hx)).ci⟩ : _ ∧ _ ∧ _ ∧ _ ∧ _))
  have HBr := hidP (fun w' (hx : Ext wa w') => freeBracket_any (ms i) (ms j) mi mj L ((wordsZ L n).getD i []).length ((wordsZ L n).getD j []).length p _ _ fI fJ w' (hfi.below hx) (hfj.below hx) hL (by omega) (by omega) hp hp2)
  clear hii hij2 hci hcj hsi hsj hfi hfj hb1 hb2 hF
  generalize hli : ((wordsZ L n).getD i []).length = li at *
  generalize hlj : ((wordsZ L n).getD j []).length = lj at *
  have e1 : IntKind.i64.wrap ((li : Int) + lj) = (li : Int) + lj := wrap_in (by omega) (by omega)
  have hE : Ext wa wa.drew := Ext.drew wa
  have q1 : (i : Int) < ((wordsZ L n).length : Int) := by omega
  have q2 : (j : Int) < ((wordsZ L n).length : Int) := by omega
  have HLi := hidP hli
  have HLj := hidP hlj
  clear hli hlj
  by_cases hfit : li + lj ≤ n
  · have HS := hidP (HSt.out hfit)
    have q3 : (li : Int) + lj ≤ (n : Int) := by omega
    clear HNo HSt
    go_enter Try.func121, Try.ntmps121
    go_wp2
    (refine walkR_start (fun w' => Ext wa w') 12 (by kernel_rfl) ?_; simp only [numbered, List.take_succ_cons, List.take_zero, Nat.zero_add, Nat.reduceAdd, List.length_cons, List.length_nil])
    (repeat (first | (refine walkR_still (v := ?_) rfl (by decide +kernel) rfl (fun _ _ _ h => h) hE ?_ ?_; rotate_left; (focus (intro w' hw'; obtain ⟨⟨f0, f1, f2, f3⟩, ⟨d0, d1, d2, d3, d4⟩⟩ := And.intro (HCe.out w' hw') (HCx.out w' hw'); go_simp; all_goals (with_reducible rfl))); simp only [Act.put, List.setIfInBounds_toArray, List.set_cons_zero, List.set_cons_succ]) | (refine walkR_skip rfl (by decide +kernel) rfl (fun _ _ _ h => h) hE ?_; simp only [Act.put, List.setIfInBounds_toArray, List.set_cons_zero, List.set_cons_succ])))
    (refine walkR_tail (by rfl) (by kernel_rfl) ?_; simp only [List.drop_succ_cons, List.drop_zero])
    have hE2 : Ext wa wa.drew.drew := hE.trans (Ext.drew _)
    have HCf : Hid (∀ w', Ext wa w' → w'.cell? ⟨gs, i, none⟩ = some (.map (some (ms i))) ∧ w'.cell? ⟨gs, j, none⟩ = some (.map (some (ms j)))) := fun w' hx => ⟨(HCe.out w' hx).2.2.1, (HCe.out w' hx).2.2.2⟩
    clear HCe
    go_wp2
    (refine walkR_start (fun w' => Ext wa w') 10 (by kernel_rfl) ?_; simp only [numbered, List.take_succ_cons, List.take_zero, Nat.zero_add, Nat.reduceAdd, List.length_cons, List.length_nil])
    (repeat (first | (refine walkR_still (v := ?_) rfl (by decide +kernel) rfl (fun _ _ _ h => h) hE2 ?_ ?_; rotate_left; (focus (intro w' hw'; obtain ⟨⟨f2, f3⟩, ⟨d0, d1, d2, d3, d4⟩⟩ := And.intro (HCf.out w' hw') (HCx.out w' hw'); go_simp; all_goals (with_reducible rfl))); simp only [Act.put, List.setIfInBounds_toArray, List.set_cons_zero, List.set_cons_succ]) | (refine walkR_skip rfl (by decide +kernel) rfl (fun _ _ _ h => h) hE2 ?_; simp only [Act.put, List.setIfInBounds_toArray, List.set_cons_zero, List.set_cons_succ])))
    (refine walkR_only (fun w' => Ext wa w') rfl (by decide +kernel) rfl (fun _ h => h) ?_; intro K hK; go_simp; refine (HBr.out _ hE2).mono ?_; rintro e w2 ⟨bl, ml, fl, rfl, hfl, hml, hbl, hx2⟩; refine hK _ _ (hE2.trans hx2) ?_; clear hK K; (try simp only [Act.put, List.setIfInBounds_toArray, List.set_cons_zero, List.set_cons_succ]))
    have hE4 := hE2.trans hx2
    (repeat (first | (refine walkR_still (v := ?_) rfl (by decide +kernel) rfl (fun _ _ _ h => h) hE4 ?_ ?_; rotate_left; (focus (intro w' hw'; skip; go_simp; all_goals (with_reducible rfl))); simp only [Act.put, List.setIfInBounds_toArray, List.set_cons_zero, List.set_cons_succ]) | (refine walkR_skip rfl (by decide +kernel) rfl (fun _ _ _ h => h) hE4 ?_; simp only [Act.put, List.setIfInBounds_toArray, List.set_cons_zero, List.set_cons_succ])))
    (refine walkR_tail (by rfl) (by kernel_rfl) ?_; simp only [List.drop_succ_cons, List.drop_zero])
    have hfl2 := hfl.congr (g' := fun x => fromS (wordsZ L n).length (fun k => cntSum (frS L n k)) (fun k => (frT L n i j).getD k 0) 0 x % p) fun x => by
      rw [gM_mulZ]
      exact HS.out x
    have hK0 : FreK p L n i j (li + lj) w bo bl 0 w2 := ⟨Nat.zero_le _, ml, fl, by rw [← HBo.out]; exact HM.out.below hE4, hfl2, by omega, HXa.out.trans hE4⟩
    have HK0 := hidP hK0
    have HBl : Hid (bo < bl) := by
      have h1 := HSz.out
      have h2 := hE2.size
      show _ < _
      omega
    obtain ⟨l, hl⟩ : ∃ l, l = li + lj := ⟨_, rfl⟩
    rw [← hl] at HK0
    have HLl := hidP hl
    have HXw := hidP (fun w' (hx : Ext w w') => HX.out w' hx)
    have hl8 : l ≤ 8 := by omega
    have hl1 : 1 ≤ l := by omega
    clear hK0 hfl hfl2 hml hbl hx2 hE4 hE2 hE HBr HCf HCx HS HXa HM q3 hl hfit
    go_wp2
    go_loopw [] (fun wr => ∃ k0, FreK p L n i j l w bo bl k0 wr) (fun wr => (wordsZ L n).length - topN (fun k0 => FreK p L n i j l w bo bl k0 wr) (wordsZ L n).length)
    case atStart => exact ⟨0, HK0.out⟩
    case round =>
      clear HK0
      obtain ⟨k0, hti, hJ⟩ := topJ (N := (wordsZ L n).length) hrel (fun i h => h.le)
      clear hrel
      obtain ⟨hk0, m, f, ho, hf, hm, hx⟩ := hJ
      have HTi := hidP hti
      have HO := hidP ho
      have HFm := hidP hf
      have HMm := hidP hm
      have HXr := hidP hx
      have HV0 := hidP (VisF.start L l (fun x => fromS (wordsZ L n).length (fun k => cntSum (frS L n k)) (fun k => (frT L n i j).getD k 0) k0 x % p) f)
      clear hti ho hf hm hx
      obtain ⟨g, hg⟩ : ∃ g : List Int → Int, g = fun x => fromS (wordsZ L n).length (fun k => cntSum (frS L n k)) (fun k => (frT L n i j).getD k 0) k0 x % p := ⟨_, rfl⟩
      rw [← hg] at HFm HV0
      have HG := hidP hg
      clear hg
      go_wp2_with (first | (at_range; refine wpList_rangeS _ rfl _ 129 9 3 rfl Try.underlying9 Try.underlying129 bl m f rfl HFm.out.map ?_; intro w3 cnt3 hrg3 hx3 hs3; have HG3 := hidP hrg3; have HX3 := hidP hx3; clear hrg3 hx3 hs3) | fail)
      go_frame
      obtain ⟨wk, rfl⟩ : ∃ wk : World, wk = wr := ⟨_, rfl⟩
      obtain ⟨R, hR⟩ : ∃ b, b = wk.heap.size := ⟨_, rfl⟩
      rw [← hR] at HG3 ⊢
      have HR := hidP hR
      have HLs : Hid (LeastS L l g ⟨#[]⟩ []) := .inl ⟨rfl, fun q hq => absurd hq (by simp)⟩
      clear hR
      go_loopw [12] (fun v12 wr => ∃ (left : ByteArray → Bool) (cnt : Nat) (U : List Tm) (s : ByteArray), v12 = .string s ∧ Hid (RangeS wr Try.prog 9 bl R m f left cnt) ∧ Hid (VisF L l g f left U) ∧ Hid (LeastS L l g s U) ∧ Hid (Ext wk wr)) (fun _ wr => wr.rangeLeft bl R)
      case atStart => exact ⟨_, _, [], _, rfl, HG3, HV0, HLs, HX3⟩
      case round =>
        clear HG3 HV0 HLs HX3
        obtain ⟨left, cnt, U, s, rfl, HGr, HV, HLe, HXk⟩ := hrel
        go_wp2_with (first | (at_next; refine wpList_nextS _ rfl _ rfl 9 Try.underlying9 bl R m f left cnt rfl HGr.out ?_ ?_) | fail)
        · intro hc0 hl0
          have hall := HV.out.all HFm.out (by unfold maxLen; omega) hl0
          have hdone := HLe.out.done hall (fun q hq => (HV.out.word q hq).2)
          clear hall hl0
          rcases hdone with ⟨rfl, hz⟩ | ⟨x, hwx, rfl, hgx, hmin⟩
          · have HE := hidP (HFe.out k0 (elimP_end HF.out.lead fun x => by
              have := hz x
              rw [HG.out] at this
              exact this))
            have HOk := hidP (HO.out.below HXk.out)
            have HXk2 := hidP (HXr.out.trans HXk.out)
            clear hz HV HLe HGr
            go_wp2
            go_ret
            refine ⟨some ⟨bo, 0, none⟩, (wordsZ L n).length, ?_, ?_, fun b o e => ?_, HXk2.out⟩
            · rw [HRl.out]
              rfl
            · rw [HRl.out, ← HE.out]
              exact HOk.out.ints
            · cases e
              rw [HBo.out]
              exact Nat.le_refl _
          · obtain ⟨m0, h0, hm0, hxm, hgm, hz⟩ := elimP_least HF.out.lead (x := x) (T := fun k => (frT L n i j).getD k 0) (k0 := k0) (p := p) (by rw [HG.out] at hgx; exact hgx) (fun y hy => hmin y (by rw [HG.out]; exact hy))
            have hll : ((wordsZ L n).getD m0 []).length = l := by rw [← hxm]; exact hwx.len
            have hgc : g x = (frT L n i j).getD m0 0 % p := by rw [HG.out]; exact hgm
            have hke := key_empty hwx (by omega)
            have HXk2 := hidP (HXr.out.trans HXk.out)
            have hX2 := HX.out wr HXk2.out
            have hfi := hX2.at_ m0 hm0
            rw [← hxm] at hfi
            have HFi : Hid ((fi (keyF x)).getD (.int .i64 0) = .int .i64 (m0 : Int)) := by show _ = _; rw [hfi]; rfl
            have HFx := hidP (HFm.out.val x hwx)
            have hrc := HFm.out.rng x
            generalize hgc0 : g x = c at *
            have HGc := hidP hgc
            have HIdx := hidP hX2.idx
            obtain ⟨d0, d1, d2, d3, d4, _, hsm, _, _⟩ := hX2
            obtain ⟨hcm, mm, fm, hfm⟩ := hsm m0 hm0
            rw [hll] at hfm
            have HSm := hidP hfm
            have HOk := hidP (HO.out.below HXk.out)
            have HLf := hidP (HFm.out.below HXk.out)
            have hks : (keyF x).size ≤ maxLen := by rw [keyF_size, hwx.len]; unfold maxLen; omega
            have q3 : (m0 : Int) < ((wordsZ L n).length : Int) := by omega
            have hct := HOk.out.ints.atc m0 hm0
            rw [Nat.zero_add] at hct
            have hft := HOk.out.unfrozen m0 bo 0 hm0 rfl
            rw [Nat.zero_add] at hft
            have hbs : bs < bo := by rw [HBo.out]; exact World.block_lt_of_cell? w _ (HX.out w (Ext.refl _)).cs
            have hgs : gs < bo := by rw [HBo.out]; exact World.block_lt_of_cell? w _ ((HX.out w (Ext.refl _)).sums m0 hm0).1
            have hbs1 : ¬ bs = bo := by omega
            have hbs2 : ¬ bo = bs := by omega
            have hgs1 : ¬ gs = bo := by omega
            have hgs2 : ¬ bo = gs := by omega
            have HZ := hidP hz
            have HH0 := hidP h0
            have hu := (UpdI.start HOk.out.ints).store m0 hm0 c
            rw [Nat.zero_add] at hu
            have HU := hidP hu
            have HXs := hidP (Ext.setNew HXk2.out bo m0 (by rw [HBo.out]; exact Nat.le_refl _) (.int .i64 c))
            have hgr : wr.grownBy (wr.setCell ⟨bo, m0, none⟩ (.int .i64 c)) (some bo) := ⟨rfl, rfl, rfl, by simp [World.setCell], fun k _ hk => Below.heap_setCell _ _ _ _ (fun e => hk (by rw [e]))⟩
            have HLf2 := hidP (HLf.out.kept hgr (by have := HBl.out; simp; omega))
            have HSm2 := hidP (HSm.out.kept hgr (by have := HX.out w (Ext.refl _); have h1 := (this.sums m0 hm0).2; obtain ⟨_, _, h2⟩ := h1; have h3 := h2.map.lt; have h4 := HBo.out; simp; omega))
            clear hxm hgm hgx hmin hz h0 hll hgc hgc0 hwx hfi hfm hsm hu hgr HV HLe HGr
            go_wp2_with (first | (at_lookup; refine wpList_lookupS _ rfl _ _ 128 9 3 rfl Try.underlying9 Try.underlying128 (.int .i64 0) (zero_int _) ib ni fi rfl HIdx.out (keyF x) rfl hks ?_; rw [HFi.out]) | (at_lookup; refine wpList_lookupS _ rfl _ _ 129 9 3 rfl Try.underlying9 Try.underlying129 (.int .i64 0) (zero_int _) bl m f rfl HLf.out.map (keyF x) rfl hks ?_; rw [HFx.out]) | (at_range; refine wpList_rangeS _ rfl _ 129 9 3 rfl Try.underlying9 Try.underlying129 (ms m0) mm fm rfl HSm2.out.map ?_; intro w5 cnt5 hrg5 hx5 hs5; have HG5 := hidP hrg5; have HX5 := hidP hx5; clear hrg5 hx5 hs5) | fail)
            go_frame
            have hO2 := HU.out.own HOk.out
            rw [HGc.out, frTo_step p HH0.out hm0 HZ.out, ← HGc.out] at hO2
            have HO5 := hidP (hO2.below HX5.out)
            have HX6 := hidP (HXs.out.trans HX5.out)
            have HL5 : Hid (FreM w5 bl m L l p (fun y => (g y - c * cntSum [] y) % p) f) := (HLf2.out.below HX5.out).congr fun y => by
              have hry := HFm.out.rng y
              show g y = (g y - c * 0) % p
              rw [Int.mul_zero, Int.sub_zero, Int.emod_eq_of_lt hry.1 hry.2]
            have HV0 := hidP (VisF.start L l (gM p (frS L n m0)) fm)
            have hszs : (wr.setCell ⟨bo, m0, none⟩ (.int .i64 c)).heap.size = wr.heap.size := by simp [World.setCell]
            rw [hszs] at HG5
            try rw [hszs]
            obtain ⟨R2, hR2⟩ : ∃ b, b = wr.heap.size := ⟨_, rfl⟩
            rw [← hR2] at HG5 ⊢
            have HMs : Hid (ms m0 < bo) := by
              obtain ⟨_, _, h2⟩ := ((HX.out w (Ext.refl _)).sums m0 hm0).2
              have h3 := h2.map.lt
              have h4 := HBo.out
              show _ < _
              omega
            have HR2 : Hid (bo < R2 ∧ bl < R2 ∧ w.heap.size ≤ R2) := by
              have h1 := (HOk.out.at_base bo 0 rfl).2
              have h2 := HLf.out.map.lt
              have h3 := HXk2.out.size
              show _ ∧ _ ∧ _
              omega
            clear hO2 HOk HXs HX5 hszs hR2 HLf HLf2 HSm2 HU HXk2 HXk HO d0 d1 d2 d3 d4 hct hft hcm hke hks HIdx HFx HFi hbs hbs1 hbs2 hgs hgs1 hgs2
            go_loopw [] (fun wr => ∃ (left : ByteArray → Bool) (cnt m' : Nat) (V : List Tm) (f' : ByteArray → Option Value), Hid (RangeS wr Try.prog 9 (ms m0) R2 mm fm left cnt) ∧ Hid (FreM wr bl m' L l p (fun y => (g y - c * cntSum V y) % p) f') ∧ Hid (VisF L l (gM p (frS L n m0)) fm left V) ∧ Hid (m' ≤ m + V.length) ∧ Hid (OwnI wr w.heap.size (some ⟨bo, 0, none⟩) (wordsZ L n).length (wordsZ L n).length (frTo p L n i j (m0 + 1))) ∧ Hid (Ext w wr)) (fun wr => wr.rangeLeft (ms m0) R2)
            case atStart => exact ⟨_, _, m, [], f, HG5, HL5, HV0, Nat.le_refl _, HO5, HX6⟩
            case round =>
              clear HG5 HL5 HV0 HO5 HX6
              obtain ⟨left3, cnt3, m', V, f', HG3, HL3, HV3, HM3, HO3, HX3⟩ := hrel
              go_wp2_with (first | (at_next; refine wpList_nextS _ rfl _ rfl 9 Try.underlying9 (ms m0) R2 mm fm left3 cnt3 rfl HG3.out ?_ ?_) | fail)
              · intro hc0 hl0
                have hall := HV3.out.all HSm.out (by unfold maxLen; omega) hl0
                have hVf := HV3.out.few hL hl8
                have hK : FreK p L n i j l w bo bl (m0 + 1) wr := ⟨hm0, m', f', HO3.out, HL3.out.congr fun y => gM_next hm0 HH0.out HZ.out HGc.out hall (fun z => by rw [HG.out]) y, by
                  have h1 := HM3.out
                  have h2 := HMm.out
                  have h3 := HH0.out
                  omega, HX3.out⟩
                have HK := hidP hK
                clear hall hVf hl0 hK HG3 HL3 HV3 HO3 HX3
                go_wp2
                go_roundw
                case rel => exact ⟨m0 + 1, HK.out⟩
                case measure =>
                  have h1 := topN_ge (J := fun k0 => FreK p L n i j l w bo bl k0 wr) (i := m0 + 1) (n := (wordsZ L n).length) HK.out hm0
                  have h2 := HTi.out
                  have h3 := HH0.out
                  have h4 := hm0
                  show _ - topN _ _ < _ - topN _ _
                  omega
              · intro s2 v w7 cnt7 hss hls hfs hrg7 hlt hg7 hs7 hen
                obtain ⟨y, hwy, rfl, rfl⟩ := HSm.out.some_ hfs
                have HX7 := hidP (ext_past HX3.out hg7 HR2.out.2.2)
                have HL7 := hidP (HL3.out.kept hg7 (by have := HR2.out; simp; omega))
                have HO7 := hidP (HO3.out.grown hg7 (fun g' o e => by cases e; have := HR2.out; simp; omega))
                have HG7 := hidP hrg7
                have HV7 := hidP (HV3.out.step2 hL hwy hls)
                have HLt := hidP (show cnt7 < cnt3 ∧ wr.rangeLeft (ms m0) R2 = cnt3 from ⟨hlt, HG3.out.left_eq⟩)
                have hru := HSm.out.rng y
                have hVf := HV7.out.few hL hl8
                rw [List.length_append, List.length_singleton] at hVf
                have HVf := hidP hVf
                generalize hu0 : gM p (frS L n m0) y = u at *
                have hrv := HL7.out.rng y
                have HVl := hidP (HL7.out.val y hwy)
                obtain ⟨c2, hc2⟩ : ∃ c2, c2 = (g y - c * cntSum V y) % p := ⟨_, rfl⟩
                have hrv : 0 ≤ c2 ∧ c2 < p := by rw [hc2]; exact hrv
                have HVl : Hid ((f' (keyF y)).getD (.int .i64 0) = .int .i64 c2) := by rw [hc2]; exact HVl
                have HC2 := hidP hc2
                have HWy := hidP hwy
                have hks : (keyF y).size ≤ maxLen := by rw [keyF_size, hwy.len]; unfold maxLen; omega
                have hm0 : 0 ≤ c * u := Int.mul_nonneg hrc.1 hru.1
                have hm1 : c * u ≤ 100140049 := Int.le_trans (Int.mul_le_mul (show c ≤ 10007 by omega) (show u ≤ 10007 by omega) hru.1 (by decide)) (by decide)
                have hpz : ¬ p = 0 := by omega
                have hq0 := Int.emod_nonneg (c * u) hpz
                have hq1 := Int.emod_lt_of_pos (c * u) (show 0 < p by omega)
                have e1 : IntKind.i64.wrap (c * u) = c * u := wrap_in (by omega) (by omega)
                have e4 : (c * u).tmod p = c * u % p := Int.tmod_eq_emod_of_nonneg hm0
                have e5 : IntKind.i64.wrap (c2 - c * u % p) = c2 - c * u % p := wrap_in (by omega) (by omega)
                have HLk : Hid (∀ w', Ext w7 w' → (Instr.lookup 129 (.map (some bl)) (.string (keyF y)) false).run Try.prog w' = .ok (.int .i64 c2) w') := fun w' hx => by
                  have h := (HL7.out.map.below hx).lookup (T := 129) (E := 3) (z := .int .i64 0) Try.underlying9 Try.underlying129 (zero_int w') hks
                  rw [HVl.out] at h
                  exact h
                have HPc := hidP (fun w' (hx : Ext w7 w') => (HX.out w' (HX7.out.trans hx)).cp)
                have HMd := hidP (fun n w' => mod_any n p w' (by omega) (by omega))
                have hE : Ext w7 w7.drew := Ext.drew w7
                have hMb : Hid (m' < maxLen) := by
                  have h1 := HM3.out
                  have h2 := HMm.out
                  have h3 := HVf.out
                  show m' < _
                  unfold maxLen
                  omega
                clear hss hls hfs hrg7 hlt hg7 hs7 hwy hc2 hu0 hVf HV3 HG3 HL3 HO3 HX3 hm1
                go_wp2
                (refine walkR_start (fun w' => Ext w7 w') 13 (by kernel_rfl) ?_; simp only [numbered, List.take_succ_cons, List.take_zero, Nat.zero_add, Nat.reduceAdd, List.length_cons, List.length_nil])
                (repeat (first | (refine walkR_still (v := ?_) rfl (by decide +kernel) rfl (fun _ _ _ h => h) hE ?_ ?_; rotate_left; (focus (intro w' hw'; obtain ⟨hlk, hpc⟩ := And.intro (HLk.out w' hw') (HPc.out w' hw'); go_simp; all_goals (with_reducible rfl))); simp only [Act.put, List.setIfInBounds_toArray, List.set_cons_zero, List.set_cons_succ]) | (refine walkR_skip rfl (by decide +kernel) rfl (fun _ _ _ h => h) hE ?_; simp only [Act.put, List.setIfInBounds_toArray, List.set_cons_zero, List.set_cons_succ])))
                (refine walkR_only (fun w' => Ext w7 w') rfl (by decide +kernel) rfl ?_ ?_)
                · exact fun _ h => h
                intro K' hK'
                go_simp
                refine (HMd.out _ _).mono ?_
                rintro e w8 ⟨rfl, rfl⟩
                refine hK' _ _ hE ?_
                clear hK' K'
                (try simp only [Act.put, List.setIfInBounds_toArray, List.set_cons_zero, List.set_cons_succ])
                (refine walkR_tail (by rfl) (by kernel_rfl) ?_; simp only [List.drop_succ_cons, List.drop_zero])
                have HX8 := hidP (HX7.out.trans hE)
                have HL8 := hidP (HL7.out.below hE)
                have HO8 := hidP (HO7.out.below hE)
                have HG8 := hidP (HG7.out.below hE)
                clear HX7 HL7 HO7 HG7 HLk HPc hE
                obtain ⟨w8, hw8⟩ : ∃ w8, w8 = w7.drew := ⟨_, rfl⟩
                rw [← hw8] at HX8 HL8 HO8 HG8 ⊢
                clear hw8
                go_wp2_with (first | (at_mapUpdate; refine wpList_updateS _ rfl _ _ _ 129 9 3 rfl Try.underlying9 Try.underlying129 bl m' f' rfl HL8.out.map hMb.out (keyF y) rfl hks (.int .i64 ((c2 - c * u % p) % p)) rfl ?_; intro w9 hm9 hg9; have HM9 := hidP hm9; have HG9 := hidP hg9; clear hm9 hg9) | fail)
                go_frame
                have HL9 := hidP (HL8.out.sub (u := u) (v := (c2 - c * u % p) % p) (by omega) hL HWy.out (by rw [HC2.out]) HM9.out)
                have HX9 := hidP (ext_past HX8.out HG9.out (by have := HBl.out; have := HBo.out; omega))
                have HO9 := hidP (HO8.out.grown HG9.out (fun g' o e => by cases e; have := HBl.out; simp; omega))
                have HGr9 := hidP (HG8.out.kept HG9.out (by have := HMs.out; have := HBl.out; simp; omega) (by have := HR2.out; simp; omega))
                have HM9 : Hid (m' + 1 ≤ m + (V ++ [(y, u)]).length) := by
                  have h1 := HM3.out
                  show m' + 1 ≤ _
                  rw [List.length_append, List.length_singleton]
                  omega
                clear HX8 HL8 HO8 HG8 HG9
                go_roundw
                case rel => exact ⟨_, cnt7, _, _, _, HGr9, HL9, HV7, HM9, HO9, HX9⟩
                case measure =>
                  rw [HGr9.out.left_eq, HLt.out.2]
                  exact HLt.out.1
        · intro s2 v w1 cnt1 hss hls hfs hrg1 hlt hg1 hs1 hen
          obtain ⟨y, hwy, rfl, rfl⟩ := HFm.out.some_ hfs
          have HXk1 := hidP (ext_past HXk.out hg1 (by rw [HR.out]; exact Nat.le_refl _))
          have HG1 := hidP hrg1
          have HV1 := hidP (HV.out.step2 hL hwy hls)
          have HLt := hidP (show cnt1 < cnt ∧ wr.rangeLeft bl R = cnt from ⟨hlt, HGr.out.left_eq⟩)
          clear hss hls hfs hrg1 hlt hg1 hs1 HV HGr HXk
          by_cases hz : g y = 0
          · have HL1 := hidP (HLe.out.pass hz)
            have hgb : (g y != 0) = false := by simp [hz]
            clear hz HLe
            go_wp2
            go_roundw
            case rel => exact ⟨_, cnt1, _, _, rfl, HG1, HV1, HL1, HXk1⟩
            case measure =>
              rw [HG1.out.left_eq, HLt.out.2]
              exact HLt.out.1
          · have hgb : (g y != 0) = true := by simpa using hz
            rcases HLe.out with ⟨hs0, h2⟩ | ⟨x, h1, hsx, h3, h4⟩
            · have HL1 := hidP (LeastS.first h2 hwy hz)
              subst hs0
              clear hz HLe h2
              go_wp2
              go_roundw
              case rel => exact ⟨_, cnt1, _, _, rfl, HG1, HV1, HL1, HXk1⟩
              case measure =>
                rw [HG1.out.left_eq, HLt.out.2]
                exact HLt.out.1
            · subst hsx
              have hke := key_empty h1 (by omega)
              have hkl := key_less hL hwy h1
              by_cases hb : cmpW y x < 0
              · have HL1 := hidP (LeastS.take h4 hwy hz hb)
                rw [decide_eq_true hb] at hkl
                clear hz HLe h1 h3 h4 hb
                go_wp2
                go_roundw
                case rel => exact ⟨_, cnt1, _, _, rfl, HG1, HV1, HL1, HXk1⟩
                case measure =>
                  rw [HG1.out.left_eq, HLt.out.2]
                  exact HLt.out.1
              · have HL1 := hidP (LeastS.stay h1 h3 h4 (y := y) hb)
                rw [decide_eq_false hb] at hkl
                clear hz HLe h1 h3 h4 hb
                go_wp2
                go_roundw
                case rel => exact ⟨_, cnt1, _, _, rfl, HG1, HV1, HL1, HXk1⟩
                case measure =>
                  rw [HG1.out.left_eq, HLt.out.2]
                  exact HLt.out.1
  · have HZ := hidP (HFe.out 0 (HNo.out hfit))
    have q3 : (n : Int) < (li : Int) + lj := by omega
    have HMe := hidP (HM.out.below hE)
    have HXe := hidP (HXa.out.trans hE)
    clear HNo HSt hfit HBr
    go_enter Try.func121, Try.ntmps121
    go_wp2
    (refine walkR_start (fun w' => Ext wa w') 12 (by kernel_rfl) ?_; simp only [numbered, List.take_succ_cons, List.take_zero, Nat.zero_add, Nat.reduceAdd, List.length_cons, List.length_nil])
    (repeat (first | (refine walkR_still (v := ?_) rfl (by decide +kernel) rfl (fun _ _ _ h => h) hE ?_ ?_; rotate_left; (focus (intro w' hw'; obtain ⟨⟨f0, f1, f2, f3⟩, ⟨d0, d1, d2, d3, d4⟩⟩ := And.intro (HCe.out w' hw') (HCx.out w' hw'); go_simp; all_goals (with_reducible rfl))); simp only [Act.put, List.setIfInBounds_toArray, List.set_cons_zero, List.set_cons_succ]) | (refine walkR_skip rfl (by decide +kernel) rfl (fun _ _ _ h => h) hE ?_; simp only [Act.put, List.setIfInBounds_toArray, List.set_cons_zero, List.set_cons_succ])))
    (refine walkR_tail (by rfl) (by kernel_rfl) ?_; simp only [List.drop_succ_cons, List.drop_zero])
    go_wp2
    go_ret
    refine ⟨some ⟨bo, 0, none⟩, (wordsZ L n).length, ?_, ?_, fun b o e => ?_, HXe.out⟩
    · rw [HRl.out]
      rfl
    · rw [HRl.out, ← HZ.out]
      exact HMe.out.ints
    · cases e
      rw [HBo.out]
      exact Nat.le_refl _
end Go.Proofs.Ytenlhfimdpcaoaa

namespace Go.Proofs.Ytenlhfimdpcaoaa
open Go.RowKit

theorem byTab_skip (p : Int) (n : Nat) (f : Nat → Nat → List Int) (i j m : Nat) (hm : m = (f i j).length) : tabF n (byTo p f i j m) = tabF n (byTo p f i (j + 1) 0) := byTo_next p n f i j m (by omega)
/-- the algebra under way: its variable's block b, its table at block g; the result's variable at r -/
structure TabJ (w0 w : World) (r b g : Nat) (p : Int) (n N3 : Nat) (ts : List Int) : Prop where
  alg : AlgAt w b p (n : Int) (some ⟨g, 0, none⟩) N3 N3
  own : OwnI w w0.heap.size (some ⟨g, 0, none⟩) N3 N3 ts
  ext : Ext w0 w
  res : AlgAt w r 0 0 none 0 0
  resf : ∀ j, w.frozen? ⟨r, j, none⟩ = false
theorem TabJ.below {w0 w w' : World} {r b g : Nat} {p : Int} {n N3 : Nat} {ts : List Int} (h : TabJ w0 w r b g p n N3 ts) (hx : Ext w w') : TabJ w0 w' r b g p n N3 ts :=
  ⟨h.alg.below hx, h.own.below hx, h.ext.trans hx, h.res.below hx, fun j => (hx.frozen (p := ⟨r, j, none⟩) (show r < w.heap.size from World.block_lt_of_cell? w ⟨r, 0, none⟩ h.res.c0)).trans (h.resf j)⟩
theorem TabJ.upd {w0 w w' : World} {r b g : Nat} {p : Int} {n N3 : Nat} {ts ys : List Int} (h : TabJ w0 w r b g p n N3 ts) (hb : b ≠ g) (hr : r ≠ g) (hu : UpdI w w' (some ⟨g, 0, none⟩) N3 ys) : TabJ w0 w' r b g p n N3 ys :=
  ⟨h.alg.upd hu (fun b' o' e => by cases e; exact hb), hu.own h.own, hu.below h.ext h.ext.size (fun b o e _ => (h.own.at_base b o e).1), h.res.upd hu (fun b' o' e => by cases e; exact hr), fun j => by
    have hl := World.block_lt_of_cell? w _ h.res.c0
    rw [World.frozen?_of_block (hu.other r hl fun b' o' e _ => by cases e; exact hr)]
    exact h.resf j⟩
theorem TabJ.as {w0 w : World} {r b g : Nat} {p : Int} {n N3 : Nat} {ts ys : List Int} (h : TabJ w0 w r b g p n N3 ts) (e : ts = ys) : TabJ w0 w r b g p n N3 ys := e ▸ h
theorem OwnI.setOther {w : World} {B g n c : Nat} {xs : List Int} (h : OwnI w B (some ⟨g, 0, none⟩) n c xs) {r : Nat} (hr : r ≠ g) (i : Nat) (v : Value) : OwnI (w.setCell ⟨r, i, none⟩ v) B (some ⟨g, 0, none⟩) n c xs :=
  h.grown (row := some r) ⟨rfl, rfl, rfl, by simp [World.setCell], fun k _ hk => Below.heap_setCell _ _ _ _ (fun e => hk (by rw [e]))⟩ (fun g' o e => by cases e; simp; omega)
set_option maxRecDepth 100000 in
set_option maxHeartbeats 4000000 in
theorem tableBy_any (F : FuncId) (caps : Array Value) (p : Int) (n : Nat) (f : Nat → Nat → List Int) (w : World) (hp : 1 ≤ p) (hp2 : p ≤ 1000000) (hn : n ≤ 28)
    (hF : ∀ (args : Array Value) (w : World), Sem.run Try.prog (callFunc F args) w = .ok (.enter F args) w)
    (hf : ∀ i j w', j < i → i < n → Ext w w' → Calls Try.prog F (#[.int .i64 i, .int .i64 j] ++ caps) w' fun e w'' => ∃ a c, e = .returned (.slice a (f i j).length c) ∧ IntsAt w'' a (f i j).length (f i j) ∧ (∀ b o, a = some ⟨b, o, none⟩ → b < w.heap.size ∨ w'.heap.size ≤ b) ∧ Ext w' w'')
    (hlen : ∀ i j, j < i → i < n → (f i j).length ≤ n) (hnum : ∀ i j k, j < i → i < n → k < (f i j).length → -1000000000 ≤ (f i j).getD k 0 ∧ (f i j).getD k 0 ≤ 1000000000) :
    Calls Try.prog 120 #[.int .i64 p, .int .i64 n, .func (.func F) #[] caps] w fun e w' => ∃ a, e = .returned (algV p n a (n * n * n) (n * n * n)) ∧ OwnI w' w.heap.size a (n * n * n) (n * n * n) (byL p n f) ∧ Ext w w' := by
  obtain ⟨k1, k2, k3, k4⟩ := cube_le (d := (n : Int)) (by omega) (by omega)
  have hmk := make_ints ((n : Int) * n * n) k3 (by omega)
  have hnn : ((n : Int) * n * n).toNat = n * n * n := by rw [← Int.natCast_mul, ← Int.natCast_mul, Int.toNat_natCast]
  rw [hnn] at hmk
  obtain ⟨N3, hN3⟩ : ∃ N3, N3 = n * n * n := ⟨_, rfl⟩
  have hN3I : (N3 : Int) = (n : Int) * n * n := by rw [hN3, Int.natCast_mul, Int.natCast_mul]
  have HNI := hidP hN3I
  have e1 : IntKind.i64.wrap ((n : Int) * n) = (n : Int) * n := wrap_in (by omega) (by omega)
  have e2 : IntKind.i64.wrap ((n : Int) * n * n) = (n : Int) * n * n := wrap_in (by omega) (by omega)
  have HZ := hidP (byTo_start p n f)
  rw [← hN3] at HZ hmk ⊢
  have HM := hidP (fun w' (hb : w.heap.size ≤ w'.heap.size) => OwnI.made w' w.heap.size N3 hb (by unfold maxLen; omega))
  have HF := hidP hf
  have HLen := hidP hlen
  have HNum := hidP hnum
  have HMd := hidP (fun n w' => mod_any n p w' hp hp2)
  clear hf hlen hnum hN3 hN3I hnn
  go_enter Try.func120, Try.ntmps120
  have hJ0 : TabJ w (((w.alloc (.cells #[.int .i64 0, .int .i64 0, .slice none 0 0] 24)).alloc (.cells (Array.replicate N3 (.int .i64 0)) 3)).alloc (.cells #[.int .i64 p, .int .i64 (n : Int), .slice (some ⟨w.heap.size + 1, 0, none⟩) N3 N3] 24)) w.heap.size (w.heap.size + 1 + 1) (w.heap.size + 1) p n N3 (tabF n (byTo p f 0 0 0)) := by
    have hx1 := Ext.alloc w (.cells #[.int .i64 0, .int .i64 0, .slice none 0 0] 24)
    have hx2 := Ext.alloc (w.alloc (.cells #[.int .i64 0, .int .i64 0, .slice none 0 0] 24)) (.cells (Array.replicate N3 (.int .i64 0)) 3)
    have hx3 := Ext.alloc ((w.alloc (.cells #[.int .i64 0, .int .i64 0, .slice none 0 0] 24)).alloc (.cells (Array.replicate N3 (.int .i64 0)) 3)) (.cells #[.int .i64 p, .int .i64 (n : Int), .slice (some ⟨w.heap.size + 1, 0, none⟩) N3 N3] 24)
    have hs1 : (w.alloc (.cells #[.int .i64 0, .int .i64 0, .slice none 0 0] 24)).heap.size = w.heap.size + 1 := by simp
    refine ⟨AlgAt.new _ _ (by simp) _ _ _ _ _ _, ?_, (hx1.trans hx2).trans hx3, (AlgAt.new w _ rfl _ _ _ _ _ _).below (hx2.trans hx3), fun j => ?_⟩
    · rw [HZ.out]
      have := HM.out (w.alloc (.cells #[.int .i64 0, .int .i64 0, .slice none 0 0] 24)) hx1.size
      rw [hs1] at this
      exact this.below hx3
    · rw [(hx2.trans hx3).frozen (p := ⟨w.heap.size, j, none⟩) (by simp)]
      exact frozen_top _ _ _ _ _ rfl
  have HJ0 := hidP hJ0
  obtain ⟨r, hr⟩ : ∃ r, r = w.heap.size := ⟨_, rfl⟩
  obtain ⟨g, hg⟩ : ∃ r, r = w.heap.size + 1 := ⟨_, rfl⟩
  obtain ⟨b, hb⟩ : ∃ r, r = w.heap.size + 1 + 1 := ⟨_, rfl⟩
  have HNe : Hid (b ≠ g ∧ r ≠ g ∧ w.heap.size ≤ g) := by show _ ∧ _ ∧ _; omega
  have HRr : Hid (w.heap.size = r) := hr.symm
  rw [← hb, ← hg, ← hr] at HJ0
  clear hJ0 HM HZ
  go_wp2
  rw [← hb, ← hg, ← hr]
  clear hr hg hb hmk k1 k2 k3 k4 e1 e2
  go_loopw [22] (fun v22 wr => ∃ (i : Nat), i ≤ n ∧ v22 = .int .i64 i ∧ Hid (TabJ w wr r b g p n N3 (tabF n (byTo p f i 0 0)))) (fun v22 _ => n - (intOf v22).toNat)
  case atStart => exact ⟨0, Nat.zero_le _, rfl, HJ0⟩
  case round =>
    clear HJ0
    obtain ⟨i, hi, rfl, HJ⟩ := hrel
    by_cases hin : i < n
    · have q1 : (i : Int) < (n : Int) := by omega
      go_wp2
      go_loopw [26] (fun v26 wr => ∃ (j : Nat), j ≤ i ∧ v26 = .int .i64 j ∧ Hid (TabJ w wr r b g p n N3 (tabF n (byTo p f i j 0)))) (fun v26 _ => i - (intOf v26).toNat)
      case atStart => exact ⟨0, Nat.zero_le _, rfl, HJ⟩
      case round =>
        clear HJ
        obtain ⟨j, hj, rfl, HJ⟩ := hrel
        by_cases hji : j < i
        · have q2 : (j : Int) < (i : Int) := by omega
          have HC := hidP (HF.out i j wr hji hin HJ.out.ext)
          have hlm := HLen.out i j hji hin
          have HNm := hidP (fun k => HNum.out i j k hji hin)
          have HSk := hidP (byTab_skip p n f i j)
          have HSe := hidP (fun m (hm : m < n) => byTo_set p f (i := i) (j := j) (m := m) hin hji hm)
          go_wp2_with fail
          refine HC.out.mono ?_
          rintro e w1 ⟨a1, c1, rfl, hi1, hb1, hx1⟩
          have HJ1 := hidP (HJ.out.below hx1)
          have HI1 := hidP hi1
          have HAp : Hid (∀ b o b' o', some (⟨g, 0, none⟩ : Addr) = some ⟨b, o, none⟩ → a1 = some ⟨b', o', none⟩ → b ≠ b') := by
            intro b2 o2 b3 o3 e e' hbb
            cases e
            have h1 := hb1 b3 o3 e'
            have h2 := (HJ.out.own.at_base g 0 rfl).2
            have h3 := HNe.out.2.2
            omega
          generalize hLL : (f i j).length = LL at *
          have HLL := hidP hLL
          clear hi1 hb1 hx1 HC HJ hLL
          go_wp2
          go_loopw [34] (fun v34 wr => ∃ (m : Nat), m ≤ LL ∧ v34 = .int .i64 m ∧ Hid (TabJ w wr r b g p n N3 (tabF n (byTo p f i j m))) ∧ Hid (IntsAt wr a1 LL (f i j))) (fun v34 _ => LL - (intOf v34).toNat)
          case atStart => exact ⟨0, Nat.zero_le _, rfl, HJ1, HI1⟩
          case round =>
            clear HJ1 HI1
            obtain ⟨m, hm, rfl, HJ, HI⟩ := hrel
            by_cases hmL : m < LL
            · have hmn : m < n := by omega
              obtain ⟨ba, oa, rfl, hca⟩ := HI.out.get m hmL
              have hva := HNm.out m hmL
              have hset := HSe.out m hmn
              generalize (f i j).getD m 0 = v at *
              obtain ⟨p1, p2, p3, p4, p5⟩ := idx_facts (d := (n : Int)) (i := (i : Int)) (j := (j : Int)) (k := (m : Int)) (by omega) (by omega) (by omega) (by omega) (by omega) (by omega) (by omega)
              obtain ⟨s1, s2, s3, s4, s5⟩ := idx_facts (d := (n : Int)) (i := (j : Int)) (j := (i : Int)) (k := (m : Int)) (by omega) (by omega) (by omega) (by omega) (by omega) (by omega) (by omega)
              obtain ⟨t1, ht1⟩ : ∃ t, t = (i * n + j) * n + m := ⟨_, rfl⟩
              obtain ⟨t2, ht2⟩ : ∃ t, t = (j * n + i) * n + m := ⟨_, rfl⟩
              have h1I : (t1 : Int) = ((i : Int) * n + j) * n + m := by rw [ht1, Int.natCast_add, Int.natCast_mul, Int.natCast_add, Int.natCast_mul]
              have h2I : (t2 : Int) = ((j : Int) * n + i) * n + m := by rw [ht2, Int.natCast_add, Int.natCast_mul, Int.natCast_add, Int.natCast_mul]
              rw [← ht1, ← ht2] at hset
              have hNI := HNI.out
              have T1 : t1 < N3 := by omega
              have T2 : t2 < N3 := by omega
              have e1 : IntKind.i64.wrap ((i : Int) * n) = (i : Int) * n := wrap_in (by omega) (by omega)
              have e2 : IntKind.i64.wrap ((i : Int) * n + j) = (i : Int) * n + j := wrap_in (by omega) (by omega)
              have e3 : IntKind.i64.wrap (((i : Int) * n + j) * n) = ((i : Int) * n + j) * n := wrap_in (by omega) (by omega)
              have e4 : IntKind.i64.wrap (((i : Int) * n + j) * n + m) = (t1 : Int) := by rw [h1I]; exact wrap_in (by omega) (by omega)
              have e5 : IntKind.i64.wrap ((j : Int) * n) = (j : Int) * n := wrap_in (by omega) (by omega)
              have e6 : IntKind.i64.wrap ((j : Int) * n + i) = (j : Int) * n + i := wrap_in (by omega) (by omega)
              have e7 : IntKind.i64.wrap (((j : Int) * n + i) * n) = ((j : Int) * n + i) * n := wrap_in (by omega) (by omega)
              have e8 : IntKind.i64.wrap (((j : Int) * n + i) * n + m) = (t2 : Int) := by rw [h2I]; exact wrap_in (by omega) (by omega)
              have e9 : IntKind.i64.wrap (-v) = -v := wrap_in (by omega) (by omega)
              have e9' : IntKind.i64.wrap (0 - v) = -v := by rw [Int.zero_sub]; exact e9
              have T1' : (t1 : Int) < (N3 : Int) := by omega
              have T2' : (t2 : Int) < (N3 : Int) := by omega
              have T1'' : (0 : Int) ≤ (t1 : Int) := by omega
              have T2'' : (0 : Int) ≤ (t2 : Int) := by omega
              have hu1 := (UpdI.start HJ.out.own.ints).store t1 T1 v
              rw [Nat.zero_add] at hu1
              have HU1 := hidP hu1
              obtain ⟨f0, f1, f2⟩ := HJ.out.alg
              have hct := HJ.out.own.ints.atc t1 T1
              rw [Nat.zero_add] at hct
              have hft := HJ.out.own.unfrozen t1 g 0 T1 rfl
              rw [Nat.zero_add] at hft
              have hmI : (m : Int) < (LL : Int) := by omega
              have HSet := hidP hset
              have HT := hidP (show t1 < N3 ∧ t2 < N3 from ⟨T1, T2⟩)
              clear hset hu1 p1 p2 p3 p4 p5 s1 s2 s3 s4 s5 ht1 ht2 h1I h2I hNI T1 T2
              go_wp2
              have HJ2 := hidP (HJ.out.upd HNe.out.1 HNe.out.2.1 HU1.out)
              have HI2 := hidP (HU1.out.others HI.out HAp.out)
              clear f0 f1 f2 hct hft HU1 HJ HI e1 e2 e3 e4 hca T1' T1''
              obtain ⟨w2, hw2⟩ : ∃ w2, w2 = wr.setCell ⟨g, t1, none⟩ (.int .i64 v) := ⟨_, rfl⟩
              rw [← hw2] at HJ2 HI2 ⊢
              clear hw2
              have HAl := hidP (fun w' (hx : Ext w2 w') => HJ2.out.alg.below hx)
              have hE : Ext w2 w2.drew := Ext.drew w2
              (refine walkR_start (fun w' => Ext w2 w') 16 (by kernel_rfl) ?_; simp only [numbered, List.take_succ_cons, List.take_zero, Nat.zero_add, Nat.reduceAdd, List.length_cons, List.length_nil])
              (repeat (first | (refine walkR_still (v := ?_) rfl (by decide +kernel) rfl (fun _ _ _ h => h) hE ?_ ?_; rotate_left; (focus (intro w' hw'; obtain ⟨f0, f1, f2⟩ := HAl.out w' hw'; go_simp; all_goals (with_reducible rfl))); simp only [Act.put, List.setIfInBounds_toArray, List.set_cons_zero, List.set_cons_succ]) | (refine walkR_skip rfl (by decide +kernel) rfl (fun _ _ _ h => h) hE ?_; simp only [Act.put, List.setIfInBounds_toArray, List.set_cons_zero, List.set_cons_succ])))
              (refine walkR_only (fun w' => Ext w2 w') rfl (by decide +kernel) rfl ?_ ?_)
              · exact fun _ h => h
              intro K' hK'
              go_simp
              refine (HMd.out _ _).mono ?_
              rintro e w5 ⟨rfl, rfl⟩
              refine hK' _ _ hE ?_
              clear hK' K'
              (try simp only [Act.put, List.setIfInBounds_toArray, List.set_cons_zero, List.set_cons_succ])
              (repeat (first | (refine walkR_still (v := ?_) rfl (by decide +kernel) rfl (fun _ _ _ h => h) hE ?_ ?_; rotate_left; (focus (intro w' hw'; obtain ⟨f0, f1, f2⟩ := HAl.out w' hw'; go_simp; all_goals (with_reducible rfl))); simp only [Act.put, List.setIfInBounds_toArray, List.set_cons_zero, List.set_cons_succ]) | (refine walkR_skip rfl (by decide +kernel) rfl (fun _ _ _ h => h) hE ?_; simp only [Act.put, List.setIfInBounds_toArray, List.set_cons_zero, List.set_cons_succ])))
              (refine walkR_tail (by rfl) (by kernel_rfl) ?_; simp only [List.drop_succ_cons, List.drop_zero])
              have HJ3 := hidP (HJ2.out.below hE)
              have HI3 := hidP (HI2.out.below hE)
              clear HJ2 HI2 HAl hE
              obtain ⟨w3, hw3⟩ : ∃ w3, w3 = w2.drew := ⟨_, rfl⟩
              rw [← hw3] at HJ3 HI3 ⊢
              clear hw3
              have hu2 := (UpdI.start HJ3.out.own.ints).store t2 HT.out.2 ((-v) % p)
              rw [Nat.zero_add] at hu2
              have HU2 := hidP hu2
              have hct := HJ3.out.own.ints.atc t2 HT.out.2
              rw [Nat.zero_add] at hct
              have hft := HJ3.out.own.unfrozen t2 g 0 HT.out.2 rfl
              rw [Nat.zero_add] at hft
              clear hu2
              go_wp2
              have hJ4 := (HJ3.out.upd HNe.out.1 HNe.out.2.1 HU2.out)
              have hse := HSet.out
              rw [Int.zero_sub] at hse
              rw [hse] at hJ4
              have HJ4 := hidP hJ4
              have HI4 := hidP (HU2.out.others HI3.out HAp.out)
              clear hJ4 hse hct hft HJ3 HI3 HU2
              go_roundw
              case rel => exact ⟨m + 1, by omega, by go_num, HJ4, HI4⟩
              case measure => simp [intOf]; omega
            · obtain rfl : m = LL := by omega
              have HJ2 := hidP (HJ.out.as (HSk.out m rfl))
              have q3 : ¬ (m : Int) < (m : Int) := by omega
              clear HJ
              go_wp2
              go_roundw
              case rel => exact ⟨j + 1, by omega, by go_num, HJ2⟩
              case measure => simp [intOf]; omega
        · obtain rfl : j = i := by omega
          have HJ2 := hidP (HJ.out.as (byTo_row p n f j))
          have q2 : ¬ (j : Int) < (j : Int) := by omega
          clear HJ
          go_wp2
          go_roundw
          case rel => exact ⟨j + 1, by omega, by go_num, HJ2⟩
          case measure => simp [intOf]; omega
    · obtain rfl : i = n := by omega
      have hfin := HJ.out.as (byTo_all p i f)
      obtain ⟨f0, f1, f2⟩ := hfin.alg
      obtain ⟨r0, r1, r2⟩ := hfin.res
      have y0 := hfin.resf 0
      have y1 := hfin.resf 1
      have y2 := hfin.resf 2
      have HO := hidP hfin.own
      have HX := hidP hfin.ext
      have q1 : ¬ (i : Int) < (i : Int) := by omega
      clear hfin HJ
      go_wp2
      refine bodyPost_ret (v := algV p (i : Int) (some ⟨g, 0, none⟩) N3 N3) (by simp [results, Try.results120, go_sem, r0, r1, r2]) rfl ?_
      have hw := HRr.out
      refine ⟨_, rfl, ?_, ?_⟩
      · exact ((HO.out.setOther HNe.out.2.1 _ _).setOther HNe.out.2.1 _ _).setOther HNe.out.2.1 _ _
      · rw [← hw]
        exact Ext.setNew (Ext.setNew (Ext.setNew HX.out _ _ (Nat.le_refl _) _) _ _ (Nat.le_refl _) _) _ _ (Nat.le_refl _) _
end Go.Proofs.Ytenlhfimdpcaoaa
