/-
  Paths that stay in the chamber: isDominantPath, l9Dominant.
  Products of characters by paths, plain. No program in sight.
  Straight paths.
  The finite sets of paths of the small modules: what holds of lowering and raising there. No program in sight.
  The character of the paths of a weight, plain. No program in sight.
  Owned lists of paths under marks: what a change within bounds leaves. No walk.
  The tests of steepness of both sides, and what PathsOf gives. No program in sight.
  What PathsOf asks of weights and of ways.
  Highest weights of a small kind, for the reference.
  Ways that are too steep, for the reference.
  The search of the paths of a weight, step by step. No program in sight.
  The search of the paths of a weight, plain: two tests of steepness end it alike. No program in sight.
  Coroots of every matrix that is a type's, in any order of rows: checked by the kernel.
  Where paths that are closed under lowering have no way above 12, there is none below -12. No program in sight.
  Coroots, plain: what the numbers of the weights of an orbit can be. No program in sight.
  The reference's small functions on lists: l1Residues, l1IsZero, l2Get, l2Row, l2Basis, l2Plus.
  What a valid algebra is, as the program asks it.
  The type lie: newLie, pair, right.
  The program's algebras by tables: residues, isZero, addTo, the type lie with pair and right.
  Paths of a weight, plain: straight paths lowered as far as they go; where no way rises above 12, none falls below -12. No program in sight.
  A list of one path.
  The reference's look for a path in a list; ways that are too steep.
  Owned lists of paths: each path lies in blocks of its own.
  Products of lists of terms, plain. No program in sight.
  The program's products of lists of terms. Printed by gen/mul.py.
  The reference's products of lists of terms. Printed by gen/mul.py.
  Numbers added to ordered lists of words, plain: the reference's insertion, its sums of two lists. No program in sight.
  The program's counts: a list of terms added; AddCharacters.
  The reference's l8Put: a number added to a word of an ordered list. Printed by gen/put.py.
  The reference's sums of lists of terms: l8Clean, l8Join, AddCharacters. Printed by gen/join.py.
-/
import Derived.Test.YtdhlapppahkjeaaGreatDoorMd9
namespace Go.Proofs.YtdhlapppahkjeaaGreatDoor
open Go.RowKit

def putT : List Tm → List Int → Int → List Tm
  | [], w, n => [(w, n)]
  | t :: l, w, n => if 0 < lexC t.1 w then t :: putT l w n else if t.1 = w then (w, t.2 + n) :: l else (w, n) :: t :: l
theorem cntSum_put (l : List Tm) (w : List Int) (n : Int) : cntSum (putT l w n) = addG (cntSum l) w n := by
  funext x
  induction l with
  | nil =>
    unfold putT addG
    by_cases h : x = w
    · subst h; simp [cntSum]
    · rw [if_neg h]; simp [cntSum, Ne.symm h]
  | cons t l ih =>
    unfold putT
    split
    · simp only [cntSum, ih]
      unfold addG
      by_cases hx : x = w
      · subst hx
        simp only [if_true]
        omega
      · simp only [if_neg hx]
    · split
      · rename_i h
        unfold addG
        by_cases hx : x = w
        · subst hx
          simp only [cntSum, h, if_true]
          omega
        · simp only [cntSum, h, if_neg (Ne.symm hx), if_neg hx]
      · unfold addG
        by_cases hx : x = w
        · subst hx
          simp only [cntSum, if_true]
          omega
        · simp only [cntSum, if_neg (Ne.symm hx), if_neg hx]
          omega
theorem mem_put {l : List Tm} {w : List Int} {n : Int} {p : Tm} (h : p ∈ putT l w n) : p ∈ l ∨ p.1 = w := by
  induction l with
  | nil =>
    simp only [putT, List.mem_singleton] at h
    exact .inr (by rw [h])
  | cons t l ih =>
    unfold putT at h
    split at h
    · rcases List.mem_cons.1 h with rfl | h
      · exact .inl (by simp)
      · rcases ih h with h | h
        · exact .inl (by simp [h])
        · exact .inr h
    · split at h
      · rcases List.mem_cons.1 h with rfl | h
        · exact .inr rfl
        · exact .inl (by simp [h])
      · rcases List.mem_cons.1 h with rfl | h
        · exact .inr rfl
        · exact .inl h
theorem ordered_put {l : List Tm} (h : Ordered Above l) (w : List Int) (n : Int) : Ordered Above (putT l w n) := by
  induction l with
  | nil => exact List.pairwise_singleton _ _
  | cons t l ih =>
    obtain ⟨h1, h2⟩ := List.pairwise_cons.1 h
    unfold putT
    split
    · rename_i ht
      refine List.pairwise_cons.2 ⟨fun p hp => ?_, ih h2⟩
      rcases mem_put hp with hp | hp
      · exact h1 p hp
      · rw [hp]; exact above_iff.2 ht
    · rename_i ht
      split
      · rename_i he
        subst he
        exact List.pairwise_cons.2 ⟨fun p hp => h1 p hp, h2⟩
      · rename_i he
        have hw : Above w t.1 := by
          rcases above_ord.tot he with h3 | h3
          · exact absurd (above_iff.1 h3) ht
          · exact h3
        refine List.pairwise_cons.2 ⟨fun p hp => ?_, h⟩
        rcases List.mem_cons.1 hp with rfl | hp
        · exact hw
        · exact above_ord.tr hw (h1 p hp)
theorem put_length (l : List Tm) (w : List Int) (n : Int) : (putT l w n).length ≤ l.length + 1 := by
  induction l with
  | nil => simp [putT]
  | cons t l ih =>
    unfold putT
    split
    · simp only [List.length_cons]; omega
    · split <;> simp
/-- the insertion at a place behind words that stand above -/
theorem put_split {l : List Tm} {w : List Int} {n : Int} : ∀ {k : Nat}, k ≤ l.length → (∀ j, j < k → 0 < lexC (wayAt l j) w) → putT l w n = l.take k ++ putT (l.drop k) w n := by
  induction l with
  | nil => intro k hk _; simp at hk; subst hk; rfl
  | cons t l ih =>
    intro k hk h
    cases k with
    | zero => rfl
    | succ k =>
      have h0 : 0 < lexC t.1 w := by simpa [wayAt] using h 0 (by omega)
      rw [putT, if_pos h0, List.take_succ_cons, List.drop_succ_cons, List.cons_append]
      rw [ih (by simpa using hk) (fun j hj => by simpa [wayAt] using h (j + 1) (by omega))]
theorem drop_at {l : List Tm} {k : Nat} (hk : k < l.length) : l.drop k = (wayAt l k, lenAt l k) :: l.drop (k + 1) := by
  have e : (wayAt l k, lenAt l k) = l[k] := by unfold wayAt lenAt; rw [getT hk]
  rw [e]
  exact List.drop_eq_getElem_cons hk
theorem put_end {l : List Tm} {w : List Int} {n : Int} (h : ∀ j, j < l.length → 0 < lexC (wayAt l j) w) : putT l w n = l.take l.length ++ [(w, n)] ++ l.drop l.length := by
  rw [put_split (Nat.le_refl _) h]
  simp [putT]
theorem put_same {l : List Tm} {w : List Int} {n : Int} {k : Nat} (hk : k < l.length) (h : ∀ j, j < k → 0 < lexC (wayAt l j) w) (he : wayAt l k = w) : putT l w n = l.set k (wayAt l k, lenAt l k + n) := by
  rw [put_split (Nat.le_of_lt hk) h, drop_at hk]
  have hn : ¬ 0 < lexC w w := by
    have := above_ord.irr w
    rw [above_iff] at this
    exact this
  rw [he, putT, if_neg hn, if_pos rfl]
  rw [List.set_eq_take_append_cons_drop, if_pos hk]
theorem put_new {l : List Tm} {w : List Int} {n : Int} {k : Nat} (hk : k < l.length) (h : ∀ j, j < k → 0 < lexC (wayAt l j) w) (ha : ¬ 0 < lexC (wayAt l k) w) (he : wayAt l k ≠ w) : putT l w n = l.take k ++ [(w, n)] ++ l.drop k := by
  rw [put_split (Nat.le_of_lt hk) h, drop_at hk, putT, if_neg ha, if_neg he]
  simp
/-- without the words whose number is 0 -/
def cleanT (l : List Tm) : List Tm := l.filter fun p => p.2 != 0
theorem cntSum_clean (l : List Tm) : cntSum (cleanT l) = cntSum l := by
  funext x
  induction l with
  | nil => rfl
  | cons t l ih =>
    unfold cleanT at *
    rw [List.filter_cons]
    split
    · simp only [cntSum, ih]
    · rename_i h
      have h0 : t.2 = 0 := by simpa using h
      simp only [cntSum, ih, h0]
      split <;> omega
theorem clean_self {l : List Tm} (h : ∀ p ∈ l, p.2 ≠ 0) : cleanT l = l := List.filter_eq_self.2 fun p hp => by simpa using h p hp
def putsT (o : List Tm) (n : Int) (b : List Tm) : List Tm := b.foldl (fun o t => putT o t.1 (n * t.2)) o
def timesT (n : Int) (b : List Tm) : List Tm := b.map fun p => (p.1, n * p.2)
theorem cntSum_puts (n : Int) : ∀ (b o : List Tm), cntSum (putsT o n b) = cntSum (o ++ timesT n b)
  | [], o => by simp [putsT, timesT]
  | t :: b, o => by
    have ih := cntSum_puts n b (putT o t.1 (n * t.2))
    unfold putsT at ih ⊢
    rw [List.foldl_cons, ih]
    funext x
    rw [cntSum_append, cntSum_put, cntSum_append]
    unfold timesT addG
    simp only [List.map_cons, cntSum]
    by_cases h : x = t.1
    · subst h; simp; omega
    · rw [if_neg h, if_neg (Ne.symm h)]; omega
theorem ordered_puts (n : Int) : ∀ (b : List Tm) {o : List Tm}, Ordered Above o → Ordered Above (putsT o n b)
  | [], _, h => h
  | t :: b, o, h => by
    have := ordered_puts n b (ordered_put h t.1 (n * t.2))
    exact this
theorem puts_length (n : Int) : ∀ (b o : List Tm), (putsT o n b).length ≤ o.length + b.length
  | [], o => by simp [putsT]
  | t :: b, o => by
    have h1 := puts_length n b (putT o t.1 (n * t.2))
    have h2 := put_length o t.1 (n * t.2)
    unfold putsT at h1 ⊢
    rw [List.foldl_cons]
    simp only [List.length_cons]
    omega
/-- n times a list added to another one -/
def joinT (a : List Tm) (n : Int) (b : List Tm) : List Tm := cleanT (putsT (cleanT a) n b)
theorem ordered_clean {l : List Tm} (h : Ordered Above l) : Ordered Above (cleanT l) := List.Pairwise.filter _ h
theorem joinT_tells {a b : List Tm} (n : Int) (h : Ordered Above a) : Ordered Above (joinT a n b) ∧ Tells (cntSum (a ++ timesT n b)) (joinT a n b) := by
  have ho : Ordered Above (joinT a n b) := ordered_clean (ordered_puts n b (ordered_clean h))
  refine ⟨ho, ?_⟩
  have ht := tells_of above_ord ho fun p hp => by
    have := (List.mem_filter.1 hp).2
    simpa using this
  have e : cntSum (joinT a n b) = cntSum (a ++ timesT n b) := by
    unfold joinT
    rw [cntSum_clean, cntSum_puts]
    funext x
    rw [cntSum_append, cntSum_append, cntSum_clean]
  rwa [e] at ht
theorem joinT_length (a : List Tm) (n : Int) (b : List Tm) : (joinT a n b).length ≤ a.length + b.length := by
  have h1 := puts_length n b (cleanT a)
  have h2 : (joinT a n b).length ≤ (putsT (cleanT a) n b).length := List.length_filter_le _ _
  have h3 : (cleanT a).length ≤ a.length := List.length_filter_le _ _
  omega
end Go.Proofs.YtdhlapppahkjeaaGreatDoor

namespace Go.Proofs.YtdhlapppahkjeaaGreatDoor
open Go.RowKit

theorem StepsAt.extM {b1 b2 : Nat} {w w' : World} {a : Option Addr} {n : Nat} {xs : List Stp} (h : StepsAt w a n xs) (hx : ExtM b1 b2 w w') (m1 : IsMapAt w b1) (m2 : IsMapAt w b2) : StepsAt w' a n xs := by
  refine ⟨h.len, fun i hi => ?_⟩
  obtain ⟨b, o, aw, cw, e, h1, h2, h3, h4, h5⟩ := h.get i hi
  exact ⟨b, o, aw, cw, e, hx.cell m1 m2 h1, hx.cell m1 m2 h2, h3.extM hx m1 m2, h4, h5⟩
/-! ### AddCharacters. Printed by gen/addP.py. -/
theorem timesT_one (us : List Tm) : timesT 1 us = us := by
  unfold timesT
  rw [show (fun p : Tm => (p.1, 1 * p.2)) = id from funext fun p => by simp]
  simp
end Go.Proofs.YtdhlapppahkjeaaGreatDoor

namespace Go.Proofs.YtdhlapppahkjeaaGreatDoor
open Go.RowKit

set_option maxRecDepth 100000 in
set_option maxHeartbeats 8000000 in
theorem l8Put_any (B : Nat) (go m co : Nat) (hs : List Hdr) (xs : List Tm) (aw : Option Addr) (cw : Nat) (W : List Int) (L : Int) (w : World) (ho : OwnK termK w B w.heap.size (some ⟨go, 0, none⟩) m co hs xs)
    (hway : IntsAt w aw W.length W) (hnil : aw = none → cw = 0) (hk : W.length ≤ 1000000) (hm : m ≤ 1000000) (hB : B ≤ w.heap.size)
    (hsum : ∀ i, i < m → -9223372036854775808 ≤ lenAt xs i + L ∧ lenAt xs i + L ≤ 9223372036854775807) :
    Calls Tryz.prog 22 #[.slice (some ⟨go, 0, none⟩) m co, .slice aw W.length cw, .int .i64 L] w fun e w' => ∃ g' n' c' hs', e = .returned (.slice (some ⟨g', 0, none⟩) n' c') ∧ OwnK termK w' B w'.heap.size (some ⟨g', 0, none⟩) n' c' hs' (putT xs W L) ∧ Below B w w' := by
  have HO := hidP ho
  have HWy := hidP hway
  have HN := hidP hnil
  have hxl := ho.xl
  have hhl := ho.hl
  have HB := hidP hB
  have hmc : m ≤ co := by
    rcases ho.form with ⟨e, _⟩ | ⟨_, _, _, _, _, _, h1, _⟩
    · cases e
    · exact h1
  have HSm := hidP hsum
  have HI := hidP (fun w' (hx : Ext w w') => l1Ints_any aw W.length cw W w' (HWy.out.below hx) HN.out (by omega))
  clear ho hway hnil hB hsum
  go_enter Tryz.func22, Tryz.ntmps22
  go_wp2
  go_loopw [7] (fun i wr => ∃ k : Nat, k ≤ m ∧ i = .int .i64 k ∧ Hid (∀ j, j < k → 0 < lexC (wayAt xs j) W) ∧ Hid (Ext w wr)) (fun i _ => m - (intOf i).toNat)
  case atStart => exact ⟨0, Nat.zero_le _, rfl, fun j hj => by omega, Ext.refl _⟩
  case round =>
    obtain ⟨k, hkm, rfl, HJ, HX⟩ := hrel
    by_cases hlt : k < m
    · obtain ⟨b, o, aV, cV, V, M, e', HV, HM, hvl, HNV, hq⟩ := ((HO.out.below HX.out).stepsAtT).way k hlt
      simp only [Option.some.injEq, Addr.mk.injEq, and_true] at e'
      obtain ⟨rfl, rfl⟩ := e'
      have HQ := hidP hq
      obtain ⟨q1, q2, _⟩ := hq wr (Ext.refl wr)
      rw [Nat.zero_add] at q1 q2
      have hki : (k : Int) < (m : Int) := by omega
      have HAb := hidP (fun w' (hx : Ext wr w') => l6Above_any aV aw V.length W.length cV cw V W w' (HQ.out w' hx).2.2 ((HWy.out.below HX.out).below hx) hvl (by omega))
      clear hq
      cases hV : decide (0 < lexC V W)
      · rw [hV] at HAb
        have hna := of_decide_eq_false hV
        go_wp2_with fail
        refine (HAb.out _ (Ext.refl _)).mono ?_
        rintro e w2 ⟨rfl, hx2⟩
        have HX2 := hidP (HX.out.trans hx2)
        obtain ⟨q1, q2, _⟩ := HQ.out w2 hx2
        rw [Nat.zero_add] at q1 q2
        have HSame := hidP (l1Same_any aV aw V.length W.length cV cw V W w2 (HQ.out w2 hx2).2.2 (HWy.out.below HX2.out) hvl (by omega))
        clear hV HAb hx2
        cases hE : (V == W)
        · rw [hE] at HSame
          have HNe : Hid (putT xs W L = xs.take k ++ [(W, L)] ++ xs.drop k) := by
            show _ = _
            exact put_new (by omega) HJ.out (by rw [HV.out]; omega) (by rw [HV.out]; simpa using hE)
          clear hE hna
          go_wp2_with fail
          refine HSame.out.mono ?_
          rintro e w3 ⟨rfl, q, rfl⟩
          have HX3 := hidP (HX2.out.trans (Ext.drewN w2 q))
          clear HSame q1 q2
          go_wp2
          obtain ⟨wr', hwr'⟩ : ∃ x, x = w2.drewN q := ⟨_, rfl⟩
          rw [← hwr'] at HX3 ⊢
          clear hwr'
          have hE : Ext wr' wr'.drew := Ext.drew wr'
          have hk0 : (0 : Int) ≤ (k : Int) := by omega
          have hk1 : (k : Int) ≤ (m : Int) := by omega
          have hk2 : (k : Int) ≤ (co : Int) := by omega
          have hk3 : (m : Int) ≤ (co : Int) := by omega
          have hwsz := HX3.out.size
          have hgo := HO.out.base_lt go 0 rfl
          have hBw := HB.out
          (refine walkR_start (fun w' => Ext wr' w') 14 (by kernel_rfl) ?_; simp only [numbered, List.take_succ_cons, List.take_zero, Nat.zero_add, Nat.reduceAdd, List.length_cons, List.length_nil])
          (refine walkR_later ?_; simp only [List.cons_append, List.nil_append])
          (repeat (first | (refine walkR_still (v := ?_) rfl (by decide +kernel) rfl (fun _ _ _ h => h) hE ?_ ?_; rotate_left; (focus (intro w' hw'; skip; go_simp; all_goals (with_reducible rfl))); simp only [Act.put, List.setIfInBounds_toArray, List.set_cons_zero, List.set_cons_succ]) | (refine walkR_skip rfl (by decide +kernel) rfl (fun _ _ _ h => h) hE ?_; simp only [Act.put, List.setIfInBounds_toArray, List.set_cons_zero, List.set_cons_succ])))
          (refine walkR_later ?_; simp only [List.cons_append, List.nil_append])
          (repeat (first | (refine walkR_still (v := ?_) rfl (by decide +kernel) rfl (fun _ _ _ h => h) hE ?_ ?_; rotate_left; (focus (intro w' hw'; skip; go_simp; all_goals (with_reducible rfl))); simp only [Act.put, List.setIfInBounds_toArray, List.set_cons_zero, List.set_cons_succ]) | (refine walkR_skip rfl (by decide +kernel) rfl (fun _ _ _ h => h) hE ?_; simp only [Act.put, List.setIfInBounds_toArray, List.set_cons_zero, List.set_cons_succ])))
          (refine walkR_later ?_; simp only [List.cons_append, List.nil_append])
          (repeat (first | (refine walkR_still (v := ?_) rfl (by decide +kernel) rfl (fun _ _ _ h => h) hE ?_ ?_; rotate_left; (focus (intro w' hw'; skip; go_simp; all_goals (with_reducible rfl))); simp only [Act.put, List.setIfInBounds_toArray, List.set_cons_zero, List.set_cons_succ]) | (refine walkR_skip rfl (by decide +kernel) rfl (fun _ _ _ h => h) hE ?_; simp only [Act.put, List.setIfInBounds_toArray, List.set_cons_zero, List.set_cons_succ])))
          (refine walkR_later ?_; simp only [List.cons_append, List.nil_append]); (refine walkR_later ?_; simp only [List.cons_append, List.nil_append]); (refine walkR_later ?_; simp only [List.cons_append, List.nil_append])
          (repeat (first | (refine walkR_still (v := ?_) rfl (by decide +kernel) rfl (fun _ _ _ h => h) hE ?_ ?_; rotate_left; (focus (intro w' hw'; skip; go_simp; all_goals (with_reducible rfl))); simp only [Act.put, List.setIfInBounds_toArray, List.set_cons_zero, List.set_cons_succ]) | (refine walkR_skip rfl (by decide +kernel) rfl (fun _ _ _ h => h) hE ?_; simp only [Act.put, List.setIfInBounds_toArray, List.set_cons_zero, List.set_cons_succ])))
          (refine walkR_only (fun w' => Ext wr' w') rfl (by decide +kernel) rfl ?_ ?_)
          · exact fun _ h => h
          intro K hK
          go_simp
          have hE1 := (Ext.alloc wr' (.cells #[] 57)).trans (Ext.drew _)
          have hsz1 : ((wr'.alloc (.cells #[] 57)).drew).heap.size = wr'.heap.size + 1 := by show (wr'.alloc _).heap.size = _; simp
          have HO1 : Hid (OwnK termK (wr'.alloc (.cells #[] 57)).drew B ((wr'.alloc (.cells #[] 57)).drew).heap.size (some ⟨wr'.heap.size, 0, none⟩) 0 0 [] []) := ((OwnK.made0 termK wr').below (Ext.drew _)).weaken (B' := B) (by omega) (Nat.le_refl _)
          have HP1 := hidP (((HO.out.below HX3.out).below hE1).front k (by omega))
          have HQ1 := hidP ((HO.out.below HX3.out).below hE1)
          refine hK _ _ hE1 ?_
          clear hK K hE
          (try simp only [Act.put, List.setIfInBounds_toArray, List.set_cons_zero, List.set_cons_succ])
          obtain ⟨w1, hw1⟩ : ∃ w1, w1 = (wr'.alloc (.cells #[] 57)).drew := ⟨_, rfl⟩
          rw [← hw1] at HO1 HP1 HQ1 hE1 hsz1
          first | rw [← hw1] | skip
          clear hw1
          (refine walkR_only (fun w' => Ext wr' w') rfl (by decide +kernel) rfl ?_ ?_)
          · exact fun _ h => h
          intro K hK
          refine wp_append_part termK 26 (.agg #[.slice none 0 0, .int .i64 0]) 32 (.tmp 48) (.tmp 51) rfl Tryz.underlying26 Tryz.info57 rfl (by omega) B _ wr'.heap.size 0 0 [] (hs.take k) [] (xs.take k) rfl HO1.out go 0 k co rfl HP1.out (fun i j hi => by omega) (by omega) (by omega) ?_
          intro g4 c4 w4 ho4 hg4 hn4
          rw [List.nil_append, List.nil_append, Nat.zero_add] at ho4
          rw [Nat.zero_add]
          have hE4 : Ext wr' w4 := Below.past_block hE1 hg4 (by omega) (Nat.le_refl _)
          have HQ4 := hidP (HQ1.out.past hg4 (fun g o e => by simp only [Option.some.injEq, Addr.mk.injEq] at e; omega) (by omega))
          have HO4 := hidP ho4
          have hg4b : wr'.heap.size ≤ g4 := by omega
          have hsz4 := hg4.size
          refine hK _ _ hE4 ?_
          clear hK K ho4 hg4 hn4 hE1
          (try simp only [Act.put, List.setIfInBounds_toArray, List.set_cons_zero, List.set_cons_succ])
          (refine walkR_only (fun w' => Ext wr' w') rfl (by decide +kernel) rfl (fun _ h => h) ?_; intro K hK; go_simp; refine (HI.out _ (HX3.out.trans hE4)).mono ?_; rintro e w6 ⟨a1, c1, rfl, ho1, hx6⟩; refine hK _ _ (hE4.trans hx6) ?_; clear hK K; (try simp only [Act.put, List.setIfInBounds_toArray, List.set_cons_zero, List.set_cons_succ]))
          have hE6 := hE4.trans hx6
          (repeat (first | (refine walkR_still (v := ?_) rfl (by decide +kernel) rfl (fun _ _ _ h => h) hE6 ?_ ?_; rotate_left; (focus (intro w' hw'; skip; go_simp; all_goals (with_reducible rfl))); simp only [Act.put, List.setIfInBounds_toArray, List.set_cons_zero, List.set_cons_succ]) | (refine walkR_skip rfl (by decide +kernel) rfl (fun _ _ _ h => h) hE6 ?_; simp only [Act.put, List.setIfInBounds_toArray, List.set_cons_zero, List.set_cons_succ])))
          (refine walkR_only (fun w' => Ext wr' w') rfl (by decide +kernel) rfl ?_ ?_)
          · exact fun _ h => h
          intro K hK
          go_simp
          have hxa := Ext.alloc w6 (.cells #[.slice a1 W.length c1, .int .i64 L] 57)
          have hE7 := hE6.trans hxa
          have HO7 := hidP (HO4.out.below (hx6.trans hxa))
          have HQ7 := hidP (HQ4.out.below (hx6.trans hxa))
          have HI7 := hidP ((ho1.below hxa).base (B' := B) (by omega))
          have HA1 : Hid (∀ b o, a1 = some ⟨b, o, none⟩ → w4.heap.size ≤ b) := fun b o e => (ho1.at_base b o e).1
          have HP7 : Hid (PartK termK (w6.alloc (.cells #[.slice a1 W.length c1, .int .i64 L] 57)) B w6.heap.size 0 1 [(a1, c1)] [(W, L)]) := PartK.single (fun j _ => (cell_top _ _ _ _ _ rfl).trans (by simp [termK])) HI7.out
          have hsz7 := (hx6.trans hxa).size
          refine hK _ _ hE7 ?_
          clear hK K ho1 hx6 hE4 hE6 hxa
          (try simp only [Act.put, List.setIfInBounds_toArray, List.set_cons_zero, List.set_cons_succ])
          obtain ⟨w7, hw7⟩ : ∃ w7, w7 = w6.alloc (.cells #[.slice a1 W.length c1, .int .i64 L] 57) := ⟨_, rfl⟩
          rw [← hw7] at HO7 HQ7 HI7 HP7 hsz7 hE7
          first | rw [← hw7] | skip
          clear hw7
          (refine walkR_only (fun w' => Ext wr' w') rfl (by decide +kernel) rfl ?_ ?_)
          · exact fun _ h => h
          intro K hK
          refine wp_append_part termK 26 (.agg #[.slice none 0 0, .int .i64 0]) 32 (.tmp 52) (.tmp 57) rfl Tryz.underlying26 Tryz.info57 rfl (by omega) B _ g4 k c4 (hs.take k) [(a1, c1)] (xs.take k) [(W, L)] rfl HO7.out w6.heap.size 0 1 1 rfl HP7.out (fun i j hi hj b o b' o' e e' => by
            obtain rfl : j = 0 := by omega
            have h1 := HA1.out b' o' e'
            have h2 := HQ7.out.lt i (by omega) b o (by rw [← e]; simp [List.getD_eq_getElem?_getD, hi])
            omega) (by omega) (by omega) ?_
          intro g10 c10 w10 ho10 hg10 hn10
          have hE10 : Ext wr' w10 := Below.past_block hE7 hg10 hE7.size hg4b
          have HQ10 := hidP (HQ7.out.past hg10 (fun g o e => by simp only [Option.some.injEq, Addr.mk.injEq] at e; omega) (by omega))
          have HO10 := hidP ho10
          have hg10b : wr'.heap.size ≤ g10 := by have := hE7.size; omega
          have HP10 := hidP (HQ10.out.part k (by omega))
          refine hK _ _ hE10 ?_
          clear hK K ho10 hg10 hn10 hE7
          (try simp only [Act.put, List.setIfInBounds_toArray, List.set_cons_zero, List.set_cons_succ])
          (refine walkR_tail (by rfl) (by kernel_rfl) ?_; simp only [List.drop_succ_cons, List.drop_zero])
          have hx61 : (if co = k then some (⟨go, 0, none⟩ : Addr) else some ⟨go, k * 2, none⟩) = some ⟨go, if co = k then 0 else k * 2, none⟩ := by split <;> rfl
          have HP61 := hidP (HP10.out.moved (o' := if co = k then 0 else k * 2) (by
            by_cases hck : co = k
            · right; omega
            · left; rw [if_neg hck]; rfl))
          rw [hx61]
          clear hx61
          refine wpList_append_part termK 26 (.agg #[.slice none 0 0, .int .i64 0]) 32 rfl (.tmp 58) (.tmp 61) rfl Tryz.underlying26 Tryz.info57 rfl (by omega) B _ g10 (k + 1) c10 _ (hs.drop k) _ (xs.drop k) rfl HO10.out go _ (m - k) (co - k) (by first | rfl | (rw [Nat.sub_self]; rfl)) HP61.out ?_ (by omega) (by have := hE10.size; omega) ?_
          · intro i j hi hj b o b' o' e e'
            have hhl10 := HQ10.out.hl
            have e2 : (hs.getD (k + j) (none, 0)).1 = some ⟨b', o', none⟩ := by rw [← e']; simp [List.getD_eq_getElem?_getD, List.getElem?_drop]
            by_cases hi2 : i < k
            · have e1 : (hs.getD i (none, 0)).1 = some ⟨b, o, none⟩ := by
                rw [← e, getD_left _ _ _ _ (by simp; omega)]
                simp [List.getD_eq_getElem?_getD, hi2]
              exact HQ10.out.apart i (k + j) (by omega) (by omega) (by omega) b o b' o' e1 e2
            · have e1 : a1 = some ⟨b, o, none⟩ := by
                rw [← e, getD_right _ _ _ _ (by simp; omega)]
                have : i - (hs.take k).length = 0 := by simp; omega
                rw [this]
                rfl
              have h1 := HA1.out b o e1
              have h2 := HQ10.out.lt (k + j) (by omega) b' o' e2
              omega
          intro g14 c14 w14 ho14 hg14 hn14
          have hE14 : Ext wr' w14 := Below.past_block hE10 hg14 hE10.size hg10b
          have hX14 : Ext w w14 := HX3.out.trans hE14
          have hn14 : k + 1 + (m - k) = m + 1 := by omega
          rw [hn14] at ho14 ⊢
          rw [← HNe.out] at ho14
          have HO14 := hidP ho14
          have HB14 : Hid (Below B w w14) := Below.mono hX14 HB.out
          clear ho14 hg14 hE10 hE14 hX14
          go_wp2
          all_goals go_ret
          all_goals first | exact ⟨g14, m + 1, c14, _, rfl, HO14.out, HB14.out⟩ | exact ⟨g14, m + 1, c14, rfl, ⟨_, HO14.out⟩, HB14.out⟩
        · rw [hE] at HSame
          obtain rfl : V = W := by simpa using hE
          have HNe : Hid (putT xs V L = xs.set k (V, M + L)) := by
            show _ = _
            rw [put_same (by omega) HJ.out HV.out, HV.out, HM.out]
          have hs1 := HSm.out k hlt
          rw [HM.out] at hs1
          have hwr : IntKind.i64.wrap (M + L) = M + L := wrap_in (by omega) (by omega)
          clear hE hna
          go_wp2_with fail
          refine HSame.out.mono ?_
          rintro e w3 ⟨rfl, q, rfl⟩
          have HX3 := hidP (HX2.out.trans (Ext.drewN w2 q))
          obtain ⟨g, al, cl, e', hh, q1, q2, r1, r2, hol⟩ := (HO.out.below HX3.out).stepCellT k (by omega)
          simp only [Option.some.injEq, Addr.mk.injEq, and_true] at e'
          subst e'
          rw [HV.out] at q1
          rw [HM.out] at q2
          have hst := (HO.out.below HX3.out).stored k 1 (by omega) (by decide) (.int .i64 (M + L)) (wayAt xs k, M + L) rfl rfl rfl
          rw [HV.out, ← HNe.out] at hst
          have HSt := hidP hst
          have hgB := HO.out.base_lt go 0 rfl
          have HXB : Hid (Below B w (w2.drewN q)) := Below.mono HX3.out HB.out
          clear HSame hst hh hol
          go_wp2
          go_ret
          refine ⟨go, m, co, hs, rfl, OwnK.weaken HSt.out (Nat.le_refl _) ?_, Below.setCell (p := ⟨go, k * 2 + 1, none⟩) HXB.out hgB.1 _⟩
          have := HX3.out.size
          simpa [World.setCell] using this
      · rw [hV] at HAb
        have hab := of_decide_eq_true hV
        have HJ2 : Hid (∀ j, j < k + 1 → 0 < lexC (wayAt xs j) W) := by
          intro j hj
          rcases Nat.lt_succ_iff_lt_or_eq.1 hj with h3 | rfl
          · exact HJ.out j h3
          · rw [HV.out]; exact hab
        clear hab hV
        go_wp2_with fail
        refine (HAb.out _ (Ext.refl _)).mono ?_
        rintro e w2 ⟨rfl, hx2⟩
        have HX2 := hidP (HX.out.trans hx2)
        clear hx2 q1 q2
        go_wp2
        go_roundw
        case rel => exact ⟨k + 1, by omega, by go_num, HJ2, HX2⟩
        case measure => simp [intOf]; omega
    · obtain rfl : m = k := by omega
      have HNe : Hid (putT xs W L = xs.take m ++ [(W, L)] ++ xs.drop m) := by
        show _ = _
        rw [put_end (l := xs) (fun j hj => HJ.out j (by omega)), hxl]
      go_wp2
      obtain ⟨wr', hwr'⟩ : ∃ x, x = wr := ⟨_, rfl⟩
      rw [← hwr'] at HX ⊢
      have HX3 := HX
      clear hwr' HX
      have hE : Ext wr' wr'.drew := Ext.drew wr'
      have hk0 : (0 : Int) ≤ (m : Int) := by omega
      have hk1 : (m : Int) ≤ (m : Int) := by omega
      have hk2 : (m : Int) ≤ (co : Int) := by omega
      have hk3 : (m : Int) ≤ (co : Int) := by omega
      have hwsz := HX3.out.size
      have hgo := HO.out.base_lt go 0 rfl
      have hBw := HB.out
      (refine walkR_start (fun w' => Ext wr' w') 14 (by kernel_rfl) ?_; simp only [numbered, List.take_succ_cons, List.take_zero, Nat.zero_add, Nat.reduceAdd, List.length_cons, List.length_nil])
      (refine walkR_later ?_; simp only [List.cons_append, List.nil_append])
      (repeat (first | (refine walkR_still (v := ?_) rfl (by decide +kernel) rfl (fun _ _ _ h => h) hE ?_ ?_; rotate_left; (focus (intro w' hw'; skip; go_simp; all_goals (with_reducible rfl))); simp only [Act.put, List.setIfInBounds_toArray, List.set_cons_zero, List.set_cons_succ]) | (refine walkR_skip rfl (by decide +kernel) rfl (fun _ _ _ h => h) hE ?_; simp only [Act.put, List.setIfInBounds_toArray, List.set_cons_zero, List.set_cons_succ])))
      (refine walkR_later ?_; simp only [List.cons_append, List.nil_append])
      (repeat (first | (refine walkR_still (v := ?_) rfl (by decide +kernel) rfl (fun _ _ _ h => h) hE ?_ ?_; rotate_left; (focus (intro w' hw'; skip; go_simp; all_goals (with_reducible rfl))); simp only [Act.put, List.setIfInBounds_toArray, List.set_cons_zero, List.set_cons_succ]) | (refine walkR_skip rfl (by decide +kernel) rfl (fun _ _ _ h => h) hE ?_; simp only [Act.put, List.setIfInBounds_toArray, List.set_cons_zero, List.set_cons_succ])))
      (refine walkR_later ?_; simp only [List.cons_append, List.nil_append])
      (repeat (first | (refine walkR_still (v := ?_) rfl (by decide +kernel) rfl (fun _ _ _ h => h) hE ?_ ?_; rotate_left; (focus (intro w' hw'; skip; go_simp; all_goals (with_reducible rfl))); simp only [Act.put, List.setIfInBounds_toArray, List.set_cons_zero, List.set_cons_succ]) | (refine walkR_skip rfl (by decide +kernel) rfl (fun _ _ _ h => h) hE ?_; simp only [Act.put, List.setIfInBounds_toArray, List.set_cons_zero, List.set_cons_succ])))
      (refine walkR_later ?_; simp only [List.cons_append, List.nil_append]); (refine walkR_later ?_; simp only [List.cons_append, List.nil_append]); (refine walkR_later ?_; simp only [List.cons_append, List.nil_append])
      (repeat (first | (refine walkR_still (v := ?_) rfl (by decide +kernel) rfl (fun _ _ _ h => h) hE ?_ ?_; rotate_left; (focus (intro w' hw'; skip; go_simp; all_goals (with_reducible rfl))); simp only [Act.put, List.setIfInBounds_toArray, List.set_cons_zero, List.set_cons_succ]) | (refine walkR_skip rfl (by decide +kernel) rfl (fun _ _ _ h => h) hE ?_; simp only [Act.put, List.setIfInBounds_toArray, List.set_cons_zero, List.set_cons_succ])))
      (refine walkR_only (fun w' => Ext wr' w') rfl (by decide +kernel) rfl ?_ ?_)
      · exact fun _ h => h
      intro K hK
      go_simp
      have hE1 := (Ext.alloc wr' (.cells #[] 57)).trans (Ext.drew _)
      have hsz1 : ((wr'.alloc (.cells #[] 57)).drew).heap.size = wr'.heap.size + 1 := by show (wr'.alloc _).heap.size = _; simp
      have HO1 : Hid (OwnK termK (wr'.alloc (.cells #[] 57)).drew B ((wr'.alloc (.cells #[] 57)).drew).heap.size (some ⟨wr'.heap.size, 0, none⟩) 0 0 [] []) := ((OwnK.made0 termK wr').below (Ext.drew _)).weaken (B' := B) (by omega) (Nat.le_refl _)
      have HP1 := hidP (((HO.out.below HX3.out).below hE1).front m (by omega))
      have HQ1 := hidP ((HO.out.below HX3.out).below hE1)
      refine hK _ _ hE1 ?_
      clear hK K hE
      (try simp only [Act.put, List.setIfInBounds_toArray, List.set_cons_zero, List.set_cons_succ])
      obtain ⟨w1, hw1⟩ : ∃ w1, w1 = (wr'.alloc (.cells #[] 57)).drew := ⟨_, rfl⟩
      rw [← hw1] at HO1 HP1 HQ1 hE1 hsz1
      first | rw [← hw1] | skip
      clear hw1
      (refine walkR_only (fun w' => Ext wr' w') rfl (by decide +kernel) rfl ?_ ?_)
      · exact fun _ h => h
      intro K hK
      refine wp_append_part termK 26 (.agg #[.slice none 0 0, .int .i64 0]) 32 (.tmp 48) (.tmp 51) rfl Tryz.underlying26 Tryz.info57 rfl (by omega) B _ wr'.heap.size 0 0 [] (hs.take m) [] (xs.take m) rfl HO1.out go 0 m co rfl HP1.out (fun i j hi => by omega) (by omega) (by omega) ?_
      intro g4 c4 w4 ho4 hg4 hn4
      rw [List.nil_append, List.nil_append, Nat.zero_add] at ho4
      rw [Nat.zero_add]
      have hE4 : Ext wr' w4 := Below.past_block hE1 hg4 (by omega) (Nat.le_refl _)
      have HQ4 := hidP (HQ1.out.past hg4 (fun g o e => by simp only [Option.some.injEq, Addr.mk.injEq] at e; omega) (by omega))
      have HO4 := hidP ho4
      have hg4b : wr'.heap.size ≤ g4 := by omega
      have hsz4 := hg4.size
      refine hK _ _ hE4 ?_
      clear hK K ho4 hg4 hn4 hE1
      (try simp only [Act.put, List.setIfInBounds_toArray, List.set_cons_zero, List.set_cons_succ])
      (refine walkR_only (fun w' => Ext wr' w') rfl (by decide +kernel) rfl (fun _ h => h) ?_; intro K hK; go_simp; refine (HI.out _ (HX3.out.trans hE4)).mono ?_; rintro e w6 ⟨a1, c1, rfl, ho1, hx6⟩; refine hK _ _ (hE4.trans hx6) ?_; clear hK K; (try simp only [Act.put, List.setIfInBounds_toArray, List.set_cons_zero, List.set_cons_succ]))
      have hE6 := hE4.trans hx6
      (repeat (first | (refine walkR_still (v := ?_) rfl (by decide +kernel) rfl (fun _ _ _ h => h) hE6 ?_ ?_; rotate_left; (focus (intro w' hw'; skip; go_simp; all_goals (with_reducible rfl))); simp only [Act.put, List.setIfInBounds_toArray, List.set_cons_zero, List.set_cons_succ]) | (refine walkR_skip rfl (by decide +kernel) rfl (fun _ _ _ h => h) hE6 ?_; simp only [Act.put, List.setIfInBounds_toArray, List.set_cons_zero, List.set_cons_succ])))
      (refine walkR_only (fun w' => Ext wr' w') rfl (by decide +kernel) rfl ?_ ?_)
      · exact fun _ h => h
      intro K hK
      go_simp
      have hxa := Ext.alloc w6 (.cells #[.slice a1 W.length c1, .int .i64 L] 57)
      have hE7 := hE6.trans hxa
      have HO7 := hidP (HO4.out.below (hx6.trans hxa))
      have HQ7 := hidP (HQ4.out.below (hx6.trans hxa))
      have HI7 := hidP ((ho1.below hxa).base (B' := B) (by omega))
      have HA1 : Hid (∀ b o, a1 = some ⟨b, o, none⟩ → w4.heap.size ≤ b) := fun b o e => (ho1.at_base b o e).1
      have HP7 : Hid (PartK termK (w6.alloc (.cells #[.slice a1 W.length c1, .int .i64 L] 57)) B w6.heap.size 0 1 [(a1, c1)] [(W, L)]) := PartK.single (fun j _ => (cell_top _ _ _ _ _ rfl).trans (by simp [termK])) HI7.out
      have hsz7 := (hx6.trans hxa).size
      refine hK _ _ hE7 ?_
      clear hK K ho1 hx6 hE4 hE6 hxa
      (try simp only [Act.put, List.setIfInBounds_toArray, List.set_cons_zero, List.set_cons_succ])
      obtain ⟨w7, hw7⟩ : ∃ w7, w7 = w6.alloc (.cells #[.slice a1 W.length c1, .int .i64 L] 57) := ⟨_, rfl⟩
      rw [← hw7] at HO7 HQ7 HI7 HP7 hsz7 hE7
      first | rw [← hw7] | skip
      clear hw7
      (refine walkR_only (fun w' => Ext wr' w') rfl (by decide +kernel) rfl ?_ ?_)
      · exact fun _ h => h
      intro K hK
      refine wp_append_part termK 26 (.agg #[.slice none 0 0, .int .i64 0]) 32 (.tmp 52) (.tmp 57) rfl Tryz.underlying26 Tryz.info57 rfl (by omega) B _ g4 m c4 (hs.take m) [(a1, c1)] (xs.take m) [(W, L)] rfl HO7.out w6.heap.size 0 1 1 rfl HP7.out (fun i j hi hj b o b' o' e e' => by
        obtain rfl : j = 0 := by omega
        have h1 := HA1.out b' o' e'
        have h2 := HQ7.out.lt i (by omega) b o (by rw [← e]; simp [List.getD_eq_getElem?_getD, hi])
        omega) (by omega) (by omega) ?_
      intro g10 c10 w10 ho10 hg10 hn10
      have hE10 : Ext wr' w10 := Below.past_block hE7 hg10 hE7.size hg4b
      have HQ10 := hidP (HQ7.out.past hg10 (fun g o e => by simp only [Option.some.injEq, Addr.mk.injEq] at e; omega) (by omega))
      have HO10 := hidP ho10
      have hg10b : wr'.heap.size ≤ g10 := by have := hE7.size; omega
      have HP10 := hidP (HQ10.out.part m (by omega))
      refine hK _ _ hE10 ?_
      clear hK K ho10 hg10 hn10 hE7
      (try simp only [Act.put, List.setIfInBounds_toArray, List.set_cons_zero, List.set_cons_succ])
      (refine walkR_tail (by rfl) (by kernel_rfl) ?_; simp only [List.drop_succ_cons, List.drop_zero])
      have hx61 : (if co = m then some (⟨go, 0, none⟩ : Addr) else some ⟨go, m * 2, none⟩) = some ⟨go, if co = m then 0 else m * 2, none⟩ := by split <;> rfl
      have HP61 := hidP (HP10.out.moved (o' := if co = m then 0 else m * 2) (by
        by_cases hck : co = m
        · right; omega
        · left; rw [if_neg hck]; rfl))
      rw [hx61]
      clear hx61
      refine wpList_append_part termK 26 (.agg #[.slice none 0 0, .int .i64 0]) 32 rfl (.tmp 58) (.tmp 61) rfl Tryz.underlying26 Tryz.info57 rfl (by omega) B _ g10 (m + 1) c10 _ (hs.drop m) _ (xs.drop m) rfl HO10.out go _ (m - m) (co - m) (by first | rfl | (rw [Nat.sub_self]; rfl)) HP61.out ?_ (by omega) (by have := hE10.size; omega) ?_
      · intro i j hi hj b o b' o' e e'
        have hhl10 := HQ10.out.hl
        have e2 : (hs.getD (m + j) (none, 0)).1 = some ⟨b', o', none⟩ := by rw [← e']; simp [List.getD_eq_getElem?_getD, List.getElem?_drop]
        by_cases hi2 : i < m
        · have e1 : (hs.getD i (none, 0)).1 = some ⟨b, o, none⟩ := by
            rw [← e, getD_left _ _ _ _ (by simp; omega)]
            simp [List.getD_eq_getElem?_getD, hi2]
          exact HQ10.out.apart i (m + j) (by omega) (by omega) (by omega) b o b' o' e1 e2
        · have e1 : a1 = some ⟨b, o, none⟩ := by
            rw [← e, getD_right _ _ _ _ (by simp; omega)]
            have : i - (hs.take m).length = 0 := by simp; omega
            rw [this]
            rfl
          have h1 := HA1.out b o e1
          have h2 := HQ10.out.lt (m + j) (by omega) b' o' e2
          omega
      intro g14 c14 w14 ho14 hg14 hn14
      have hE14 : Ext wr' w14 := Below.past_block hE10 hg14 hE10.size hg10b
      have hX14 : Ext w w14 := HX3.out.trans hE14
      have hn14 : m + 1 + (m - m) = m + 1 := by omega
      rw [hn14] at ho14 ⊢
      rw [← HNe.out] at ho14
      have HO14 := hidP ho14
      have HB14 : Hid (Below B w w14) := Below.mono hX14 HB.out
      clear ho14 hg14 hE10 hE14 hX14
      go_wp2
      all_goals go_ret
      all_goals first | exact ⟨g14, m + 1, c14, _, rfl, HO14.out, HB14.out⟩ | exact ⟨g14, m + 1, c14, rfl, ⟨_, HO14.out⟩, HB14.out⟩
end Go.Proofs.YtdhlapppahkjeaaGreatDoor

namespace Go.Proofs.YtdhlapppahkjeaaGreatDoor
open Go.RowKit

end Go.Proofs.YtdhlapppahkjeaaGreatDoor

namespace Go.Proofs.YtdhlapppahkjeaaGreatDoor
open Go.RowKit

theorem mem_put2 {l : List Tm} {w : List Int} {n : Int} {p : Tm} (h : p ∈ putT l w n) : p ∈ l ∨ p = (w, n) ∨ ∃ t ∈ l, p = (w, t.2 + n) := by
  induction l with
  | nil =>
    simp only [putT, List.mem_singleton] at h
    exact .inr (.inl h)
  | cons t l ih =>
    unfold putT at h
    split at h
    · rcases List.mem_cons.1 h with rfl | h
      · exact .inl (by simp)
      · rcases ih h with h | h | ⟨t', ht', h⟩
        · exact .inl (by simp [h])
        · exact .inr (.inl h)
        · exact .inr (.inr ⟨t', by simp [ht'], h⟩)
    · split at h
      · rcases List.mem_cons.1 h with rfl | h
        · exact .inr (.inr ⟨t, by simp, rfl⟩)
        · exact .inl (by simp [h])
      · rcases List.mem_cons.1 h with rfl | h
        · exact .inr (.inl rfl)
        · exact .inl h
theorem puts_pos : ∀ (b : List Tm) {o : List Tm}, (∀ p ∈ o, 0 < p.2) → (∀ p ∈ b, 0 < p.2) → ∀ p ∈ putsT o 1 b, 0 < p.2
  | [], _, ho, _, p, hp => ho p hp
  | t :: b, o, ho, hb, p, hp => by
    refine puts_pos b (o := putT o t.1 (1 * t.2)) (fun q hq => ?_) (fun q hq => hb q (by simp [hq])) p hp
    have ht := hb t (by simp)
    rcases mem_put2 hq with h | h | ⟨t', ht', h⟩
    · exact ho q h
    · rw [h]; show 0 < 1 * t.2; omega
    · rw [h]; have := ho t' ht'; show 0 < t'.2 + 1 * t.2; omega
end Go.Proofs.YtdhlapppahkjeaaGreatDoor

namespace Go.Proofs.YtdhlapppahkjeaaGreatDoor
open Go.RowKit

end Go.Proofs.YtdhlapppahkjeaaGreatDoor

namespace Go.Proofs.YtdhlapppahkjeaaGreatDoor
open Go.RowKit

end Go.Proofs.YtdhlapppahkjeaaGreatDoor

set_option linter.unusedVariables false
set_option linter.unusedSimpArgs false
namespace Go.Proofs.YtdhlapppahkjeaaGreatDoor
open Go.RowKit

/-- a path in memory: its blocks lie from lo on and under hi -/
structure PEl where
  lo : Nat
  hi : Nat
  at_ : Option Addr
  cap : Nat
  hs : List Hdr
  q : List Stp
def PEl.val (e : PEl) : Value := .slice e.at_ e.q.length e.cap
def pvs (ps : List PEl) : List Value := ps.map PEl.val
theorem pvs_length (ps : List PEl) : (pvs ps).length = ps.length := by simp [pvs]
structure PEl.Ok (w : World) (B : Nat) (e : PEl) : Prop where
  own : OwnK stepK w e.lo e.hi e.at_ e.q.length e.cap e.hs e.q
  base : B ≤ e.lo
  le : e.lo ≤ e.hi
  top : e.hi ≤ w.heap.size
structure OwnPs (w : World) (B : Nat) (a : Option Addr) (n c : Nat) (ps : List PEl) : Prop where
  row : w.ownsRow B 45 1 (.slice a n c) n (pvs ps)
  nn : a ≠ none
  each : ∀ e ∈ ps, e.Ok w B
  sep : ps.Pairwise (fun e f => e.hi ≤ f.lo)
  far : ∀ e ∈ ps, ∀ b o, a = some ⟨b, o, none⟩ → b < e.lo ∨ e.hi ≤ b
section
variable {w w' : World} {B n c : Nat} {a : Option Addr} {ps : List PEl}
theorem OwnPs.len (h : OwnPs w B a n c ps) : ps.length = n := by
  have := h.row.1
  simpa [pvs_length] using this
theorem OwnPs.form (h : OwnPs w B a n c ps) : ∃ g, a = some ⟨g, 0, none⟩ ∧ B ≤ g ∧ g < w.heap.size ∧ n ≤ c ∧ c ≤ maxLen := by
  rcases h.row.2 with ⟨he, h0⟩ | ⟨g, cap, cur, he, hB, hg, hnc, hcm, hcs, ht⟩
  · simp only [Value.slice.injEq] at he
    exact absurd he.1 h.nn
  · simp only [Value.slice.injEq, true_and] at he
    obtain ⟨rfl, rfl⟩ := he
    exact ⟨g, rfl, hB, (Array.getElem?_eq_some_iff.1 hg).1, hnc, hcm⟩
theorem OwnPs.cell (h : OwnPs w B a n c ps) {k : Nat} (hk : k < n) {g : Nat} (e : a = some ⟨g, 0, none⟩) : ∃ (hk2 : k < ps.length), w.cell? ⟨g, k, none⟩ = some (ps[k].val) := by
  subst e
  have hk2 : k < ps.length := by have := h.len; omega
  refine ⟨hk2, ?_⟩
  have h3 := h.row.cellAt k (by omega)
  rw [h3]
  simp [pvs, hk2]
/-- whatever leaves the list's own blocks alone, keeps it -/
theorem OwnPs.kept (h : OwnPs w B a n c ps) {row : Option Nat} (hg : w.grownBy w' row) (hr : ∀ b, row = some b → (∀ o, a ≠ some ⟨b, o, none⟩) ∧ ∀ e ∈ ps, b < e.lo ∨ e.hi ≤ b) : OwnPs w' B a n c ps := by
  obtain ⟨g, rfl, _⟩ := h.form
  refine ⟨h.row.kept hg (.inr fun e => ?_), h.nn, fun e he => ?_, h.sep, h.far⟩
  · exact (hr g e.symm).1 0 rfl
  · obtain ⟨h1, h2, h3, h4⟩ := h.each e he
    have key : ∀ b, e.lo ≤ b → b < e.hi → some b ≠ row := fun b h5 h6 h7 => by
      have := (hr b h7.symm).2 e he
      omega
    exact ⟨h1.kept hg (fun b o e1 => key b (h1.base_lt b o e1).1 (h1.olt b o e1)) (fun i hi b o e1 => key b ((h1.each i hi).at_base b o e1).1 (h1.lt i hi b o e1)), h2, h3, Nat.le_trans h4 hg.size⟩
theorem OwnPs.below (h : OwnPs w B a n c ps) (hb : Ext w w') : OwnPs w' B a n c ps :=
  h.kept (row := none) ⟨hb.os, hb.tape, hb.output, hb.size, fun k hk _ => hb.block k hk⟩ (by simp)
/-- the list grows: a path behind the others -/
theorem OwnPs.snoc_of (h : OwnPs w B a n c ps) {v' : Value} {e : PEl} (hr : w'.ownsRow B 45 1 v' (n + 1) (pvs ps ++ [e.val])) (hg : w.grownBy w' (Value.slice a n c).ownBlock)
    (he : e.Ok w B) (hs : ∀ f ∈ ps, f.hi ≤ e.lo) (hf : ∀ b o, a = some ⟨b, o, none⟩ → b < e.lo ∨ e.hi ≤ b) (hn : ∀ g m k, v' = .slice (some ⟨g, 0, none⟩) m k → a = some ⟨g, 0, none⟩ ∨ w.heap.size ≤ g) :
    ∃ a' c', v' = .slice a' (n + 1) c' ∧ OwnPs w' B a' (n + 1) c' (ps ++ [e]) := by
  obtain ⟨g0, rfl, _⟩ := h.form
  rcases hr.2 with ⟨_, h0⟩ | ⟨g', cap, cur, rfl, hB', hgb, hnc, _⟩
  · omega
  have hev : ∀ f ∈ ps ++ [e], f.Ok w B := fun f hf => by
    rcases List.mem_append.1 hf with h1 | h1
    · exact h.each f h1
    · simp only [List.mem_singleton] at h1
      subst h1; exact he
  have hfa : ∀ f ∈ ps ++ [e], g0 < f.lo ∨ f.hi ≤ g0 := fun f hf2 => by
    rcases List.mem_append.1 hf2 with h1 | h1
    · exact h.far f h1 g0 0 rfl
    · simp only [List.mem_singleton] at h1
      subst h1; exact hf g0 0 rfl
  refine ⟨_, _, rfl, ?_, by simp, fun f hf1 => ?_, ?_, fun f hf1 b o e1 => ?_⟩
  · rw [show pvs (ps ++ [e]) = pvs ps ++ [e.val] by simp [pvs]]
    exact hr
  · obtain ⟨h1, h2, h3, h4⟩ := hev f hf1
    have key : ∀ b, f.lo ≤ b → b < f.hi → some b ≠ (Value.slice (some (⟨g0, 0, none⟩ : Addr)) n c).ownBlock := fun b h5 h6 h7 => by
      simp only [Value.ownBlock, Option.some.injEq] at h7
      have := hfa f hf1
      omega
    exact ⟨h1.kept hg (fun b o e1 => key b (h1.base_lt b o e1).1 (h1.olt b o e1)) (fun i hi b o e1 => key b ((h1.each i hi).at_base b o e1).1 (h1.lt i hi b o e1)), h2, h3, Nat.le_trans h4 hg.size⟩
  · rw [List.pairwise_append]
    exact ⟨h.sep, List.pairwise_singleton _ _, fun x hx y hy => by simp only [List.mem_singleton] at hy; subst hy; exact hs x hx⟩
  · simp only [Option.some.injEq, Addr.mk.injEq, and_true] at e1
    obtain ⟨rfl, _⟩ := e1
    rcases hn _ _ _ rfl with h5 | h5
    · simp only [Option.some.injEq, Addr.mk.injEq, and_true] at h5
      rw [← h5]
      exact hfa f hf1
    · exact .inr (Nat.le_trans (hev f hf1).top h5)
end
theorem Tryz.infoSteps : (Tryz.prog.info? 45).map (fun i => (i.zero, i.size, i.bytes)) = some (some (.slice none 0 0), 1, 24) := by kernel_rfl
/-- append of one path to an owned list of paths -/
theorem wpList_append_path {ops : Array Oper} {rest : List Oper} {o : Oper} {av : Act} {Q : Exit → Act → World → Prop} {w : World} (hgd : o.guard = none) (s x : Operand)
    (ho : o.op = .call { callee := .builtin .append, args := #[s, x], argTypes := #[41, 41] }) (B : Nat) (a : Option Addr) (n c : Nat) (ps : List PEl) (hsv : av.eval s = .slice a n c) (hown : OwnPs w B a n c ps)
    (g m : Nat) (e : PEl) (hx : av.eval x = .slice (some ⟨g, 0, none⟩) 1 m) (hy : w.cell? ⟨g, 0, none⟩ = some e.val) (he : e.Ok w B) (hs : ∀ f ∈ ps, f.hi ≤ e.lo) (hf : ∀ b o, a = some ⟨b, o, none⟩ → b < e.lo ∨ e.hi ≤ b) (hsm : n ≤ 1000000000) (hB : B ≤ w.heap.size)
    (h : ∀ a' c' w', OwnPs w' B a' (n + 1) c' (ps ++ [e]) → w.grownBy w' (Value.slice a n c).ownBlock → OrNew w.heap.size a a' → wpList Tryz.prog ops Q rest (av.put o.dst (.slice a' (n + 1) c')) w') : wpList Tryz.prog ops Q (o :: rest) av w := by
  obtain ⟨i, hi, hz0, hz1, hz2⟩ := info_parts Tryz.infoSteps
  have hcells : ∀ j u, [e.val][j]? = some u → w.cell? ((⟨g, 0, none⟩ : Addr).add j) = some u := by
    intro j u hu
    cases j with
    | zero =>
      simp only [List.getElem?_cons_zero, Option.some.injEq] at hu
      subst hu
      rw [add_none]
      exact hy
    | succ j => simp at hu
  have hone : ∀ u ∈ [e.val], u.oneCell' = true := fun u hu => by simp only [List.mem_singleton] at hu; subst hu; rfl
  obtain ⟨g0, rfl, _, hgl, hnc, hcm⟩ := hown.form
  by_cases hroom : n + 1 ≤ c
  · refine wpList_append_fits w hgd s x 41 ho B 45 i 1 Tryz.underlying41 hi hz1 g0 n c (pvs ps) hsv hown.row ⟨g, 0, none⟩ 1 m [e.val] hx rfl hcells hone hroom ?_
    intro w' hr hg
    obtain ⟨a', c', e2, hk⟩ := hown.snoc_of hr hg he hs hf (fun g1 m1 k1 e3 => by cases e3; exact .inl rfl)
    simp only [Value.slice.injEq] at e2
    obtain ⟨rfl, _, rfl⟩ := e2
    exact h _ _ w' hk hg (.inl rfl)
  · have hlx := hown.row.1
    refine wpList_append_grows w hgd s x 41 ho 45 i (.slice none 0 0) 1 24 Tryz.underlying41 hi hz0 hz1 hz2 rfl (by decide) (some ⟨g0, 0, none⟩) n c (pvs ps) hsv (fun e => by cases e) hlx ?_ ⟨g, 0, none⟩ 1 m [e.val] hx rfl hcells hone (by omega) (by unfold maxLen; omega) (by omega) ?_
    · intro b e1 j u hu
      simp only [Option.some.injEq] at e1
      subst e1
      have hj : j < n * 1 := by have := (List.getElem?_eq_some_iff.1 hu).1; rwa [hlx] at this
      rw [add_none, Nat.zero_add, hown.row.cellAt j hj]
      exact hu
    · intro v' w' hr hg0
      have hg : w.grownBy w' (Value.slice (some (⟨g0, 0, none⟩ : Addr)) n c).ownBlock := ⟨hg0.os, hg0.tape, hg0.output, hg0.size, fun k hk _ => hg0.block k hk (by simp)⟩
      have hnew : ∀ g1 m1 k1, v' = .slice (some ⟨g1, 0, none⟩) m1 k1 → w.heap.size ≤ g1 := fun g1 m1 k1 e1 => by
        rcases hr.2 with ⟨_, h0⟩ | ⟨g', cap, cur, he, hB', _⟩
        · omega
        · rw [e1] at he
          simp only [Value.slice.injEq, Option.some.injEq, Addr.mk.injEq, and_true] at he
          rw [he.1]; exact hB'
      have hr2 : w'.ownsRow B 45 1 v' (n + 1) (pvs ps ++ [e.val]) := by
        refine ⟨hr.1, ?_⟩
        rcases hr.2 with h2 | ⟨g', cap, cur, he, hB', r⟩
        · exact .inl h2
        · exact .inr ⟨g', cap, cur, he, Nat.le_trans hB hB', r⟩
      obtain ⟨a', c', rfl, hk⟩ := hown.snoc_of hr2 hg he hs hf (fun g1 m1 k1 e1 => .inr (hnew g1 m1 k1 e1))
      refine h a' c' w' hk hg (.inr fun b o e1 => ?_)
      obtain ⟨g2, rfl, _⟩ := hk.form
      simp only [Option.some.injEq, Addr.mk.injEq, and_true] at e1
      rw [← e1.1]
      exact hnew _ _ _ rfl
end Go.Proofs.YtdhlapppahkjeaaGreatDoor

set_option linter.unusedVariables false
set_option linter.unusedSimpArgs false
namespace Go.Proofs.YtdhlapppahkjeaaGreatDoor
open Go.RowKit

theorem l1SameX_any (a1 a2 : Option Addr) (n1 n2 c1 c2 : Nat) (xs ys : List Int) (w : World) (h1 : IntsAt w a1 n1 xs) (h2 : IntsAt w a2 n2 ys) (hm1 : n1 ≤ 9223372036854775807) (hm2 : n2 ≤ 9223372036854775807) :
    Calls Tryz.prog 48 #[.slice a1 n1 c1, .slice a2 n2 c2] w fun e w' => e = .returned (.bool (xs == ys)) ∧ Ext w w' :=
  (l1Same_any a1 a2 n1 n2 c1 c2 xs ys w h1 h2 hm1 hm2).mono fun _ _ ⟨he, m, hw⟩ => ⟨he, by rw [hw]; exact Ext.drewN w m⟩
set_option maxRecDepth 100000 in
set_option maxHeartbeats 4000000 in
theorem l9Same_any (a a' : Option Addr) (n n' c c' : Nat) (p q : List Stp) (w : World) (h : StepsAt w a n p) (h' : StepsAt w a' n' q) (hn : n ≤ 1000000) (hn' : n' ≤ 1000000) :
    Calls Tryz.prog 98 #[.slice a n c, .slice a' n' c'] w fun e w' => e = .returned (.bool (p == q)) ∧ Ext w w' := by
  have HP := hidP h
  have HQ := hidP h'
  have HL := hidP h.len
  have HL' := hidP h'.len
  clear h h'
  by_cases hne : n = n'
  · subst hne
    go_enter Tryz.func98, Tryz.ntmps98
    go_wp2
    go_loopw [5] (fun i wr => ∃ k : Nat, k ≤ n ∧ i = .int .i64 k ∧ Hid (∀ j, j < k → wayAt p j = wayAt q j ∧ lenAt p j = lenAt q j) ∧ Hid (Ext w wr)) (fun i _ => n - (intOf i).toNat)
    case atStart => exact ⟨0, Nat.zero_le _, rfl, fun j h => by omega, Ext.refl _⟩
    case round =>
      obtain ⟨k, hk, rfl, HJ, HX⟩ := hrel
      by_cases hlt : k < n
      · obtain ⟨b, o, aV, cV, V, L, rfl, HV, HLn, hvl, _, hq⟩ := (HP.out.below HX.out).way k hlt
        obtain ⟨b2, o2, aU, cU, U, M, rfl, HU, HM, hul, _, hq2⟩ := (HQ.out.below HX.out).way k hlt
        have HF : Hid (∀ w', Ext wr w' → w'.cell? ⟨b, o + k * 2, none⟩ = some (.slice aV V.length cV) ∧ w'.cell? ⟨b, o + k * 2 + 1, none⟩ = some (.int .i64 L) ∧ w'.cell? ⟨b2, o2 + k * 2, none⟩ = some (.slice aU U.length cU) ∧ w'.cell? ⟨b2, o2 + k * 2 + 1, none⟩ = some (.int .i64 M)) := fun w' hx =>
          ⟨(hq w' hx).1, (hq w' hx).2.1, (hq2 w' hx).1, (hq2 w' hx).2.1⟩
        have HIn := hidP (fun w' (hx : Ext wr w') => l1SameX_any aV aU V.length U.length cV cU V U w' (hq w' hx).2.2 (hq2 w' hx).2.2 hvl hul)
        have hk0 : (0 : Int) ≤ (k : Int) := by omega
        have hk1 : (k : Int) < (n : Int) := by omega
        have hE : Ext wr wr.drew := Ext.drew wr
        clear hq hq2
        by_cases hlm : L = M
        · have hb : (L != M) = false := by simpa using hlm
          cases hvu : (V == U)
          · rw [hvu] at HIn
            have HB : Hid ((p == q) = false) := by
              show _ = _
              rw [beq_eq_false_iff_ne]
              rintro rfl
              have : V = U := by rw [← HV.out, ← HU.out]
              rw [this] at hvu
              simp at hvu
            clear hlm hvu
            go_wp2
            (refine walkR_start (fun w' => Ext wr w') 24 (by kernel_rfl) ?_; simp only [numbered, List.take_succ_cons, List.take_zero, Nat.zero_add, Nat.reduceAdd, List.length_cons, List.length_nil])
            (repeat (first | (refine walkR_still (v := ?_) rfl (by decide +kernel) rfl (fun _ _ _ h => h) hE ?_ ?_; rotate_left; (focus (intro w' hw'; obtain ⟨q1, q2, q3, q4⟩ := HF.out w' hw'; go_simp; all_goals (with_reducible rfl))); simp only [Act.put, List.setIfInBounds_toArray, List.set_cons_zero, List.set_cons_succ]) | (refine walkR_skip rfl (by decide +kernel) rfl (fun _ _ _ h => h) hE ?_; simp only [Act.put, List.setIfInBounds_toArray, List.set_cons_zero, List.set_cons_succ])))
            (refine walkR_only (fun w' => Ext wr w') rfl (by decide +kernel) rfl (fun _ h => h) ?_; intro K hK; go_simp; refine (HIn.out _ hE).mono ?_; rintro e w3 ⟨rfl, hx3⟩; refine hK _ _ (hE.trans hx3) ?_; clear hK K; (try simp only [Act.put, List.setIfInBounds_toArray, List.set_cons_zero, List.set_cons_succ]))
            have hE3 := hE.trans hx3
            clear hx3
            (repeat (first | (refine walkR_still (v := ?_) rfl (by decide +kernel) rfl (fun _ _ _ h => h) hE3 ?_ ?_; rotate_left; (focus (intro w' hw'; skip; go_simp; all_goals (with_reducible rfl))); simp only [Act.put, List.setIfInBounds_toArray, List.set_cons_zero, List.set_cons_succ]) | (refine walkR_skip rfl (by decide +kernel) rfl (fun _ _ _ h => h) hE3 ?_; simp only [Act.put, List.setIfInBounds_toArray, List.set_cons_zero, List.set_cons_succ])))
            (refine walkR_tail (by rfl) (by kernel_rfl) ?_; simp only [List.drop_succ_cons, List.drop_zero])
            have HX3 := hidP (HX.out.trans hE3)
            clear hE3 hE
            go_wp2
            go_ret
            exact ⟨ret_bool HB.out.symm, HX3.out⟩
          · rw [hvu] at HIn
            have HJ' : Hid (∀ j, j < k + 1 → wayAt p j = wayAt q j ∧ lenAt p j = lenAt q j) := by
              intro j hj
              rcases Nat.lt_succ_iff_lt_or_eq.1 hj with h3 | rfl
              · exact HJ.out j h3
              · exact ⟨by rw [HV.out, HU.out]; simpa using hvu, by rw [HLn.out, HM.out]; exact hlm⟩
            clear hlm hvu
            go_wp2
            (refine walkR_start (fun w' => Ext wr w') 24 (by kernel_rfl) ?_; simp only [numbered, List.take_succ_cons, List.take_zero, Nat.zero_add, Nat.reduceAdd, List.length_cons, List.length_nil])
            (repeat (first | (refine walkR_still (v := ?_) rfl (by decide +kernel) rfl (fun _ _ _ h => h) hE ?_ ?_; rotate_left; (focus (intro w' hw'; obtain ⟨q1, q2, q3, q4⟩ := HF.out w' hw'; go_simp; all_goals (with_reducible rfl))); simp only [Act.put, List.setIfInBounds_toArray, List.set_cons_zero, List.set_cons_succ]) | (refine walkR_skip rfl (by decide +kernel) rfl (fun _ _ _ h => h) hE ?_; simp only [Act.put, List.setIfInBounds_toArray, List.set_cons_zero, List.set_cons_succ])))
            (refine walkR_only (fun w' => Ext wr w') rfl (by decide +kernel) rfl (fun _ h => h) ?_; intro K hK; go_simp; refine (HIn.out _ hE).mono ?_; rintro e w3 ⟨rfl, hx3⟩; refine hK _ _ (hE.trans hx3) ?_; clear hK K; (try simp only [Act.put, List.setIfInBounds_toArray, List.set_cons_zero, List.set_cons_succ]))
            have hE3 := hE.trans hx3
            clear hx3
            (repeat (first | (refine walkR_still (v := ?_) rfl (by decide +kernel) rfl (fun _ _ _ h => h) hE3 ?_ ?_; rotate_left; (focus (intro w' hw'; skip; go_simp; all_goals (with_reducible rfl))); simp only [Act.put, List.setIfInBounds_toArray, List.set_cons_zero, List.set_cons_succ]) | (refine walkR_skip rfl (by decide +kernel) rfl (fun _ _ _ h => h) hE3 ?_; simp only [Act.put, List.setIfInBounds_toArray, List.set_cons_zero, List.set_cons_succ])))
            (refine walkR_tail (by rfl) (by kernel_rfl) ?_; simp only [List.drop_succ_cons, List.drop_zero])
            have HX3 := hidP (HX.out.trans hE3)
            clear hE3 hE
            go_wp2
            go_roundw
            case rel => exact ⟨k + 1, by omega, by go_num, HJ', HX3⟩
            case measure => simp [intOf]; omega
        · have hb : (L != M) = true := by simpa using hlm
          have HB : Hid ((p == q) = false) := by
            show _ = _
            rw [beq_eq_false_iff_ne]
            rintro rfl
            exact hlm (by rw [← HLn.out, ← HM.out])
          clear hlm
          go_wp2
          (refine walkR_start (fun w' => Ext wr w') 24 (by kernel_rfl) ?_; simp only [numbered, List.take_succ_cons, List.take_zero, Nat.zero_add, Nat.reduceAdd, List.length_cons, List.length_nil])
          (repeat (first | (refine walkR_still (v := ?_) rfl (by decide +kernel) rfl (fun _ _ _ h => h) hE ?_ ?_; rotate_left; (focus (intro w' hw'; obtain ⟨q1, q2, q3, q4⟩ := HF.out w' hw'; go_simp; all_goals (with_reducible rfl))); simp only [Act.put, List.setIfInBounds_toArray, List.set_cons_zero, List.set_cons_succ]) | (refine walkR_skip rfl (by decide +kernel) rfl (fun _ _ _ h => h) hE ?_; simp only [Act.put, List.setIfInBounds_toArray, List.set_cons_zero, List.set_cons_succ])))
          (refine walkR_tail (by rfl) (by kernel_rfl) ?_; simp only [List.drop_succ_cons, List.drop_zero])
          have HX3 := hidP (HX.out.trans hE)
          clear hE
          go_wp2
          go_ret
          exact ⟨ret_bool HB.out.symm, HX3.out⟩
      · have HB : Hid ((p == q) = true) := by
          show _ = _
          rw [beq_iff_eq]
          apply List.ext_getElem
          · rw [HL.out, HL'.out]
          · intro j h1 h2
            have := HJ.out j (by have := HL.out; omega)
            simp only [wayAt, lenAt, List.getD_eq_getElem?_getD, List.getElem?_eq_getElem h1, List.getElem?_eq_getElem h2, Option.getD_some] at this
            exact Prod.ext this.1 this.2
        go_wp2
        go_ret
        exact ⟨ret_bool HB.out.symm, HX.out⟩
  · have HB : Hid ((p == q) = false) := by
      show _ = _
      rw [beq_eq_false_iff_ne]
      exact fun e => hne (by rw [← HL.out, ← HL'.out, e])
    have hb : (((n : Nat) : Int) != (n' : Nat)) = true := bne_iff_ne.2 (by omega)
    clear hne
    go_enter Tryz.func98, Tryz.ntmps98
    go_wp2
    go_ret
    exact ⟨ret_bool HB.out.symm, Ext.refl _⟩
/-- a list of paths, read -/
structure PathsAt (w : World) (a : Option Addr) (n : Nat) (ps : List (List Stp)) : Prop where
  len : ps.length = n
  get : ∀ k, k < n → ∃ b o a' c', a = some ⟨b, o, none⟩ ∧ (∀ w', Ext w w' → w'.cell? ⟨b, o + k, none⟩ = some (.slice a' (ps.getD k []).length c') ∧ StepsAt w' a' (ps.getD k []).length (ps.getD k [])) ∧ (ps.getD k []).length ≤ c' ∧ c' ≤ 9223372036854775807
theorem PathsAt.below {w w' : World} {a : Option Addr} {n : Nat} {ps : List (List Stp)} (h : PathsAt w a n ps) (hx : Ext w w') : PathsAt w' a n ps :=
  ⟨h.len, fun k hk => by
    obtain ⟨b, o, a', c', h1, h2, h3, h4⟩ := h.get k hk
    exact ⟨b, o, a', c', h1, fun w'' hx' => h2 w'' (hx.trans hx'), h3, h4⟩⟩
theorem OwnPs.at_ {w : World} {B n c : Nat} {a : Option Addr} {ps : List PEl} (h : OwnPs w B a n c ps) : PathsAt w a n (ps.map PEl.q) := by
  obtain ⟨g, rfl, _⟩ := h.form
  refine ⟨by rw [List.length_map]; exact h.len, fun k hk => ?_⟩
  obtain ⟨hk2, hc⟩ := h.cell hk rfl
  have he := h.each ps[k] (List.getElem_mem _)
  have e : (ps.map PEl.q).getD k [] = ps[k].q := by simp [List.getD_eq_getElem?_getD, hk2]
  rw [e]
  refine ⟨g, 0, ps[k].at_, ps[k].cap, rfl, fun w' hx => ⟨?_, (he.own.below hx).stepsAt⟩, he.own.room.1, he.own.room.2⟩
  rw [Nat.zero_add]
  exact (hx.cell (World.block_lt_of_cell? w _ hc)).trans hc
set_option maxHeartbeats 2000000 in
theorem l9Has_any (a a' : Option Addr) (n n' c c' : Nat) (ps : List (List Stp)) (q : List Stp) (w : World) (h : PathsAt w a n ps) (h' : StepsAt w a' n' q) (hn : n ≤ 1000000) (hn' : n' ≤ 1000000) (hq : ∀ p ∈ ps, p.length ≤ 1000000) :
    Calls Tryz.prog 75 #[.slice a n c, .slice a' n' c'] w fun e w' => e = .returned (.bool (ps.contains q)) ∧ Ext w w' := by
  have HP := hidP h
  have HQ := hidP h'
  have HL := hidP h.len
  have HB := hidP hq
  clear h h' hq
  go_enter Tryz.func75, Tryz.ntmps75
  go_wp2
  go_loopw [5] (fun i wr => ∃ k : Nat, k ≤ n ∧ i = .int .i64 k ∧ Hid (∀ j, j < k → ps.getD j [] ≠ q) ∧ Hid (Ext w wr)) (fun i _ => n - (intOf i).toNat)
  case atStart => exact ⟨0, Nat.zero_le _, rfl, fun j h => by omega, Ext.refl _⟩
  case round =>
    obtain ⟨k, hk, rfl, HJ, HX⟩ := hrel
    by_cases hlt : k < n
    · obtain ⟨b, o, a2, c2, rfl, hg, _⟩ := (HP.out.below HX.out).get k hlt
      obtain ⟨q1, hs⟩ := hg wr (Ext.refl _)
      have hm : ps.getD k [] ∈ ps := by
        have hk2 : k < ps.length := by have := HL.out; omega
        rw [List.getD_eq_getElem?_getD, List.getElem?_eq_getElem hk2]
        exact List.getElem_mem _
      have HM := hidP hm
      have HS := hidP (l9Same_any a2 a' _ n' c2 c' (ps.getD k []) q wr hs (HQ.out.below HX.out) (HB.out _ hm) hn')
      clear hg hs hm
      obtain ⟨pk, hpk⟩ : ∃ pk, pk = ps.getD k [] := ⟨_, rfl⟩
      rw [← hpk] at q1 HM HS
      have HPk := hidP hpk
      clear hpk
      cases hc : (pk == q)
      · rw [hc] at HS
        go_wp2_with fail
        refine HS.out.mono ?_
        rintro e w2 ⟨rfl, hx2⟩
        have HX2 := hidP (HX.out.trans hx2)
        have HJ2 : Hid (∀ j, j < k + 1 → ps.getD j [] ≠ q) := by
          show ∀ j, _
          intro j hj
          rcases Nat.lt_succ_iff_lt_or_eq.1 hj with h3 | rfl
          · exact HJ.out j h3
          · rw [← HPk.out]
            simpa using hc
        clear hx2 hc
        go_wp2
        go_roundw
        case rel => exact ⟨k + 1, by omega, by go_num, HJ2, HX2⟩
        case measure => simp [intOf]; omega
      · rw [hc] at HS
        have HR : Hid (ps.contains q = true) := by
          show _ = _
          rw [List.contains_iff_mem]
          have : pk = q := by simpa using hc
          rw [← this]
          exact HM.out
        clear hc
        go_wp2_with fail
        refine HS.out.mono ?_
        rintro e w2 ⟨rfl, hx2⟩
        have HX2 := hidP (HX.out.trans hx2)
        clear hx2
        go_wp2
        go_ret
        exact ⟨ret_bool HR.out.symm, HX2.out⟩
    · have HR : Hid (ps.contains q = false) := by
        show _ = _
        rw [Bool.eq_false_iff]
        intro h
        rw [List.contains_iff_mem] at h
        obtain ⟨j, hj, e⟩ := List.mem_iff_getElem.1 h
        refine HJ.out j (by have := HL.out; omega) ?_
        rw [List.getD_eq_getElem?_getD, List.getElem?_eq_getElem hj]
        exact e
      go_wp2
      go_ret
      exact ⟨ret_bool HR.out.symm, HX.out⟩
end Go.Proofs.YtdhlapppahkjeaaGreatDoor

set_option linter.unusedVariables false
namespace Go.Proofs.YtdhlapppahkjeaaGreatDoor
open Go.RowKit

theorem PEl.Ok.below {w w' : World} {B : Nat} {e : PEl} (h : e.Ok w B) (hx : Ext w w') : e.Ok w' B := ⟨h.own.below hx, h.base, h.le, Nat.le_trans h.top hx.size⟩
theorem OwnPs.single (w : World) (B : Nat) (e : PEl) (he : e.Ok w B) (hB : B ≤ w.heap.size) : OwnPs (w.alloc (.cells #[e.val] 45)) B (some ⟨w.heap.size, 0, none⟩) 1 1 [e] := by
  have hrow := World.ownsRow_lit (e := 45) (size := 1) (base := B) w #[e.val] 1 hB (by unfold maxLen; omega) (by simp)
  refine ⟨by simpa [pvs] using hrow, by simp, fun f hf => ?_, List.pairwise_singleton _ _, fun f hf b o e1 => ?_⟩
  · simp only [List.mem_singleton] at hf
    subst hf
    exact he.below (Ext.alloc w _)
  · simp only [List.mem_singleton] at hf
    subst hf
    simp only [Option.some.injEq, Addr.mk.injEq, and_true] at e1
    exact .inr (by rw [← e1.1]; exact he.top)
theorem OwnPs.base {w : World} {B B' n c : Nat} {a : Option Addr} {ps : List PEl} (h : OwnPs w B a n c ps) (hB : B' ≤ B) : OwnPs w B' a n c ps := by
  refine ⟨⟨h.row.1, ?_⟩, h.nn, fun e he => ⟨(h.each e he).own, Nat.le_trans hB (h.each e he).base, (h.each e he).le, (h.each e he).top⟩, h.sep, h.far⟩
  rcases h.row.2 with h2 | ⟨g, cap, cur, he, hB', r⟩
  · exact .inl h2
  · exact .inr ⟨g, cap, cur, he, Nat.le_trans hB hB', r⟩
theorem OwnPs.ext {w w' w0 : World} {B n c : Nat} {a : Option Addr} {ps : List PEl} (h : OwnPs w B a n c ps) (hg : w.grownBy w' (Value.slice a n c).ownBlock) (hb : Ext w0 w) (hB : w0.heap.size ≤ B) : Ext w0 w' := by
  refine Below.grown hb hg hb.size fun k hk => ?_
  obtain ⟨g, rfl, h1, _⟩ := h.form
  simp only [Value.ownBlock, Option.some.injEq] at hk
  omega
end Go.Proofs.YtdhlapppahkjeaaGreatDoor

namespace Go.Proofs.YtdhlapppahkjeaaGreatDoor
open Go.RowKit

/-! ### lowering a straight path, part by part -/
def strP (w : List Int) : List Stp := [(w, 27720)]
/-- turned for the time M -/
def turnS (u v : List Int) (M : Int) : List Stp := if M = 0 then [(u, 27720)] else if M = 27720 then [(v, 27720)] else [(v, M), (u, 27720 - M)]
structure TurnP (r : Nat) (ts u : List Int) (i : Nat) (d c : Int) : Prop where
  ul : u.length = r
  hi : i < r
  hd : u.getD i 0 = d
  d1 : 1 ≤ d
  dc : d * c = 27720
  c1 : 1 ≤ c
  diag : ts.getD (i * r + i) 0 = 2
  wu : wayB r u = true
  wv : wayB r (refl r ts i u) = true
theorem TurnP.vi {r : Nat} {ts u : List Int} {i : Nat} {d c : Int} (h : TurnP r ts u i d c) : (refl r ts i u).getD i 0 = -d := by
  rw [refl_get _ _ _ _ _ h.hi, h.diag, h.hd]
  omega
theorem TurnP.ne {r : Nat} {ts u : List Int} {i : Nat} {d c : Int} (h : TurnP r ts u i d c) : refl r ts i u ≠ u := by
  intro e
  have h1 := h.vi
  rw [e, h.hd] at h1
  have := h.d1
  omega
theorem pathB_part {r : Nat} {ts u : List Int} {i : Nat} {d c : Int} (h : TurnP r ts u i d c) {M : Int} (h0 : 0 ≤ M) (h1 : M ≤ 27720) : pathB r (turnS u (refl r ts i u) M) = true := by
  have hwu := h.wu
  have hwv := h.wv
  have hne := h.ne
  unfold turnS
  split
  · simp [pathB, stepB, wayAt, lenAt, timeAt, hwu, List.range_succ]
  · split
    · simp [pathB, stepB, wayAt, lenAt, timeAt, hwv, List.range_succ]
    · rename_i e1 e2
      have e3 : M + (27720 - M) = 27720 := by omega
      simp [pathB, stepB, wayAt, lenAt, timeAt, hwu, hwv, List.range_succ, e3, hne]
      omega
theorem join_part {u v : List Int} (hne : v ≠ u) {M c : Int} (h0 : 0 ≤ M) (hc : 1 ≤ c) (hM : M + c ≤ 27720) : joinS [(v, M), (v, c), (u, 27720 - M - c)] = turnS u v (M + c) := by
  unfold joinS turnS
  have hc0 : c ≠ 0 := by omega
  rw [if_neg (show M + c ≠ 0 by omega)]
  by_cases hm : M = 0
  · subst hm
    by_cases hf : c = 27720
    · subst hf
      simp [addS]
    · have h2 : (27720 : Int) - 0 - c ≠ 0 := by omega
      have h3 : ¬ ((0 : Int) + c = 27720) := by omega
      rw [if_neg h3]
      simp [addS, hc0, hne]
      omega
  · by_cases hf : M + c = 27720
    · have h2 : (27720 : Int) - M - c = 0 := by omega
      rw [if_pos hf]
      simp [addS, hm, hc0, h2, hf]
    · have h2 : (27720 : Int) - M - c ≠ 0 := by omega
      rw [if_neg hf]
      simp [addS, hm, hc0, h2, hne]
      omega
theorem lowF_of {r : Nat} {ts : List Int} {i : Nat} {p : List Stp} {a b : Nat} {T H s c : Int} (hA : lowA i p = a) (hB : lowB i p = b) (hT : lowT i p = T) (hc : ¬ htAt i p p.length < T) (hH : htAt i p b = H) (hs : slopeAt i p b = s) (hm : (T - H).tmod s = 0) (hd : (T - H).tdiv s = c) :
    lowF r ts i p = checkS r (betS (refl r ts i) (timeAt p a) (timeAt p b + c) p) := by
  unfold lowF lowS
  rw [hT, if_neg hc, hA, hB, hH, hs, if_pos hm, hd]
theorem low_part {r : Nat} {ts u : List Int} {i : Nat} {d c : Int} (h : TurnP r ts u i d c) {m : Nat} (hm : (m : Int) < d) : lowF r ts i (turnS u (refl r ts i u) (m * c)) = some (turnS u (refl r ts i u) (((m + 1 : Nat) : Int) * c)) := by
  have hd1 := h.d1
  have hc1 := h.c1
  have hdc := h.dc
  have hvi := h.vi
  have hui := h.hd
  have hne := h.ne
  obtain ⟨v, hv⟩ : ∃ v, v = refl r ts i u := ⟨_, rfl⟩
  have hM : (m : Int) * c * d = 27720 * m := by rw [Int.mul_assoc, Int.mul_comm c d, hdc, Int.mul_comm]
  have hMle : (m : Int) * c + c ≤ 27720 := by
    have : ((m : Int) + 1) * c ≤ d * c := Int.mul_le_mul_of_nonneg_right (by omega) (by omega)
    rw [Int.add_mul, Int.one_mul, hdc] at this
    exact this
  have hM0 : 0 ≤ (m : Int) * c := Int.mul_nonneg (by omega) (by omega)
  have hnext : ((m + 1 : Nat) : Int) * c = m * c + c := by rw [Int.natCast_add, Int.add_mul]; simp
  have hok := pathB_part h (M := m * c + c) (by omega) hMle
  rw [hnext]
  rw [← hv] at hvi hne hok ⊢
  obtain ⟨M, hMM⟩ : ∃ M, M = (m : Int) * c := ⟨_, rfl⟩
  rw [← hMM] at hM hMle hM0 hok ⊢
  have htd : (27720 : Int).tdiv d = c := by rw [← hdc]; exact Int.mul_tdiv_cancel_left _ (by omega)
  have htm : (27720 : Int).tmod d = 0 := by rw [← hdc]; exact Int.mul_tmod_right _ _
  have hjoin := join_part hne hM0 hc1 hMle
  by_cases hz : M = 0
  · -- the straight path
    have hm0 : m = 0 := by
      rcases Nat.eq_zero_or_pos m with e | e
      · exact e
      · exfalso
        have : (1 : Int) * c ≤ m * c := Int.mul_le_mul_of_nonneg_right (by omega) (by omega)
        omega
    subst hz
    have hp : turnS u v 0 = [(u, 27720)] := by simp [turnS]
    have hend : htAt i [(u, 27720)] 1 = 27720 * d := by
      show (0 : Int) + 27720 * u.getD i 0 = _
      rw [hui]
      omega
    have hmin : minHt i [(u, 27720)] 1 = 0 := minHt_eq (k := 0) (by omega) rfl fun j hj => by
      rcases (by omega : j = 0 ∨ j = 1) with rfl | rfl
      · exact Int.le_refl _
      · rw [hend]; omega
    have hT : lowT i [(u, 27720)] = 27720 := by show minHt i [(u, 27720)] 1 + 27720 = _; rw [hmin]; rfl
    have hpl : LowP i [(u, 27720)] 0 0 := by
      refine ⟨Nat.le_refl _, by simp, by show (0 : Int) = minHt i [(u, 27720)] 1; rw [hmin], fun k h1 h2 => ?_, by rw [hT]; show (0 : Int) < _; omega, by rw [hT]; show _ ≤ htAt i [(u, 27720)] 1; rw [hend]; omega⟩
      obtain rfl : k = 1 := by simp at h2; omega
      show htAt i [(u, 27720)] 1 ≠ minHt i [(u, 27720)] 1
      rw [hend, hmin]
      omega
    obtain ⟨hA, hB⟩ := hpl.unique (fun k h1 h2 => by omega)
    rw [hp]
    rw [lowF_of (T := 27720) (H := 0) (s := d) (c := c) hA hB hT (by show ¬ htAt i [(u, 27720)] 1 < _; rw [hend]; omega) rfl (by show u.getD i 0 = d; exact hui) (by rw [Int.sub_zero]; exact htm) (by rw [Int.sub_zero]; exact htd)]
    show checkS r (betS (refl r ts i) 0 (0 + c) [(u, 27720)]) = _
    have hb : betS (refl r ts i) 0 (0 + c) [(u, 27720)] = [(u, 0), (v, c), (u, 27720 - c)] := by
      have hw1 : within 0 0 27720 = 0 := by decide
      have hw2 : within (0 + c) 0 27720 = c := by unfold within; rw [if_neg (by omega), if_neg (by omega)]; omega
      simp only [betS, betTo, List.length_singleton, List.range_one, List.flatMap_singleton, betK, wayAt, timeAt, lenAt, List.getD_cons_zero]
      simp only [Int.zero_add]
      rw [hw1, show within c 0 27720 = c by rw [Int.zero_add] at hw2; exact hw2, ← hv]
      simp
    rw [hb]
    have hj : joinS [(u, 0), (v, c), (u, 27720 - c)] = turnS u v (0 + c) := by
      rw [← hjoin]
      simp [joinS, addS]
    unfold checkS
    rw [hj, hok, if_pos rfl]
  · have hnf : M ≠ 27720 := by omega
    have hp : turnS u v M = [(v, M), (u, 27720 - M)] := by rw [turnS, if_neg hz, if_neg hnf]
    have hm1 : 1 ≤ m := by
      rcases Nat.eq_zero_or_pos m with e | e
      · subst e; simp at hMM; exact absurd hMM hz
      · exact e
    have h1 : htAt i [(v, M), (u, 27720 - M)] 1 = -(27720 * m) := by
      show (0 : Int) + M * v.getD i 0 = _
      rw [hvi, Int.mul_neg, hM]
      omega
    have h2 : htAt i [(v, M), (u, 27720 - M)] 2 = 27720 * d - 2 * (27720 * m) := by
      show htAt i [(v, M), (u, 27720 - M)] 1 + (27720 - M) * u.getD i 0 = _
      rw [h1, hui, Int.sub_mul, hM]
      omega
    have hmin : minHt i [(v, M), (u, 27720 - M)] 2 = -(27720 * m) := minHt_eq (k := 1) (by omega) h1 fun j hj => by
      rcases (by omega : j = 0 ∨ j = 1 ∨ j = 2) with rfl | rfl | rfl
      · show -(27720 * (m : Int)) ≤ 0; omega
      · rw [h1]; exact Int.le_refl _
      · rw [h2]; omega
    have hT : lowT i [(v, M), (u, 27720 - M)] = -(27720 * m) + 27720 := by show minHt i [(v, M), (u, 27720 - M)] 2 + 27720 = _; rw [hmin]
    have hpl : LowP i [(v, M), (u, 27720 - M)] 1 1 := by
      refine ⟨Nat.le_refl _, by simp, by show htAt i [(v, M), (u, 27720 - M)] 1 = minHt i [(v, M), (u, 27720 - M)] 2; rw [h1, hmin], fun k h3 h4 => ?_, by rw [hT, h1]; omega, by rw [hT]; show _ ≤ htAt i [(v, M), (u, 27720 - M)] 2; rw [h2]; omega⟩
      obtain rfl : k = 2 := by simp at h4; omega
      show htAt i [(v, M), (u, 27720 - M)] 2 ≠ minHt i [(v, M), (u, 27720 - M)] 2
      rw [h2, hmin]
      omega
    obtain ⟨hA, hB⟩ := hpl.unique (fun k h3 h4 => by omega)
    have hsub : -(27720 * (m : Int)) + 27720 - -(27720 * m) = 27720 := by omega
    rw [hp]
    rw [lowF_of (s := d) (c := c) hA hB hT (by show ¬ htAt i [(v, M), (u, 27720 - M)] 2 < _; rw [h2]; omega) h1 (by show u.getD i 0 = d; exact hui) (by rw [hsub]; exact htm) (by rw [hsub]; exact htd)]
    have ht1 : timeAt [(v, M), (u, 27720 - M)] 1 = M := by show (0 : Int) + M = M; omega
    rw [ht1]
    have hb : betS (refl r ts i) M (M + c) [(v, M), (u, 27720 - M)] = [(v, M), (refl r ts i v, 0), (v, 0), (u, 0), (v, c), (u, 27720 - M - c)] := by
      have hw1 : within M 0 M = M := by unfold within; rw [if_neg (by omega), if_neg (by omega)]
      have hw2 : within (M + c) 0 M = M := by unfold within; rw [if_neg (by omega), if_pos (by omega)]
      have hw3 : within M M 27720 = M := by unfold within; rw [if_neg (by omega), if_neg (by omega)]
      have hw4 : within (M + c) M 27720 = M + c := by unfold within; rw [if_neg (by omega), if_neg (by omega)]
      have e2 : M + (27720 - M) = 27720 := by omega
      simp only [betS, betTo, List.length_cons, List.length_nil, List.range_succ, List.range_zero, List.nil_append, List.flatMap_append, List.flatMap_cons, List.flatMap_nil, List.append_nil, betK, wayAt, timeAt, lenAt, List.getD_cons_zero, List.getD_cons_succ, Int.zero_add, e2, hw1, hw2, hw3, hw4, ← hv]
      simp
      omega
    rw [hb]
    have hj : joinS [(v, M), (refl r ts i v, 0), (v, 0), (u, 0), (v, c), (u, 27720 - M - c)] = turnS u v (M + c) := by
      rw [← hjoin]
      simp [joinS, addS]
    unfold checkS
    rw [hj, hok, if_pos rfl]
end Go.Proofs.YtdhlapppahkjeaaGreatDoor

namespace Go.Proofs.YtdhlapppahkjeaaGreatDoor
open Go.RowKit

end Go.Proofs.YtdhlapppahkjeaaGreatDoor

namespace Go.Proofs.YtdhlapppahkjeaaGreatDoor
open Go.RowKit

end Go.Proofs.YtdhlapppahkjeaaGreatDoor

namespace Go.Proofs.YtdhlapppahkjeaaGreatDoor
open Go.RowKit

end Go.Proofs.YtdhlapppahkjeaaGreatDoor

namespace Go.Proofs.YtdhlapppahkjeaaGreatDoor
open Go.RowKit

/-- the basis element k -/
def basisL (n k : Nat) : List Int := (List.replicate n 0).set k 1
end Go.Proofs.YtdhlapppahkjeaaGreatDoor

namespace Go.Proofs.YtdhlapppahkjeaaGreatDoor
open Go.RowKit

def drefL (r : Nat) (ts : List Int) (i : Nat) (y : List Int) : List Int := y.set i (y.getD i 0 - sumTo r fun k => ts.getD (k * r + i) 0 * y.getD k 0)
def nonnegL (y : List Int) : Bool := y.all fun n => decide (0 ≤ n)
def corGo (r : Nat) (ts : List Int) : Nat → List (List Int) → List (List Int) → List (List Int)
  | 0, done, _ => done
  | _ + 1, done, [] => done
  | f + 1, done, y :: q => corGo r ts f (done ++ [y]) (((List.range r).map fun i => drefL r ts i y).foldl (fun q z => if nonnegL z && !(done.contains z) && z != y && !(q.contains z) then q ++ [z] else q) q)
def corP (r : Nat) (ts : List Int) : List (List Int) := corGo r ts 40 [] ((List.range r).map (basisL r))
/-- down to a simple one: the rows taken, and the simple one's place -/
def chainD (r : Nat) (ts : List Int) : Nat → List Int → List Nat × Nat
  | 0, _ => ([], 1000)
  | f + 1, y => match (List.range r).find? (fun j => y == basisL r j) with
    | some j => ([], j)
    | none => match (List.range r).find? (fun k => nonnegL (drefL r ts k y) && decide ((drefL r ts k y).getD k 0 < y.getD k 0)) with
      | some k => let c := chainD r ts f (drefL r ts k y); (k :: c.1, c.2)
      | none => ([], 1000)
/-- pulled back along the rows -/
def backD (r : Nat) (ts : List Int) (ks : List Nat) (y : List Int) : List Int := ks.foldr (drefL r ts) y
def stepsOk (r : Nat) (ts : List Int) (ks : List Nat) : Bool := (List.range ks.length).all fun t => decide (ks.getD t 0 < r) && nonnegL (backD r ts (ks.take t) (basisL r (ks.getD t 0)))
def chainOk (r : Nat) (ts : List Int) (y : List Int) : Bool := let c := chainD r ts 20 y; decide (c.2 < r) && (backD r ts c.1 (basisL r c.2) == y) && stepsOk r ts c.1
def corOk (r : Nat) (ts : List Int) : Bool :=
  ((List.range r).all fun i => (corP r ts).contains (basisL r i) && decide (ts.getD (i * r + i) 0 = 2)) && (corP r ts).all fun y => decide (y.length = r) && nonnegL y && (y.all fun n => decide (n ≤ 10)) && chainOk r ts y &&
    (List.range r).all fun i => y == basisL r i || (corP r ts).contains (drefL r ts i y)
/-! ### pairings -/
def dotL (r : Nat) (x y : List Int) : Int := sumTo r fun j => x.getD j 0 * y.getD j 0
theorem sumTo_at {n i : Nat} (hi : i < n) {f g : Nat → Int} (h : ∀ j, j < n → j ≠ i → g j = f j) : sumTo n g = sumTo n f - f i + g i := by
  induction n with
  | zero => omega
  | succ n ih =>
    simp only [sumTo]
    rcases Nat.lt_or_ge i n with h1 | h1
    · rw [ih h1 fun j hj hne => h j (by omega) hne, h n (by omega) (by omega)]
      omega
    · obtain rfl : i = n := by omega
      rw [sumTo_congr fun j hj => h j (by omega) (by omega)]
      omega
theorem sumTo_lin (n : Nat) (f g : Nat → Int) (a : Int) : sumTo n (fun j => f j - a * g j) = sumTo n f - a * sumTo n g := by
  induction n with
  | zero => simp [sumTo]
  | succ n ih =>
    simp only [sumTo]
    rw [ih, Int.mul_add]
    omega
theorem sumTo_neg (n : Nat) (f : Nat → Int) : sumTo n (fun j => -(f j)) = -(sumTo n f) := by
  induction n with
  | zero => rfl
  | succ n ih => simp only [sumTo]; rw [ih]; omega
theorem neg_getD (y : List Int) (k : Nat) : (y.map fun n => -n).getD k 0 = -(y.getD k 0) := by
  simp only [List.getD_eq_getElem?_getD, List.getElem?_map]
  cases y[k]? <;> simp
theorem drefL_length (r : Nat) (ts : List Int) (i : Nat) (y : List Int) : (drefL r ts i y).length = y.length := by simp [drefL]
theorem dot_refl {r : Nat} (ts : List Int) {i : Nat} (hi : i < r) {x y : List Int} (hy : y.length = r) : dotL r (refl r ts i x) y = dotL r x (drefL r ts i y) := by
  have h1 : dotL r (refl r ts i x) y = sumTo r fun j => x.getD j 0 * y.getD j 0 - x.getD i 0 * (ts.getD (j * r + i) 0 * y.getD j 0) := by
    unfold dotL
    refine sumTo_congr fun j hj => ?_
    rw [refl_get _ _ _ _ _ hj, Int.sub_mul, Int.mul_assoc]
  have h2 : dotL r x (drefL r ts i y) = dotL r x y - x.getD i 0 * y.getD i 0 + x.getD i 0 * (y.getD i 0 - sumTo r fun k => ts.getD (k * r + i) 0 * y.getD k 0) := by
    unfold dotL
    rw [sumTo_at hi (f := fun j => x.getD j 0 * y.getD j 0) (g := fun j => x.getD j 0 * (drefL r ts i y).getD j 0) (fun j hj hne => by
      simp only [drefL, List.getD_eq_getElem?_getD]
      rw [List.getElem?_set_ne (Ne.symm hne)])]
    congr 2
    simp only [drefL, List.getD_eq_getElem?_getD]
    rw [List.getElem?_set_self (by omega)]
    rfl
  rw [h1, sumTo_lin, h2]
  unfold dotL
  rw [Int.mul_sub]
  omega
theorem dot_basis {r i : Nat} (hi : i < r) (x : List Int) : dotL r x (basisL r i) = x.getD i 0 := by
  unfold dotL
  rw [sumTo_at hi (f := fun _ => 0) (g := fun j => x.getD j 0 * (basisL r i).getD j 0) (fun j hj hne => by
    rw [show (basisL r i).getD j 0 = 0 by
      simp only [basisL, List.getD_eq_getElem?_getD]
      rw [List.getElem?_set_ne (Ne.symm hne)]
      simp [hj]]
    simp)]
  have : ∀ n, sumTo n (fun _ => (0 : Int)) = 0 := fun n => by induction n with | zero => rfl | succ n ih => simp [sumTo, ih]
  rw [this, show (basisL r i).getD i 0 = 1 by simp [basisL, List.getD_eq_getElem?_getD, hi]]
  omega
theorem dot_nonneg {r : Nat} {x y : List Int} (hx : ∀ j, j < r → 0 ≤ x.getD j 0) (hy : ∀ j, j < r → 0 ≤ y.getD j 0) : 0 ≤ dotL r x y := by
  unfold dotL
  have : ∀ n, n ≤ r → 0 ≤ sumTo n fun j => x.getD j 0 * y.getD j 0 := by
    intro n
    induction n with
    | zero => intro _; exact Int.le_refl _
    | succ n ih =>
      intro h
      simp only [sumTo]
      have := ih (by omega)
      have := Int.mul_nonneg (hx n (by omega)) (hy n (by omega))
      omega
  exact this r (Nat.le_refl _)
theorem nonnegL_get {y : List Int} (h : nonnegL y = true) (j : Nat) : 0 ≤ y.getD j 0 := by
  simp only [nonnegL, List.all_eq_true, decide_eq_true_eq] at h
  rw [List.getD_eq_getElem?_getD]
  cases hj : y[j]? with
  | none => simp
  | some v => exact h v (List.mem_of_getElem? hj)
/-- the weights that reflections make -/
inductive Orb (r : Nat) (ts w : List Int) : List Int → Prop
  | base : Orb r ts w w
  | step (x : List Int) (i : Nat) (hi : i < r) : Orb r ts w x → Orb r ts w (refl r ts i x)
theorem Orb.len {r : Nat} {ts w x : List Int} (hw : w.length = r) (h : Orb r ts w x) : x.length = r := by
  cases h with
  | base => exact hw
  | step => exact refl_length _ _ _ _
structure CorP (r : Nat) (ts : List Int) : Prop where
  ok : corOk r ts = true
theorem CorP.facts {r : Nat} {ts : List Int} (h : CorP r ts) : (∀ i, i < r → basisL r i ∈ corP r ts ∧ ts.getD (i * r + i) 0 = 2) ∧
    ∀ y ∈ corP r ts, y.length = r ∧ nonnegL y = true ∧ (∀ n ∈ y, n ≤ 10) ∧ chainOk r ts y = true ∧ ∀ i, i < r → y = basisL r i ∨ drefL r ts i y ∈ corP r ts := by
  have h1 := h.ok
  simp only [corOk, Bool.and_eq_true, List.all_eq_true, List.mem_range, decide_eq_true_eq, Bool.or_eq_true, beq_iff_eq, List.contains_iff_mem] at h1
  exact ⟨h1.1, fun y hy => ⟨(h1.2 y hy).1.1.1.1, (h1.2 y hy).1.1.1.2, (h1.2 y hy).1.1.2, (h1.2 y hy).1.2, (h1.2 y hy).2⟩⟩
theorem dref_basis {r : Nat} {ts : List Int} {i : Nat} (hi : i < r) (hd : ts.getD (i * r + i) 0 = 2) : drefL r ts i (basisL r i) = (basisL r i).map fun n => -n := by
  have hs : (sumTo r fun k => ts.getD (k * r + i) 0 * (basisL r i).getD k 0) = 2 := by
    have := dot_basis hi ((List.range r).map fun k => ts.getD (k * r + i) 0)
    unfold dotL at this
    rw [← hd, ← show ((List.range r).map fun k => ts.getD (k * r + i) 0).getD i 0 = ts.getD (i * r + i) 0 by simp [List.getD_eq_getElem?_getD, hi], ← this]
    refine sumTo_congr fun k hk => ?_
    simp [List.getD_eq_getElem?_getD, hk]
  unfold drefL
  rw [hs]
  apply List.ext_getElem
  · simp
  · intro j h1 h2
    have hj : j < r := by simpa [basisL] using h1
    by_cases e : i = j
    · subst e
      simp [basisL, hi]
    · rw [List.getElem_set_ne e]
      simp [basisL, List.getElem_set_ne e]
/-- each number of a weight of the orbit is a pairing of the first weight with a coroot, up to the sign -/
theorem orb_coord {r : Nat} {ts w : List Int} (hc : CorP r ts) {x : List Int} (h : Orb r ts w x) : ∀ y ∈ corP r ts, ∃ z ∈ corP r ts, dotL r x y = dotL r w z ∨ dotL r x y = -(dotL r w z) := by
  have hf := hc.facts
  have hneg : ∀ x z, dotL r x (z.map fun n => -n) = -(dotL r x z) := fun x z => by
    unfold dotL
    rw [← sumTo_neg]
    refine sumTo_congr fun k _ => ?_
    rw [neg_getD, Int.mul_neg]
  induction h with
  | base => exact fun y hy => ⟨y, hy, .inl rfl⟩
  | step x i hi _ ih =>
    intro y hy
    obtain ⟨hl, _, _, _, hcl⟩ := hf.2 y hy
    rw [dot_refl ts hi hl]
    rcases hcl i hi with rfl | h2
    · rw [dref_basis hi (hf.1 i hi).2, hneg]
      obtain ⟨z, hz, h3⟩ := ih _ hy
      refine ⟨z, hz, ?_⟩
      rcases h3 with h3 | h3
      · right; omega
      · left; omega
    · exact ih _ h2
end Go.Proofs.YtdhlapppahkjeaaGreatDoor

namespace Go.Proofs.YtdhlapppahkjeaaGreatDoor
open Go.RowKit

structure ClosedP (r : Nat) (ts w : List Int) (P : List Stp → Prop) : Prop where
  top : P (strP w)
  low : ∀ p i q, P p → i < r → lowF r ts i p = some q → P q
  le : ∀ p, P p → ∀ s ∈ p, ∀ j, j < r → s.1.getD j 0 ≤ 12
/-- a highest weight -/
structure HighW (r : Nat) (w : List Int) : Prop where
  len : w.length = r
  r4 : r ≤ 4
  bd : ∀ j, j < r → 0 ≤ w.getD j 0 ∧ w.getD j 0 ≤ 3
theorem cor_dot {r : Nat} {ts w : List Int} (hc : CorP r ts) (hw : HighW r w) {z : List Int} (hz : z ∈ corP r ts) : 0 ≤ dotL r w z ∧ dotL r w z ≤ 120 := by
  obtain ⟨hl, hn, hb, _, _⟩ := hc.facts.2 z hz
  refine ⟨dot_nonneg (fun j hj => (hw.bd j hj).1) fun j _ => nonnegL_get hn j, ?_⟩
  have key : ∀ n, n ≤ r → sumTo n (fun j => w.getD j 0 * z.getD j 0) ≤ n * 30 := by
    intro n
    induction n with
    | zero => intro _; simp [sumTo]
    | succ n ih =>
      intro h
      have h1 := ih (by omega)
      have h2 := hw.bd n (by omega)
      have h3 : 0 ≤ z.getD n 0 ∧ z.getD n 0 ≤ 10 := by
        refine ⟨nonnegL_get hn n, hb _ ?_⟩
        rw [List.getD_eq_getElem?_getD, List.getElem?_eq_getElem (by omega)]
        exact List.getElem_mem _
      have h4 : w.getD n 0 * z.getD n 0 ≤ 3 * 10 := Int.mul_le_mul h2.2 h3.2 h3.1 (by omega)
      simp only [sumTo]
      omega
  have := key r (Nat.le_refl _)
  have hr := hw.r4
  unfold dotL
  omega
theorem orb_bd {r : Nat} {ts w : List Int} (hc : CorP r ts) (hw : HighW r w) {x : List Int} (h : Orb r ts w x) : wayB r x = true := by
  have hl := h.len hw.len
  unfold wayB
  rw [Bool.and_eq_true, decide_eq_true_eq, List.all_eq_true]
  refine ⟨hl, fun n hn => ?_⟩
  obtain ⟨j, hj, rfl⟩ := List.mem_iff_getElem.1 hn
  have hjr : j < r := by omega
  obtain ⟨z, hz, h2⟩ := orb_coord hc h (basisL r j) (hc.facts.1 j hjr).1
  have h3 := cor_dot hc hw hz
  rw [dot_basis hjr, List.getD_eq_getElem?_getD, List.getElem?_eq_getElem hj, Option.getD_some] at h2
  rw [decide_eq_true_eq]
  omega
theorem turn_one {r : Nat} {ts w : List Int} (hc : CorP r ts) (hw : HighW r w) {P : List Stp → Prop} (hP : ClosedP r ts w P) {x : List Int} (h : Orb r ts w x) (hx : P (strP x)) {i : Nat} (hi : i < r) (h0 : 0 ≤ x.getD i 0) : P (strP (refl r ts i x)) := by
  have hl := h.len hw.len
  obtain ⟨d, hd⟩ : ∃ d, d = x.getD i 0 := ⟨_, rfl⟩
  rw [← hd] at h0
  by_cases hz : d = 0
  · have : refl r ts i x = x := by
      apply List.ext_getElem
      · rw [refl_length, hl]
      · intro j h1 h2
        have h3 := refl_get r ts i x j (by rw [refl_length] at h1; exact h1)
        rw [← hd, hz, Int.zero_mul, Int.sub_zero, List.getD_eq_getElem?_getD, List.getElem?_eq_getElem h1, List.getD_eq_getElem?_getD, List.getElem?_eq_getElem h2] at h3
        exact h3
    rw [this]
    exact hx
  · have h12 : d ≤ 12 := by
      have := hP.le _ hx (x, 27720) (by simp [strP]) i hi
      rw [← hd] at this
      exact this
    obtain ⟨c, hdc, hc1⟩ : ∃ c, d * c = 27720 ∧ 1 ≤ c := by
      rcases (by omega : d = 1 ∨ d = 2 ∨ d = 3 ∨ d = 4 ∨ d = 5 ∨ d = 6 ∨ d = 7 ∨ d = 8 ∨ d = 9 ∨ d = 10 ∨ d = 11 ∨ d = 12) with rfl | rfl | rfl | rfl | rfl | rfl | rfl | rfl | rfl | rfl | rfl | rfl
      · exact ⟨27720, by decide, by decide⟩
      · exact ⟨13860, by decide, by decide⟩
      · exact ⟨9240, by decide, by decide⟩
      · exact ⟨6930, by decide, by decide⟩
      · exact ⟨5544, by decide, by decide⟩
      · exact ⟨4620, by decide, by decide⟩
      · exact ⟨3960, by decide, by decide⟩
      · exact ⟨3465, by decide, by decide⟩
      · exact ⟨3080, by decide, by decide⟩
      · exact ⟨2772, by decide, by decide⟩
      · exact ⟨2520, by decide, by decide⟩
      · exact ⟨2310, by decide, by decide⟩
    have ht : TurnP r ts x i d c := ⟨hl, hi, hd.symm, by omega, hdc, hc1, (hc.facts.1 i hi).2, orb_bd hc hw h, orb_bd hc hw (.step x i hi h)⟩
    have key : ∀ m : Nat, (m : Int) ≤ d → P (turnS x (refl r ts i x) (m * c)) := by
      intro m
      induction m with
      | zero => intro _; simpa [turnS, strP] using hx
      | succ m ih => exact fun hm => hP.low _ i _ (ih (by omega)) hi (low_part ht (by omega))
    have h1 := key d.toNat (by omega)
    rw [show ((d.toNat : Nat) : Int) = d by omega, hdc] at h1
    simpa [turnS, strP] using h1
def actW (r : Nat) (ts : List Int) (ks : List Nat) (w : List Int) : List Int := ks.foldl (fun x k => refl r ts k x) w
theorem backD_length (r : Nat) (ts : List Int) (ks : List Nat) (y : List Int) : (backD r ts ks y).length = y.length := by
  induction ks with
  | nil => rfl
  | cons k ks ih => rw [backD, List.foldr_cons, drefL_length]; exact ih
theorem dot_act {r : Nat} {ts : List Int} {y : List Int} (hy : y.length = r) : ∀ (ks : List Nat) (w : List Int), (∀ k ∈ ks, k < r) → dotL r (actW r ts ks w) y = dotL r w (backD r ts ks y)
  | [], _, _ => rfl
  | k :: ks, w, h => by
    show dotL r (actW r ts ks (refl r ts k w)) y = dotL r w (drefL r ts k (backD r ts ks y))
    rw [dot_act hy ks _ fun k' hk' => h k' (by simp [hk']), dot_refl ts (h k (by simp)) (by rw [backD_length]; exact hy)]
theorem basis_len (r i : Nat) : (basisL r i).length = r := by simp [basisL]
theorem cor_reach {r : Nat} {ts w : List Int} (hc : CorP r ts) (hw : HighW r w) {P : List Stp → Prop} (hP : ClosedP r ts w P) {z : List Int} (hz : z ∈ corP r ts) : dotL r w z ≤ 12 := by
  obtain ⟨hl, _, _, hch, _⟩ := hc.facts.2 z hz
  unfold chainOk at hch
  obtain ⟨c, hcc⟩ : ∃ c, c = chainD r ts 20 z := ⟨_, rfl⟩
  rw [← hcc] at hch
  simp only [stepsOk, Bool.and_eq_true, decide_eq_true_eq, beq_iff_eq, List.all_eq_true, List.mem_range] at hch
  obtain ⟨⟨hj, hback⟩, hst⟩ := hch
  have hlt : ∀ k ∈ c.1, k < r := by
    intro k hk
    obtain ⟨t, ht, rfl⟩ := List.mem_iff_getElem.1 hk
    have := (hst t ht).1
    rwa [List.getD_eq_getElem?_getD, List.getElem?_eq_getElem ht] at this
  have key : ∀ t, t ≤ c.1.length → Orb r ts w (actW r ts (c.1.take t) w) ∧ P (strP (actW r ts (c.1.take t) w)) := by
    intro t
    induction t with
    | zero => exact fun _ => ⟨.base, hP.top⟩
    | succ t ih =>
      intro ht
      obtain ⟨h1, h2⟩ := ih (by omega)
      have h3 := (hst t (by omega)).1
      have h4 : actW r ts (c.1.take (t + 1)) w = refl r ts (c.1.getD t 0) (actW r ts (c.1.take t) w) := by
        unfold actW
        rw [List.take_succ_eq_append_getElem (by omega), List.foldl_append]
        simp [List.getD_eq_getElem?_getD, List.getElem?_eq_getElem (show t < c.1.length by omega)]
      rw [h4]
      refine ⟨.step _ _ h3 h1, turn_one hc hw hP h1 h2 h3 ?_⟩
      rw [← dot_basis h3, dot_act (basis_len _ _) _ _ fun k hk => hlt k (List.mem_of_mem_take hk)]
      exact dot_nonneg (fun j hj => (hw.bd j hj).1) fun j _ => nonnegL_get (hst t (by omega)).2 j
  obtain ⟨_, h2⟩ := key c.1.length (Nat.le_refl _)
  rw [List.take_length] at h2
  have h3 := hP.le _ h2 (actW r ts c.1 w, 27720) (by simp [strP]) c.2 hj
  rw [← dot_basis hj, dot_act (basis_len _ _) _ _ hlt, hback] at h3
  exact h3
/-- THE LAW -/
theorem orb_within {r : Nat} {ts w : List Int} (hc : CorP r ts) (hw : HighW r w) {P : List Stp → Prop} (hP : ClosedP r ts w P) {x : List Int} (h : Orb r ts w x) : ∀ j, j < r → -12 ≤ x.getD j 0 ∧ x.getD j 0 ≤ 12 := by
  intro j hj
  obtain ⟨z, hz, h2⟩ := orb_coord hc h (basisL r j) (hc.facts.1 j hj).1
  have h3 := cor_dot hc hw hz
  have h4 := cor_reach hc hw hP hz
  rw [dot_basis hj] at h2
  omega
/-! ### the ways of a path that is lowered -/
theorem addS_waysM (out : List Stp) (s : Stp) : ∀ x ∈ addS out s, (∃ y ∈ out, x.1 = y.1) ∨ x.1 = s.1 := by
  intro x hx
  by_cases h : s.2 = 0
  · rw [addS_zero _ _ h] at hx
    exact .inl ⟨x, hx, rfl⟩
  · rcases snoc_cases out with rfl | ⟨o, l, rfl⟩
    · rw [addS_nil _ h] at hx
      simp only [List.mem_singleton] at hx
      exact .inr (by rw [hx])
    · rw [addS_snoc _ _ _ h] at hx
      split at hx
      · rcases List.mem_append.1 hx with h1 | h1
        · exact .inl ⟨x, by simp [h1], rfl⟩
        · simp only [List.mem_singleton] at h1
          exact .inl ⟨l, by simp, by rw [h1]⟩
      · rcases List.mem_append.1 hx with h1 | h1
        · exact .inl ⟨x, h1, rfl⟩
        · simp only [List.mem_singleton] at h1
          exact .inr (by rw [h1])
theorem foldl_ways : ∀ (p out : List Stp), ∀ x ∈ p.foldl addS out, (∃ y ∈ out, x.1 = y.1) ∨ ∃ y ∈ p, x.1 = y.1
  | [], out, x, hx => .inl ⟨x, hx, rfl⟩
  | s :: p, out, x, hx => by
    rcases foldl_ways p (addS out s) x hx with ⟨y, hy, e⟩ | ⟨y, hy, e⟩
    · rcases addS_waysM out s y hy with ⟨z, hz, e2⟩ | e2
      · exact .inl ⟨z, hz, e.trans e2⟩
      · exact .inr ⟨s, by simp, e.trans e2⟩
    · exact .inr ⟨y, by simp [hy], e⟩
theorem lowF_ways {r : Nat} {ts : List Int} {i : Nat} {p q : List Stp} (h : lowF r ts i p = some q) : ∀ x ∈ q, ∃ y ∈ p, x.1 = y.1 ∨ x.1 = refl r ts i y.1 := by
  have key : ∀ u v : Int, checkS r (betS (refl r ts i) u v p) = some q → ∀ x ∈ q, ∃ y ∈ p, x.1 = y.1 ∨ x.1 = refl r ts i y.1 := by
    intro u v hc x hx
    unfold checkS at hc
    split at hc
    · cases hc
      rcases foldl_ways _ [] x hx with ⟨y, hy, _⟩ | ⟨y, hy, e⟩
      · simp at hy
      · unfold betS betTo at hy
        obtain ⟨k, hk, hy2⟩ := List.mem_flatMap.1 hy
        have hk := List.mem_range.1 hk
        have hm : p.getD k ([], 0) ∈ p := by
          rw [List.getD_eq_getElem?_getD, List.getElem?_eq_getElem hk]
          exact List.getElem_mem _
        refine ⟨_, hm, ?_⟩
        rw [e]
        simp only [betK, List.mem_cons, List.not_mem_nil, or_false] at hy2
        rcases hy2 with rfl | rfl | rfl
        · exact .inl rfl
        · exact .inr rfl
        · exact .inl rfl
    · cases hc
  unfold lowF lowS at h
  split at h
  · cases h
  · split at h
    · exact key _ _ h
    · cases h
theorem lowF_orb {r : Nat} {ts w : List Int} {i : Nat} (hi : i < r) {p q : List Stp} (h : lowF r ts i p = some q) (hp : ∀ s ∈ p, Orb r ts w s.1) : ∀ s ∈ q, Orb r ts w s.1 := by
  intro s hs
  obtain ⟨y, hy, e | e⟩ := lowF_ways h s hs
  · rw [e]; exact hp y hy
  · rw [e]; exact .step _ i hi (hp y hy)
end Go.Proofs.YtdhlapppahkjeaaGreatDoor

namespace Go.Proofs.YtdhlapppahkjeaaGreatDoor
open Go.RowKit

def corOne (r n : Nat) : Bool := (permsL r).all fun s => corOk r (madeL r ((typesL 5 r 0).getD n []) s)
def corCount (r : Nat) : Nat := (typesL 5 r 0).length
theorem cor_1 : (List.range (corCount 1)).all (corOne 1) = true := by decide +kernel
theorem cor_2 : (List.range (corCount 2)).all (corOne 2) = true := by decide +kernel
theorem cor_3 : (List.range (corCount 3)).all (corOne 3) = true := by decide +kernel
theorem count_4 : corCount 4 = 18 := by decide +kernel
theorem cor_4_0 : corOne 4 0 = true := by decide +kernel
theorem cor_4_1 : corOne 4 1 = true := by decide +kernel
theorem cor_4_2 : corOne 4 2 = true := by decide +kernel
theorem cor_4_3 : corOne 4 3 = true := by decide +kernel
theorem cor_4_4 : corOne 4 4 = true := by decide +kernel
theorem cor_4_5 : corOne 4 5 = true := by decide +kernel
theorem cor_4_6 : corOne 4 6 = true := by decide +kernel
theorem cor_4_7 : corOne 4 7 = true := by decide +kernel
theorem cor_4_8 : corOne 4 8 = true := by decide +kernel
theorem cor_4_9 : corOne 4 9 = true := by decide +kernel
theorem cor_4_10 : corOne 4 10 = true := by decide +kernel
theorem cor_4_11 : corOne 4 11 = true := by decide +kernel
theorem cor_4_12 : corOne 4 12 = true := by decide +kernel
theorem cor_4_13 : corOne 4 13 = true := by decide +kernel
theorem cor_4_14 : corOne 4 14 = true := by decide +kernel
theorem cor_4_15 : corOne 4 15 = true := by decide +kernel
theorem cor_4_16 : corOne 4 16 = true := by decide +kernel
theorem cor_4_17 : corOne 4 17 = true := by decide +kernel
theorem cor_4 (n : Nat) (h : n < 18) : corOne 4 n = true := by
  rcases (by omega : n = 0 ∨ n = 1 ∨ n = 2 ∨ n = 3 ∨ n = 4 ∨ n = 5 ∨ n = 6 ∨ n = 7 ∨ n = 8 ∨ n = 9 ∨ n = 10 ∨ n = 11 ∨ n = 12 ∨ n = 13 ∨ n = 14 ∨ n = 15 ∨ n = 16 ∨ n = 17) with rfl | rfl | rfl | rfl | rfl | rfl | rfl | rfl | rfl | rfl | rfl | rfl | rfl | rfl | rfl | rfl | rfl | rfl
  · exact cor_4_0
  · exact cor_4_1
  · exact cor_4_2
  · exact cor_4_3
  · exact cor_4_4
  · exact cor_4_5
  · exact cor_4_6
  · exact cor_4_7
  · exact cor_4_8
  · exact cor_4_9
  · exact cor_4_10
  · exact cor_4_11
  · exact cor_4_12
  · exact cor_4_13
  · exact cor_4_14
  · exact cor_4_15
  · exact cor_4_16
  · exact cor_4_17
theorem cor_all (r n : Nat) (h1 : 1 ≤ r) (h4 : r ≤ 4) (hn : n < corCount r) : corOne r n = true := by
  rcases (by omega : r = 1 ∨ r = 2 ∨ r = 3 ∨ r = 4) with rfl | rfl | rfl | rfl
  · have := cor_1
    simp only [List.all_eq_true, List.mem_range] at this
    exact this n hn
  · have := cor_2
    simp only [List.all_eq_true, List.mem_range] at this
    exact this n hn
  · have := cor_3
    simp only [List.all_eq_true, List.mem_range] at this
    exact this n hn
  · rw [count_4] at hn
    exact cor_4 n hn
theorem cor_of_type {r : Nat} {ts : List Int} (h : typeB r ts = true) : CorP r ts := by
  obtain ⟨h1, h4, hl⟩ := typeB_rank h
  have h1' : 1 ≤ r := by omega
  have h4' : r ≤ 4 := by omega
  have hl' : ts.length = r * r := by
    have h3 : ((r * r : Nat) : Int) = r * r := Int.natCast_mul _ _
    omega
  unfold typeB at h
  simp only [Bool.and_eq_true, List.any_eq_true, Int.toNat_natCast] at h
  obtain ⟨_, ks, hks, hre⟩ := h
  obtain ⟨s, hs, hm⟩ := reordB_iff.1 hre
  have hrk := (types_ok r (by omega) ks hks).2
  have hm' : Match ts r s (blockE ks) := by
    intro p q hp hq
    rw [hm p q hp hq]
    have hsl := hs.1
    have := atM_blockL ks p q (by rw [hrk]; omega) (by rw [hrk]; omega)
    rwa [hrk] at this
  have hmade := made_eq (by omega) hl' hs hm'
  obtain ⟨n, hn, he⟩ := List.mem_iff_getElem.1 hks
  have hc := cor_all r n h1' h4' hn
  simp only [corOne, List.all_eq_true] at hc
  have := hc s (perm_mem (by omega) hs)
  rw [List.getD_eq_getElem?_getD, List.getElem?_eq_getElem hn, Option.getD_some, he, ← hmade] at this
  exact ⟨this⟩
end Go.Proofs.YtdhlapppahkjeaaGreatDoor

namespace Go.Proofs.YtdhlapppahkjeaaGreatDoor
open Go.RowKit

/-- the search: none: out of fuel; some none: given up -/
def explGo (r : Nat) (ts : List Int) (bad : List Stp → Bool) : Nat → Nat → Nat → List (List Stp) → Option (Option (List (List Stp)))
  | 0, _, _, _ => none
  | f + 1, k, i, out =>
    if k < out.length then
      if i < r then
        match lowF r ts i (out.getD k []) with
        | none => explGo r ts bad f k (i + 1) out
        | some q => if out.contains q then explGo r ts bad f k (i + 1) out else if bad q || out.length == 400 then some none else explGo r ts bad f k (i + 1) (out ++ [q])
      else explGo r ts bad f (k + 1) 0 out
    else some (some out)
theorem expl_fuel (r : Nat) (ts : List Int) (bad : List Stp → Bool) : ∀ (f k i : Nat) (out : List (List Stp)), k ≤ out.length → out.length ≤ 400 → (400 - k) * (r + 1) + (r - i) < f → ∃ res, explGo r ts bad f k i out = some res
  | 0, _, _, _, _, _, h => by omega
  | f + 1, k, i, out, hk, hl, hf => by
    rw [explGo]
    by_cases h1 : k < out.length
    · rw [if_pos h1]
      by_cases h2 : i < r
      · rw [if_pos h2]
        cases hq : lowF r ts i (out.getD k []) with
        | none => exact expl_fuel r ts bad f k (i + 1) out hk hl (by omega)
        | some q =>
          show ∃ res, (if out.contains q then _ else _) = some res
          split
          · exact expl_fuel r ts bad f k (i + 1) out hk hl (by omega)
          · split
            · exact ⟨none, rfl⟩
            · rename_i h3
              simp only [Bool.or_eq_true, beq_iff_eq, not_or] at h3
              exact expl_fuel r ts bad f k (i + 1) (out ++ [q]) (by simp; omega) (by simp; omega) (by omega)
      · rw [if_neg h2]
        have h3 : (400 - k) * (r + 1) = (400 - (k + 1)) * (r + 1) + (r + 1) := by
          rw [show 400 - k = (400 - (k + 1)) + 1 by omega, Nat.add_mul, Nat.one_mul]
        exact expl_fuel r ts bad f (k + 1) 0 out (by omega) hl (by omega)
    · rw [if_neg h1]
      exact ⟨_, rfl⟩
/-- what is known of a search on its way -/
structure ExplInv (r : Nat) (ts w : List Int) (bad : List Stp → Bool) (k i : Nat) (out : List (List Stp)) : Prop where
  top : strP w ∈ out
  done : ∀ k', k' < k → ∀ j, j < r → ∀ q, lowF r ts j (out.getD k' []) = some q → q ∈ out
  part : ∀ j, j < i → j < r → ∀ q, lowF r ts j (out.getD k []) = some q → q ∈ out
  fine : ∀ p ∈ out, p = strP w ∨ bad p = false
  kl : k ≤ out.length
theorem getD_snoc {out : List (List Stp)} {q : List Stp} {k : Nat} (hk : k < out.length) : (out ++ [q]).getD k [] = out.getD k [] := by
  simp [List.getD_eq_getElem?_getD, List.getElem?_append_left hk]
theorem expl_closed {r : Nat} {ts w : List Int} {bad : List Stp → Bool} : ∀ (f k i : Nat) (out L : List (List Stp)), ExplInv r ts w bad k i out → explGo r ts bad f k i out = some (some L) →
    strP w ∈ L ∧ (∀ p ∈ L, ∀ j, j < r → ∀ q, lowF r ts j p = some q → q ∈ L) ∧ ∀ p ∈ L, p = strP w ∨ bad p = false
  | 0, _, _, _, _, _, h => by cases h
  | f + 1, k, i, out, L, hi, h => by
    rw [explGo] at h
    by_cases h1 : k < out.length
    · rw [if_pos h1] at h
      by_cases h2 : i < r
      · rw [if_pos h2] at h
        cases hq : lowF r ts i (out.getD k []) with
        | none =>
          rw [hq] at h
          refine expl_closed f k (i + 1) out L ⟨hi.top, hi.done, fun j hj hj2 q h5 => ?_, hi.fine, hi.kl⟩ h
          rcases Nat.lt_succ_iff_lt_or_eq.1 hj with h6 | rfl
          · exact hi.part j h6 hj2 q h5
          · rw [hq] at h5; cases h5
        | some q =>
          rw [hq] at h
          simp only at h
          split at h
          · rename_i h3
            refine expl_closed f k (i + 1) out L ⟨hi.top, hi.done, fun j hj hj2 q' h5 => ?_, hi.fine, hi.kl⟩ h
            rcases Nat.lt_succ_iff_lt_or_eq.1 hj with h6 | rfl
            · exact hi.part j h6 hj2 q' h5
            · rw [hq] at h5; cases h5
              simpa using h3
          · split at h
            · cases h
            · rename_i h3 h4
              simp only [Bool.or_eq_true, not_or, Bool.not_eq_true] at h4
              refine expl_closed f k (i + 1) (out ++ [q]) L ⟨by simp [hi.top], fun k' hk' j hj q' h5 => ?_, fun j hj hj2 q' h5 => ?_, fun p hp => ?_, by simp; have := hi.kl; omega⟩ h
              · rw [getD_snoc (by omega)] at h5
                exact List.mem_append_left _ (hi.done k' hk' j hj q' h5)
              · rw [getD_snoc h1] at h5
                rcases Nat.lt_succ_iff_lt_or_eq.1 hj with h6 | rfl
                · exact List.mem_append_left _ (hi.part j h6 hj2 q' h5)
                · rw [hq] at h5; cases h5
                  simp
              · rcases List.mem_append.1 hp with h6 | h6
                · exact hi.fine p h6
                · simp only [List.mem_singleton] at h6
                  subst h6
                  exact .inr h4.1
      · rw [if_neg h2] at h
        refine expl_closed f (k + 1) 0 out L ⟨hi.top, fun k' hk' j hj q h5 => ?_, fun j hj => by omega, hi.fine, by omega⟩ h
        rcases Nat.lt_succ_iff_lt_or_eq.1 hk' with h6 | rfl
        · exact hi.done k' h6 j hj q h5
        · exact hi.part j (by omega) hj q h5
    · rw [if_neg h1] at h
      cases h
      refine ⟨hi.top, fun p hp j hj q h5 => ?_, hi.fine⟩
      obtain ⟨k', hk', rfl⟩ := List.mem_iff_getElem.1 hp
      refine hi.done k' (by omega) j hj q ?_
      rw [List.getD_eq_getElem?_getD, List.getElem?_eq_getElem hk']
      exact h5
/-- a test of steepness -/
structure SteepT (r : Nat) (bad : List Stp → Bool) : Prop where
  le : ∀ q, bad q = false → ∀ s ∈ q, ∀ j, j < r → s.1.getD j 0 ≤ 12
  no : ∀ q, (∀ s ∈ q, s.1.length = r ∧ ∀ j, j < r → -12 ≤ s.1.getD j 0 ∧ s.1.getD j 0 ≤ 12) → bad q = false
theorem expl_within {r : Nat} {ts w : List Int} (hc : CorP r ts) (hw : HighW r w) {bad : List Stp → Bool} (hb : SteepT r bad) {f : Nat} {L : List (List Stp)} (h : explGo r ts bad f 0 0 [strP w] = some (some L)) :
    ∀ x, Orb r ts w x → ∀ j, j < r → -12 ≤ x.getD j 0 ∧ x.getD j 0 ≤ 12 := by
  have h0 : ExplInv r ts w bad 0 0 [strP w] := ⟨by simp, fun k' h => by omega, fun j h => by omega, fun p hp => .inl (by simpa using hp), by simp⟩
  obtain ⟨h1, h2, h3⟩ := expl_closed f 0 0 [strP w] L h0 h
  intro x hx
  refine orb_within hc hw (P := fun p => p ∈ L) ⟨h1, fun p i q hp hi hq => h2 p hp i hi q hq, fun p hp s hs j hj => ?_⟩ hx
  rcases h3 p hp with rfl | h4
  · simp only [strP, List.mem_singleton] at hs
    subst hs
    have := hw.bd j hj
    show w.getD j 0 ≤ 12
    omega
  · exact hb.le p h4 s hs j hj
theorem expl_alike {r : Nat} {ts w : List Int} (hlen : w.length = r) {b1 b2 : List Stp → Bool} (h1 : SteepT r b1) (h2 : SteepT r b2) (hin : ∀ x, Orb r ts w x → ∀ j, j < r → -12 ≤ x.getD j 0 ∧ x.getD j 0 ≤ 12) :
    ∀ (f k i : Nat) (out : List (List Stp)), (∀ p ∈ out, ∀ s ∈ p, Orb r ts w s.1) → explGo r ts b1 f k i out = explGo r ts b2 f k i out
  | 0, _, _, _, _ => rfl
  | f + 1, k, i, out, ho => by
    rw [explGo, explGo]
    by_cases hk : k < out.length
    · rw [if_pos hk, if_pos hk]
      by_cases hi : i < r
      · rw [if_pos hi, if_pos hi]
        have hm : out.getD k [] ∈ out := by
          rw [List.getD_eq_getElem?_getD, List.getElem?_eq_getElem hk]
          exact List.getElem_mem _
        cases hq : lowF r ts i (out.getD k []) with
        | none => exact expl_alike hlen h1 h2 hin f k (i + 1) out ho
        | some q =>
          have hqo := lowF_orb hi hq (ho _ hm)
          have hfl : ∀ s ∈ q, s.1.length = r ∧ ∀ j, j < r → -12 ≤ s.1.getD j 0 ∧ s.1.getD j 0 ≤ 12 := fun s hs => ⟨(hqo s hs).len hlen, hin _ (hqo s hs)⟩
          simp only
          rw [h1.no q hfl, h2.no q hfl]
          split
          · exact expl_alike hlen h1 h2 hin f k (i + 1) out ho
          · split
            · rfl
            · refine expl_alike hlen h1 h2 hin f k (i + 1) (out ++ [q]) fun p hp => ?_
              rcases List.mem_append.1 hp with h6 | h6
              · exact ho p h6
              · simp only [List.mem_singleton] at h6
                subst h6
                exact hqo
      · rw [if_neg hi, if_neg hi]
        exact expl_alike hlen h1 h2 hin f (k + 1) 0 out ho
    · rw [if_neg hk, if_neg hk]
/-- the paths of a weight -/
def explF (r : Nat) (ts : List Int) (bad : List Stp → Bool) (w : List Int) : Option (List (List Stp)) := (explGo r ts bad 3000 0 0 [strP w]).getD none
theorem expl_some {r : Nat} (hr : r ≤ 4) (ts : List Int) (bad : List Stp → Bool) (w : List Int) : explGo r ts bad 3000 0 0 [strP w] = some (explF r ts bad w) := by
  obtain ⟨res, h⟩ := expl_fuel r ts bad 3000 0 0 [strP w] (by simp) (by simp) (by
    have : 400 * (r + 1) ≤ 400 * 5 := Nat.mul_le_mul_left _ (by omega)
    omega)
  rw [explF, h]
  rfl
/-- THE LAW -/
theorem expl_same {r : Nat} {ts w : List Int} (hc : CorP r ts) (hw : HighW r w) {b1 b2 : List Stp → Bool} (h1 : SteepT r b1) (h2 : SteepT r b2) : explF r ts b1 w = explF r ts b2 w := by
  by_cases hin : ∀ x, Orb r ts w x → ∀ j, j < r → -12 ≤ x.getD j 0 ∧ x.getD j 0 ≤ 12
  · unfold explF
    rw [expl_alike hw.len h1 h2 hin 3000 0 0 [strP w] fun p hp s hs => by
      simp only [List.mem_singleton] at hp
      subst hp
      simp only [strP, List.mem_singleton] at hs
      subst hs
      exact .base]
  · have key : ∀ b, SteepT r b → explF r ts b w = none := by
      intro b hb
      cases he : explF r ts b w with
      | none => rfl
      | some L =>
        have h3 := expl_some hw.r4 ts b w
        rw [he] at h3
        exact absurd (expl_within hc hw hb h3) hin
    rw [key b1 h1, key b2 h2]
end Go.Proofs.YtdhlapppahkjeaaGreatDoor

namespace Go.Proofs.YtdhlapppahkjeaaGreatDoor
open Go.RowKit

/-- from here on the search ends with res -/
def Seeks (r : Nat) (ts : List Int) (bad : List Stp → Bool) (k i : Nat) (out : List (List Stp)) (res : Option (List (List Stp))) : Prop := ∃ f, explGo r ts bad f k i out = some res
section
variable {r : Nat} {ts : List Int} {bad : List Stp → Bool} {k i : Nat} {out : List (List Stp)} {res : Option (List (List Stp))}
theorem Seeks.done (h : Seeks r ts bad k i out res) (hk : ¬ k < out.length) : res = some out := by
  obtain ⟨f, h⟩ := h
  cases f with
  | zero => cases h
  | succ f => rw [explGo, if_neg hk] at h; cases h; rfl
theorem Seeks.next (h : Seeks r ts bad k i out res) (hk : k < out.length) (hi : ¬ i < r) : Seeks r ts bad (k + 1) 0 out res := by
  obtain ⟨f, h⟩ := h
  cases f with
  | zero => cases h
  | succ f => rw [explGo, if_pos hk, if_neg hi] at h; exact ⟨f, h⟩
theorem Seeks.none_ (h : Seeks r ts bad k i out res) (hk : k < out.length) (hi : i < r) (hq : lowF r ts i (out.getD k []) = none) : Seeks r ts bad k (i + 1) out res := by
  obtain ⟨f, h⟩ := h
  cases f with
  | zero => cases h
  | succ f => rw [explGo, if_pos hk, if_pos hi, hq] at h; exact ⟨f, h⟩
theorem Seeks.seen (h : Seeks r ts bad k i out res) (hk : k < out.length) (hi : i < r) {q : List Stp} (hq : lowF r ts i (out.getD k []) = some q) (hc : out.contains q = true) : Seeks r ts bad k (i + 1) out res := by
  obtain ⟨f, h⟩ := h
  cases f with
  | zero => cases h
  | succ f => rw [explGo, if_pos hk, if_pos hi, hq] at h; simp only [hc, if_true] at h; exact ⟨f, h⟩
theorem Seeks.given (h : Seeks r ts bad k i out res) (hk : k < out.length) (hi : i < r) {q : List Stp} (hq : lowF r ts i (out.getD k []) = some q) (hc : out.contains q = false) (hb : (bad q || out.length == 400) = true) : res = none := by
  obtain ⟨f, h⟩ := h
  cases f with
  | zero => cases h
  | succ f => rw [explGo, if_pos hk, if_pos hi, hq] at h; simp only [hc, hb, if_true, Bool.false_eq_true, if_false] at h; cases h; rfl
theorem Seeks.more (h : Seeks r ts bad k i out res) (hk : k < out.length) (hi : i < r) {q : List Stp} (hq : lowF r ts i (out.getD k []) = some q) (hc : out.contains q = false) (hb : (bad q || out.length == 400) = false) : Seeks r ts bad k (i + 1) (out ++ [q]) res := by
  obtain ⟨f, h⟩ := h
  cases f with
  | zero => cases h
  | succ f => rw [explGo, if_pos hk, if_pos hi, hq] at h; simp only [hc, hb, Bool.false_eq_true, if_false] at h; exact ⟨f, h⟩
end
theorem seeks_start {r : Nat} (hr : r ≤ 4) (ts : List Int) (bad : List Stp → Bool) (w : List Int) : Seeks r ts bad 0 0 [strP w] (explF r ts bad w) := ⟨3000, expl_some hr ts bad w⟩
end Go.Proofs.YtdhlapppahkjeaaGreatDoor

set_option linter.unusedVariables false
set_option linter.unusedSimpArgs false
namespace Go.Proofs.YtdhlapppahkjeaaGreatDoor
open Go.RowKit

def steepW (v : List Int) : Bool := v.any fun x => !insB x (-12) 12
def steepB (q : List Stp) : Bool := q.any fun s => steepW s.1
theorem steepB_false {q : List Stp} (h : ∀ k, k < q.length → ∀ j, j < (wayAt q k).length → insB ((wayAt q k).getD j 0) (-12) 12 = true) : steepB q = false := by
  rw [Bool.eq_false_iff]
  intro h1
  simp only [steepB, steepW, List.any_eq_true, Bool.not_eq_true'] at h1
  obtain ⟨s, hs, x, hx, h2⟩ := h1
  obtain ⟨k, hk, rfl⟩ := List.mem_iff_getElem.1 hs
  obtain ⟨j, hj, rfl⟩ := List.mem_iff_getElem.1 hx
  have e : wayAt q k = q[k].1 := by simp [wayAt, List.getD_eq_getElem?_getD, hk]
  have := h k hk j (by rw [e]; exact hj)
  rw [e, List.getD_eq_getElem?_getD, List.getElem?_eq_getElem hj, Option.getD_some, h2] at this
  cases this
theorem steepB_true {q : List Stp} {k j : Nat} (hk : k < q.length) (hj : j < (wayAt q k).length) (h : insB ((wayAt q k).getD j 0) (-12) 12 = false) : steepB q = true := by
  simp only [steepB, steepW, List.any_eq_true, Bool.not_eq_true']
  have e : wayAt q k = q[k].1 := by simp [wayAt, List.getD_eq_getElem?_getD, hk]
  rw [e] at hj h
  refine ⟨_, List.getElem_mem hk, _, List.getElem_mem hj, ?_⟩
  rwa [List.getD_eq_getElem?_getD, List.getElem?_eq_getElem hj, Option.getD_some] at h
set_option maxRecDepth 100000 in
set_option maxHeartbeats 4000000 in
theorem l9Steep_any (a : Option Addr) (n c : Nat) (q : List Stp) (w : World) (h : StepsAt w a n q) (hn : n ≤ 1000000) (hl : ∀ k, k < q.length → (wayAt q k).length ≤ 1000000) :
    Calls Tryz.prog 76 #[.slice a n c] w fun e w' => e = .returned (.bool (steepB q)) ∧ Ext w w' := by
  have HP := hidP h
  have HL := hidP h.len
  have HB := hidP hl
  clear h hl
  go_enter Tryz.func76, Tryz.ntmps76
  go_wp2
  go_loopw [3] (fun i wr => ∃ k : Nat, k ≤ n ∧ i = .int .i64 k ∧ Hid (∀ k', k' < k → ∀ j, j < (wayAt q k').length → insB ((wayAt q k').getD j 0) (-12) 12 = true) ∧ Hid (Ext w wr)) (fun i _ => n - (intOf i).toNat)
  case atStart => exact ⟨0, Nat.zero_le _, rfl, fun j h => by omega, Ext.refl _⟩
  case round =>
    obtain ⟨k, hk, rfl, HJ, HX⟩ := hrel
    by_cases hlt : k < n
    · obtain ⟨b, o, aV, cV, V, L, rfl, HV, HLn, hvl, _, hq⟩ := (HP.out.below HX.out).way k hlt
      have HQ := hidP hq
      have HVl : Hid (V.length ≤ 1000000) := by show _ ≤ _; rw [← HV.out]; exact HB.out k (by have := HL.out; omega)
      clear hq
      go_wp2
      go_loopw [4] (fun j wr' => ∃ m : Nat, m ≤ V.length ∧ j = .int .i64 m ∧ Hid (∀ j, j < m → insB (V.getD j 0) (-12) 12 = true) ∧ Hid (Ext wr wr')) (fun j _ => V.length - (intOf j).toNat)
      case atStart => exact ⟨0, Nat.zero_le _, rfl, fun j h => by omega, Ext.refl _⟩
      case round =>
        obtain ⟨m, hm, rfl, HM, HX2⟩ := hrel
        obtain ⟨q1, q2, q3⟩ := HQ.out _ HX2.out
        have hvl2 := HVl.out
        by_cases hlt2 : m < V.length
        · obtain ⟨b2, o2, rfl, hy⟩ := q3.one m hlt2
          have q4 := hy _ (Ext.refl _)
          clear q3 hy
          obtain ⟨X, hX⟩ : ∃ X, X = V.getD m 0 := ⟨_, rfl⟩
          rw [← hX] at q4
          have HXe := hidP hX
          clear hX
          cases hc : insB X (-12) 12
          · have HC := hidP hc
            have HR : Hid (steepB q = true) := steepB_true (k := k) (j := m) (by have := HL.out; omega) (by rw [HV.out]; exact hlt2) (by rw [HV.out, ← HXe.out]; exact hc)
            clear hc
            go_wp2_with fail
            refine (l1In_any _ _ _ _).mono ?_
            rintro e w2 ⟨rfl, rfl⟩
            rw [HC.out]
            clear HC
            go_wp2
            go_ret
            exact ⟨ret_bool HR.out.symm, HX.out.trans HX2.out⟩
          · have HC := hidP hc
            have HM2 : Hid (∀ j, j < m + 1 → insB (V.getD j 0) (-12) 12 = true) := by
              show ∀ j, _
              intro j hj
              rcases Nat.lt_succ_iff_lt_or_eq.1 hj with h3 | rfl
              · exact HM.out j h3
              · rw [← HXe.out]; exact hc
            clear hc
            go_wp2_with fail
            refine (l1In_any _ _ _ _).mono ?_
            rintro e w2 ⟨rfl, rfl⟩
            rw [HC.out]
            clear HC
            go_wp2
            go_roundw
            case rel => exact ⟨m + 1, by omega, by go_num, HM2, HX2⟩
            case measure => simp [intOf]; omega
        · obtain rfl : m = V.length := by omega
          have HJ2 : Hid (∀ k', k' < k + 1 → ∀ j, j < (wayAt q k').length → insB ((wayAt q k').getD j 0) (-12) 12 = true) := by
            show ∀ k', _
            intro k' hk'
            rcases Nat.lt_succ_iff_lt_or_eq.1 hk' with h3 | rfl
            · exact HJ.out k' h3
            · rw [HV.out]; exact HM.out
          have HX3 := hidP (HX.out.trans HX2.out)
          clear q3
          go_wp2
          go_roundw
          case rel => exact ⟨k + 1, by omega, by go_num, HJ2, HX3⟩
          case measure => simp [intOf]; omega
    · have HR : Hid (steepB q = false) := steepB_false fun k' hk' => HJ.out k' (by have := HL.out; omega)
      go_wp2
      go_ret
      exact ⟨ret_bool HR.out.symm, HX.out⟩
end Go.Proofs.YtdhlapppahkjeaaGreatDoor

namespace Go.Proofs.YtdhlapppahkjeaaGreatDoor
open Go.RowKit

def highB (r : Nat) (w : List Int) : Bool := decide (w.length = r) && w.all fun x => insB x 0 3
set_option maxHeartbeats 2000000 in
theorem l8Highest_any (R : Nat) (ta : Option Addr) (tn tc : Nat) (a : Option Addr) (n c : Nat) (W : List Int) (w : World) (h : IntsAt w a n W) (hn : n ≤ 9223372036854775807) (_hR : R ≤ 1000000) :
    Calls Tryz.prog 31 #[carV R ta tn tc, .slice a n c] w fun e w' => e = .returned (.bool (highB R W)) ∧ Ext w w' := by
  have hX := Ext.alloc w (.cells #[.int .i64 R, .slice ta tn tc] 29)
  have G := hidP (h.below hX)
  have HX := hidP hX
  have L := hidP h.len
  obtain ⟨f0, f1⟩ := CarAt.new w _ rfl (R : Int) ta tn tc 29
  clear hX h
  go_enter Tryz.func31, Tryz.ntmps31
  by_cases hnr : n = R
  · have hne : ((n : Int) != (R : Int)) = false := by simp [hnr]
    have HN := hidP hnr
    clear hnr
    go_wp2
    go_loopw [5] (fun i wr => ∃ k : Nat, k ≤ n ∧ Hid (∀ j, j < k → insB (W.getD j 0) 0 3 = true) ∧ i = .int .i64 k ∧ wr = w.alloc (.cells #[.int .i64 R, .slice ta tn tc] 29)) (fun i _ => n - (intOf i).toNat)
    case atStart => exact ⟨0, Nat.zero_le _, fun j h => by omega, rfl, rfl⟩
    case round =>
      obtain ⟨k, hk, HJ, rfl, rfl⟩ := hrel
      by_cases hlt : k < n
      · obtain ⟨b, o, rfl, q⟩ := G.out.get k hlt
        cases hin : insB (W.getD k 0) 0 3
        · have HB : Hid (highB R W = false) := by
            show _ = _
            have hkl : k < W.length := by have := L.out; omega
            unfold highB
            rw [Bool.and_eq_false_iff]
            right
            rw [List.all_eq_false]
            refine ⟨W.getD k 0, ?_, by rw [hin]; simp⟩
            rw [List.getD_eq_getElem?_getD, List.getElem?_eq_getElem hkl]
            exact List.getElem_mem hkl
          have hin' : insB (W[k]?.getD 0) 0 3 = false := by simpa [List.getD_eq_getElem?_getD] using hin
          clear hin
          go_wp2_with (go_at_call 57; refine (l1In_any _ _ _ _).mono ?_; rintro e w' ⟨rfl, rfl⟩)
          go_ret
          exact ⟨ret_bool HB.out.symm, HX.out⟩
        · have hin' : insB (W[k]?.getD 0) 0 3 = true := by simpa [List.getD_eq_getElem?_getD] using hin
          have HI := hidP hin
          clear hin
          go_wp2_with (go_at_call 57; refine (l1In_any _ _ _ _).mono ?_; rintro e w' ⟨rfl, rfl⟩)
          go_roundw
          case rel =>
            refine ⟨k + 1, by omega, fun j hj => ?_, by go_num, trivial⟩
            rcases Nat.lt_succ_iff_lt_or_eq.1 hj with h3 | rfl
            · exact HJ.out j h3
            · exact HI.out
          case measure => simp [intOf]; omega
      · have HB : Hid (highB R W = true) := by
          show _ = _
          unfold highB
          rw [Bool.and_eq_true, decide_eq_true_eq, List.all_eq_true]
          refine ⟨by have := L.out; have := HN.out; omega, fun x hx => ?_⟩
          obtain ⟨j, hj, rfl⟩ := List.mem_iff_getElem.1 hx
          have := HJ.out j (by have := L.out; omega)
          rwa [List.getD_eq_getElem?_getD, List.getElem?_eq_getElem hj] at this
        go_wp2
        go_ret
        exact ⟨ret_bool HB.out.symm, HX.out⟩
  · have hne : ((n : Int) != (R : Int)) = true := bne_iff_ne.2 (by omega)
    have HB : Hid (highB R W = false) := by
      show _ = _
      unfold highB
      rw [Bool.and_eq_false_iff]
      left
      rw [decide_eq_false_iff_not]
      have := L.out
      omega
    go_wp2
    go_ret
    exact ⟨ret_bool HB.out.symm, HX.out⟩
end Go.Proofs.YtdhlapppahkjeaaGreatDoor

set_option linter.unusedVariables false
set_option linter.unusedSimpArgs false
namespace Go.Proofs.YtdhlapppahkjeaaGreatDoor
open Go.RowKit

theorem isHighest1_any (x : Int) (w : World) : Calls Tryz.prog 65 #[.int .i64 x] w fun e w' => e = .returned (.bool (!insB x 0 3)) ∧ w = w' := by
  go_enter Tryz.func65, Tryz.ntmps65
  go_wp2_with (go_at_call 66; refine (inside_any _ _ _ _).mono ?_; rintro e w' ⟨rfl, rfl⟩)
  go_ret
  exact ⟨rfl, rfl⟩
theorem callFunc_isHighest1 (args : Array Value) (w : World) : Sem.run Tryz.prog (callFunc 65 args) w = .ok (.enter 65 args) w := by
  kernel_rfl
set_option maxHeartbeats 1000000 in
theorem isHighest_any (r : Nat) (ta : Option Addr) (tn tc : Nat) (a : Option Addr) (n c : Nat) (xs : List Int) (w : World) (h : IntsAt w a n xs) (_hn : n ≤ 9223372036854775807) (hr : r ≤ 1000000) :
    Calls Tryz.prog 37 #[carV r ta tn tc, .slice a n c] w fun e w' => e = .returned (.bool (highB r xs)) ∧ Ext w w' := by
  have hX := Ext.alloc w (.cells #[.int .i64 r, .slice ta tn tc] 29)
  have HX := hidP hX
  have L := hidP h.len
  have HF : Hid (highB r xs = (decide (xs.length = r) && !(xs.any fun x => !insB x 0 3))) := by
    show _ = _
    unfold highB
    rw [List.all_eq_not_any_not]
  have HI := hidP (h.below hX)
  clear h hX
  by_cases hnr : n = r
  · have hne : ((n : Int) == (r : Int)) = true := by simp [hnr]
    have HC := hidP (containsFunc_any 65 #[] (fun x => !insB x 0 3) a n c xs _ HI.out (by omega) callFunc_isHighest1 (fun x => isHighest1_any x _))
    have HR : Hid (highB r xs = !(xs.any fun x => !insB x 0 3)) := by
      show _ = _
      rw [HF.out, decide_eq_true (by have := L.out; omega), Bool.true_and]
    generalize (xs.any fun x => !insB x 0 3) = B at *
    clear hnr
    go_enter Tryz.func37, Tryz.ntmps37
    go_wp2_with (go_at_call 64; refine HC.out.mono ?_; rintro e w' ⟨rfl, rfl⟩)
    go_ret
    exact ⟨ret_bool HR.out.symm, HX.out⟩
  · have hne : ((n : Int) == (r : Int)) = false := beq_eq_false_iff_ne.2 (by omega)
    have HR : Hid (highB r xs = false) := by
      show _ = _
      rw [HF.out, decide_eq_false (by have := L.out; omega), Bool.false_and]
    go_enter Tryz.func37, Tryz.ntmps37
    go_wp2
    go_ret
    exact ⟨ret_bool HR.out.symm, HX.out⟩
theorem maxI_any (a : Option Addr) (n c : Nat) (xs : List Int) (w : World) (h : IntsAt w a n xs) (h0 : 0 < n) (hn : n ≤ 1000000000000) :
    Calls Tryz.prog 53 #[.slice a n c] w fun e w' => e = .returned (.int .i64 (Lib.maxOf xs)) ∧ w' = w := by
  have hl := h.len
  obtain ⟨b, o, rfl, _⟩ := h.get 0 h0
  refine (Tryz.slices_Max_int b o n c xs w h0 (by omega) (by omega) h.cells).mono fun e w' ⟨he, hw⟩ => ⟨?_, hw⟩
  rw [he, List.take_of_length_le (by omega)]
end Go.Proofs.YtdhlapppahkjeaaGreatDoor

namespace Go.Proofs.YtdhlapppahkjeaaGreatDoor
open Go.RowKit

theorem foldl_max_ge : ∀ (l : List Int) (a : Int), a ≤ l.foldl max a ∧ ∀ x ∈ l, x ≤ l.foldl max a
  | [], a => ⟨Int.le_refl _, fun x h => by cases h⟩
  | y :: l, a => by
    obtain ⟨h1, h2⟩ := foldl_max_ge l (max a y)
    simp only [List.foldl_cons]
    refine ⟨Int.le_trans (Int.le_max_left a y) h1, fun x hx => ?_⟩
    rcases List.mem_cons.1 hx with h | h
    · subst h
      exact Int.le_trans (Int.le_max_right a x) h1
    · exact h2 x h
theorem foldl_max_le {b : Int} : ∀ (l : List Int) (a : Int), a ≤ b → (∀ x ∈ l, x ≤ b) → l.foldl max a ≤ b
  | [], a, h, _ => h
  | y :: l, a, h, hl => by
    simp only [List.foldl_cons]
    exact foldl_max_le l _ (Int.max_le.2 ⟨h, hl y (by simp)⟩) fun x hx => hl x (by simp [hx])
theorem maxOf_le {b : Int} {l : List Int} (h0 : l ≠ []) (h : ∀ x ∈ l, x ≤ b) : Lib.maxOf l ≤ b := by
  unfold Lib.maxOf
  cases l with
  | nil => exact absurd rfl h0
  | cons y l => exact foldl_max_le _ _ (h y (by simp)) h
theorem le_maxOf {l : List Int} {x : Int} (h : x ∈ l) : x ≤ Lib.maxOf l := (foldl_max_ge l _).2 x h
theorem getDI_mem {l : List Int} {j : Nat} (h : j < l.length) : l.getD j 0 ∈ l := by
  rw [List.getD_eq_getElem?_getD, List.getElem?_eq_getElem h]
  exact List.getElem_mem h
theorem getDI_of {l : List Int} {x : Int} (h : x ∈ l) : ∃ j, j < l.length ∧ l.getD j 0 = x := by
  obtain ⟨j, hj, rfl⟩ := List.mem_iff_getElem.1 h
  exact ⟨j, hj, by rw [List.getD_eq_getElem?_getD, List.getElem?_eq_getElem hj]; rfl⟩
/-- the program's test -/
def bigB (q : List Stp) : Bool := q.any fun s => decide (12 < Lib.maxOf s.1)
theorem steepT_steep (r : Nat) : SteepT r steepB := by
  refine ⟨fun q h s hs j _ => ?_, fun q h => ?_⟩
  · by_cases hj : j < s.1.length
    · rw [Bool.eq_false_iff] at h
      apply Classical.byContradiction
      intro h1
      apply h
      simp only [steepB, steepW, List.any_eq_true, Bool.not_eq_true']
      exact ⟨s, hs, _, getDI_mem hj, insB_false.2 (by omega)⟩
    · rw [List.getD_eq_getElem?_getD, List.getElem?_eq_none (by omega)]
      decide
  · rw [Bool.eq_false_iff]
    intro h1
    simp only [steepB, steepW, List.any_eq_true, Bool.not_eq_true'] at h1
    obtain ⟨s, hs, x, hx, h2⟩ := h1
    obtain ⟨hl, hb⟩ := h s hs
    obtain ⟨j, hj, rfl⟩ := getDI_of hx
    exact insB_false.1 h2 (hb j (by omega))
theorem steepT_big {r : Nat} (h1 : 1 ≤ r) : SteepT r bigB := by
  refine ⟨fun q h s hs j _ => ?_, fun q h => ?_⟩
  · by_cases hj : j < s.1.length
    · rw [Bool.eq_false_iff] at h
      apply Classical.byContradiction
      intro h1
      apply h
      simp only [bigB, List.any_eq_true, decide_eq_true_eq]
      have := le_maxOf (getDI_mem hj)
      exact ⟨s, hs, by omega⟩
    · rw [List.getD_eq_getElem?_getD, List.getElem?_eq_none (by omega)]
      decide
  · rw [Bool.eq_false_iff]
    intro h2
    simp only [bigB, List.any_eq_true, decide_eq_true_eq] at h2
    obtain ⟨s, hs, h3⟩ := h2
    obtain ⟨hl, hb⟩ := h s hs
    have h4 : s.1 ≠ [] := fun e => by rw [e] at hl; simp at hl; omega
    have := maxOf_le (b := 12) h4 fun x hx => by
      obtain ⟨j, hj, rfl⟩ := getDI_of hx
      exact (hb j (by omega)).2
    omega
theorem highB_iff {r : Nat} {w : List Int} (h : highB r w = true) : w.length = r ∧ ∀ j, j < r → 0 ≤ w.getD j 0 ∧ w.getD j 0 ≤ 3 := by
  simp only [highB, Bool.and_eq_true, decide_eq_true_eq, List.all_eq_true, insB_true] at h
  exact ⟨h.1, fun j hj => h.2 _ (getDI_mem (by omega))⟩
theorem highW_of {r : Nat} (h4 : r ≤ 4) {w : List Int} (h : highB r w = true) : HighW r w := ⟨(highB_iff h).1, h4, (highB_iff h).2⟩
theorem wayB_high {r : Nat} {w : List Int} (h : highB r w = true) : wayB r w = true := by
  obtain ⟨h1, h2⟩ := highB_iff h
  exact wayB_iff.2 ⟨h1, fun j hj => by have := h2 j hj; omega⟩
theorem paths_same {r : Nat} {ts w : List Int} (hT : typeB r ts = true) (hh : highB r w = true) : explF r ts bigB w = explF r ts steepB w := by
  have h1 := typeB_rank hT
  exact expl_same (cor_of_type hT) (highW_of (by omega) hh) (steepT_big (by omega)) (steepT_steep r)
/-- what PathsOf gives -/
def pathsR (r : Int) (ts w : List Int) : Option (List (List Stp)) := if typeB r ts && highB r.toNat w then explF r.toNat ts steepB w else none
end Go.Proofs.YtdhlapppahkjeaaGreatDoor

namespace Go.Proofs.YtdhlapppahkjeaaGreatDoor
open Go.RowKit

theorem mem_getDL {L : List (List Stp)} {k : Nat} (h : k < L.length) : L.getD k [] ∈ L := by
  rw [List.getD_eq_getElem?_getD, List.getElem?_eq_getElem h]
  exact List.getElem_mem _
/-- how many marks the first k paths hold -/
def mkL (L : List (List Stp)) : Nat → Nat
  | 0 => 0
  | k + 1 => mkL L k + mkAt (L.getD k []) (L.getD k []).length
theorem mkAt_rows {us : List Stp} {m : Nat} (h : ∀ i, i < us.length → (us.getD i ([], 0)).1.length ≤ m) : ∀ k, k ≤ us.length → mkAt us k ≤ k * (m + 1)
  | 0, _ => by simp [mkAt]
  | k + 1, hk => by
    have h1 := mkAt_rows h k (by omega)
    have h2 := h k (by omega)
    show mkAt us k + ((us.getD k ([], 0)).1.length + 1) ≤ _
    rw [Nat.add_mul, Nat.one_mul]
    omega
theorem mkL_bound {L : List (List Stp)} {m : Nat} (h : ∀ p ∈ L, mkAt p p.length ≤ m) : ∀ k, k ≤ L.length → mkL L k ≤ k * m
  | 0, _ => by simp [mkL]
  | k + 1, hk => by
    have h1 := mkL_bound h k (by omega)
    have h2 := h (L.getD k []) (by rw [List.getD_eq_getElem?_getD, List.getElem?_eq_getElem (by omega : k < L.length)]; exact List.getElem_mem _)
    show mkL L k + mkAt (L.getD k []) (L.getD k []).length ≤ _
    rw [Nat.add_mul, Nat.one_mul]
    omega
/-- the search keeps to paths, and to 400 of them -/
theorem expl_paths {r : Nat} {ts : List Int} {bad : List Stp → Bool} : ∀ (f k i : Nat) (out L : List (List Stp)), (∀ p ∈ out, pathB r p = true) → out.length ≤ 400 → explGo r ts bad f k i out = some (some L) → (∀ p ∈ L, pathB r p = true) ∧ L.length ≤ 400
  | 0, _, _, _, _, _, _, h => by cases h
  | f + 1, k, i, out, L, ho, hl, h => by
    rw [explGo] at h
    by_cases h1 : k < out.length
    · rw [if_pos h1] at h
      by_cases h2 : i < r
      · rw [if_pos h2] at h
        cases hq : lowF r ts i (out.getD k []) with
        | none =>
          rw [hq] at h
          exact expl_paths f k (i + 1) out L ho hl h
        | some q =>
          rw [hq] at h
          simp only at h
          split at h
          · exact expl_paths f k (i + 1) out L ho hl h
          · split at h
            · cases h
            · rename_i h3 h4
              simp only [Bool.or_eq_true, not_or, Bool.not_eq_true, beq_eq_false_iff_ne, ne_eq] at h4
              refine expl_paths f k (i + 1) (out ++ [q]) L (fun p hp => ?_) (by simp; omega) h
              rcases List.mem_append.1 hp with h6 | h6
              · exact ho p h6
              · simp only [List.mem_singleton] at h6
                subst h6
                exact lowS_path hq
      · rw [if_neg h2] at h
        exact expl_paths f (k + 1) 0 out L ho hl h
    · rw [if_neg h1] at h
      cases h
      exact ⟨ho, hl⟩
/-- an owned list of paths, or none, within bounds -/
structure OwnL (w : World) (B U : Nat) (a : Option Addr) (n c : Nat) (ps : List PEl) : Prop where
  own : (a = none ∧ n = 0 ∧ c = 0 ∧ ps = []) ∨ OwnPs w B a n c ps
  hiE : ∀ e ∈ ps, e.hi ≤ U
  hiA : ∀ b o, a = some ⟨b, o, none⟩ → b < U
section
variable {w w' : World} {B U n c : Nat} {a : Option Addr} {ps : List PEl}
theorem OwnPs.ownL (h : OwnPs w B a n c ps) : OwnL w B w.heap.size a n c ps := by
  obtain ⟨g, e, _, h2, _⟩ := h.form
  exact ⟨.inr h, fun e he => (h.each e he).top, fun b o e2 => by rw [e] at e2; cases e2; exact h2⟩
theorem OwnL.at_ (h : OwnL w B U a n c ps) : PathsAt w a n (ps.map PEl.q) := by
  rcases h.own with ⟨_, rfl, _, rfl⟩ | h2
  · exact ⟨rfl, fun k hk => absurd hk (Nat.not_lt_zero _)⟩
  · exact h2.at_
theorem OwnL.base {B' : Nat} (h : OwnL w B U a n c ps) (hB : B' ≤ B) : OwnL w B' U a n c ps := ⟨h.own.imp id fun h2 => h2.base hB, h.hiE, h.hiA⟩
end
/-- a function that gives the paths L, in memory of its own -/
def PathsL (f : FuncId) (args : Array Value) (w : World) (L : List (List Stp)) : Prop :=
  Calls Tryz.prog f args w fun e w' => ∃ a n c ps, e = .returned (.slice a n c) ∧ OwnL w' w.heap.size w'.heap.size a n c ps ∧ ps.map PEl.q = L ∧ Ext w w'
theorem ownL_none (w : World) (B U : Nat) : OwnL w B U none 0 0 [] := ⟨.inl ⟨rfl, rfl, rfl, rfl⟩, (fun e he => absurd he (by simp)), (fun b o e => by cases e)⟩
def pathsJ (r : Int) (ts w : List Int) : List (List Stp) := (pathsR r ts w).getD []
theorem paths_bound {r : Nat} {L : List (List Stp)} (h4 : r ≤ 4) (h : ∀ p ∈ L, pathB r p = true) (hl : L.length ≤ 400) : L.length ≤ 400 ∧ mkL L L.length ≤ 10000000 ∧ ∀ p ∈ L, p.length ≤ 1000000 := by
  have h1 : ∀ p ∈ L, mkAt p p.length ≤ 300 := fun p hp => by
    have hp := pathB_iff.1 (h p hp)
    have h2 := mkAt_rows (us := p) (m := 4) (fun i hi => by
      have := (hp.way i hi).1
      unfold wayAt at this
      omega) p.length (Nat.le_refl _)
    have := hp.len
    omega
  have h2 := mkL_bound h1 L.length (Nat.le_refl _)
  refine ⟨hl, by omega, fun p hp => ?_⟩
  have := (pathB_iff.1 (h p hp)).len
  omega
theorem pathsJ_small (r : Int) (ts w : List Int) : (pathsJ r ts w).length ≤ 400 ∧ mkL (pathsJ r ts w) (pathsJ r ts w).length ≤ 10000000 ∧ ∀ p ∈ pathsJ r ts w, p.length ≤ 1000000 := by
  unfold pathsJ pathsR
  split
  · rename_i h
    simp only [Bool.and_eq_true] at h
    have h1 := typeB_rank h.1
    have h4 : r.toNat ≤ 4 := by omega
    have hb := wayB_high h.2
    cases he : explF r.toNat ts steepB w with
    | none => simp [mkL]
    | some L =>
      have h3 := expl_some h4 ts steepB w
      rw [he] at h3
      obtain ⟨h5, h6⟩ := expl_paths 3000 0 0 [strP w] L (fun p hp => by
        simp only [List.mem_singleton] at hp
        subst hp
        simp [strP, pathB, stepB, wayAt, lenAt, timeAt, hb, List.range_succ]) (by simp) h3
      exact paths_bound h4 h5 h6
  · simp [mkL]
end Go.Proofs.YtdhlapppahkjeaaGreatDoor

namespace Go.Proofs.YtdhlapppahkjeaaGreatDoor
open Go.RowKit

theorem end_key {r : Nat} {p : List Stp} (h4 : r ≤ 4) (hp : PathP r p) (ho : (endR r p).1 = true) : (endR r p).2.length = r ∧ ∀ j, j < r → -3000 ≤ (endR r p).2.getD j 0 ∧ (endR r p).2.getD j 0 ≤ 3000 := by
  unfold endR at ho ⊢
  split
  · refine ⟨by simp [endV], fun j hj => ?_⟩
    have h1 : ((endV r p p.length).map fun x => x.tdiv 27720).getD j 0 = (htAt j p p.length).tdiv 27720 := by
      rw [← endV_get r p p.length j hj]
      have h2 : j < (endV r p p.length).length := by rw [endV_length]; exact hj
      simp [List.getD_eq_getElem?_getD, h2]
    rw [h1]
    exact tdiv_small (by have := ht_small hp hj p.length (Nat.le_refl _); omega)
  · rename_i h
    rw [if_neg h] at ho
    cases ho
/-- the terms of what is counted, in order -/
def pchT (B : List Tm) : List Tm := joinT [] 1 B
theorem pchT_eq {B : List Tm} (hB : ∀ p ∈ B, 0 < p.2) : pchT B = putsT [] 1 B := by
  unfold pchT joinT
  refine clean_self fun p hp => ?_
  have := puts_pos B (o := cleanT []) (fun q hq => by simp [cleanT] at hq) hB p hp
  omega
theorem pchT_tells (B : List Tm) : Ordered Above (pchT B) ∧ Tells (cntSum B) (pchT B) := by
  have := joinT_tells (a := []) (b := B) 1 List.Pairwise.nil
  rwa [List.nil_append, timesT_one] at this
theorem pchT_length (B : List Tm) : (pchT B).length ≤ B.length := by
  have h1 := joinT_length [] 1 B
  unfold pchT
  simp only [List.length_nil] at h1
  omega
theorem ones_pos {B : List Tm} (h : ∀ p ∈ B, p.2 = 1) : ∀ p ∈ B, 0 < p.2 := fun p hp => by have := h p hp; omega
theorem ones_bound {B : List Tm} (h : ∀ p ∈ B, p.2 = 1) (x : List Int) : 0 ≤ cntSum B x ∧ cntSum B x ≤ B.length := by
  have := cntSum_bound (M := 1) (by omega) (l := B) x fun p hp => by have := h p hp; omega
  omega
theorem puts_snoc (o : List Tm) (B : List Tm) (x : List Int) : putsT o 1 (B ++ [(x, 1)]) = putT (putsT o 1 B) x 1 := by
  unfold putsT
  rw [List.foldl_append]
  rfl
theorem puts_ones {B : List Tm} (h : ∀ p ∈ B, p.2 = 1) {i : Nat} (hi : i < (putsT [] 1 B).length) : 0 ≤ lenAt (putsT [] 1 B) i ∧ lenAt (putsT [] 1 B) i ≤ B.length := by
  have h1 := (pchT_tells B).2 (putsT [] 1 B)[i].1 (putsT [] 1 B)[i].2
  rw [pchT_eq (ones_pos h)] at h1
  have h2 := (h1.1 (List.getElem_mem hi)).1
  have h3 := ones_bound h (putsT [] 1 B)[i].1
  have h4 : lenAt (putsT [] 1 B) i = (putsT [] 1 B)[i].2 := by simp [lenAt, List.getD_eq_getElem?_getD, hi]
  omega
theorem puts_few {B : List Tm} (h : ∀ p ∈ B, p.2 = 1) : (putsT [] 1 B).length ≤ B.length := by
  have := pchT_length B
  rwa [pchT_eq (ones_pos h)] at this
theorem pathsJ_type {r : Int} {ts W : List Int} (h : pathsJ r ts W ≠ []) : typeB r ts = true := by
  unfold pathsJ pathsR at h
  cases hT : typeB r ts with
  | true => rfl
  | false => rw [hT] at h; exact absurd rfl h
theorem pathsJ_paths {r : Int} {ts W : List Int} : ∀ p ∈ pathsJ r ts W, pathB r.toNat p = true := by
  unfold pathsJ pathsR
  split
  · rename_i h
    simp only [Bool.and_eq_true] at h
    have h1 := typeB_rank h.1
    have h4 : r.toNat ≤ 4 := by omega
    have hb := wayB_high h.2
    cases he : explF r.toNat ts steepB W with
    | none => simp
    | some L =>
      have h3 := expl_some h4 ts steepB W
      rw [he] at h3
      obtain ⟨h5, _⟩ := expl_paths 3000 0 0 [strP W] L (fun p hp => by
        simp only [List.mem_singleton] at hp
        subst hp
        simp [strP, pathB, stepB, wayAt, lenAt, timeAt, hb, List.range_succ]) (by simp) h3
      exact h5
  · simp
end Go.Proofs.YtdhlapppahkjeaaGreatDoor

namespace Go.Proofs.YtdhlapppahkjeaaGreatDoor
open Go.RowKit

def straight (w : List Int) : List Stp := [(w, 27720)]
end Go.Proofs.YtdhlapppahkjeaaGreatDoor

namespace Go.Proofs.YtdhlapppahkjeaaGreatDoor
open Go.RowKit

def optS (x : Option (List Stp)) : List Stp := x.getD []
theorem optJ_eq (x : Option (List Stp)) : optJ x = (x.isSome, optS x) := by cases x <;> rfl
theorem OwnK.single {α : Type} (K : Knd α) (w : World) (B : Nat) (h1 : Hdr) (x1 : α) (hi : OwnI w B h1.1 (K.ints x1).length h1.2 (K.ints x1)) (hB : B ≤ w.heap.size) :
    OwnK K (w.alloc (.cells (K.cells h1.1 h1.2 x1).toArray K.E)) B (w.alloc (.cells (K.cells h1.1 h1.2 x1).toArray K.E)).heap.size (some ⟨w.heap.size, 0, none⟩) 1 1 [h1] [x1] := by
  have hrow := World.ownsRow_lit (e := K.E) (size := K.size) (base := B) w (K.cells h1.1 h1.2 x1).toArray 1 hB (by unfold maxLen; omega) (by simp [K.len])
  refine ⟨by simpa [Knd.all] using hrow, rfl, rfl, fun i h => ?_, fun i j h1 h2 h3 => by omega, fun i h b o e => ?_, fun b o e => ?_⟩
  · obtain rfl : i = 0 := by omega
    exact hi.below (Ext.alloc w _)
  · obtain rfl : i = 0 := by omega
    have := (hi.at_base b o e).2
    simp
    omega
  · simp only [Option.some.injEq, Addr.mk.injEq, and_true] at e
    simp [← e.1]
set_option maxHeartbeats 2000000 in
theorem sStraight_any (R : Nat) (ta : Option Addr) (tn tc : Nat) (ts : List Int) (aw : Option Addr) (cw : Nat) (W : List Int) (w : World) (hc : IntsAt w ta tn ts) (hcn : tn ≤ 9223372036854775807) (hT : typeB R ts = true) (hw : IntsAt w aw R W) (hnil : aw = none → cw = 0) (hb : wayB R W = true) :
    Calls Tryz.prog 33 #[carV R ta tn tc, .slice aw R cw] w fun e w' => ∃ a hs, e = .returned (.slice a 1 1) ∧ OwnK stepK w' w.heap.size w'.heap.size a 1 1 hs (straight W) ∧ Ext w w' := by
  have hx1 := Ext.alloc w (.cells #[.int .i64 R, .slice ta tn tc] 29)
  have HC := hidP (fun w' (hx : Ext (w.alloc (.cells #[.int .i64 R, .slice ta tn tc] 29)) w') => (CarAt.new w _ rfl (R : Int) ta tn tc 29).below hx)
  have HX1 := hidP hx1
  have hrk := typeB_rank hT
  have hR4 : R ≤ 4 := by omega
  have HIs := hidP (fun w' (h : Ext w w') => sIsCartan_any (R : Int) ta tn tc ts w' (hc.below h) hcn)
  have HLa := hidP (fun w' (h : Ext w w') => l5Lattice_any R ta tn tc aw R cw W w' (hw.below h) (by omega) (by omega))
  have HCl := hidP (fun w' (h : Ext w w') => l1Ints_any aw R cw W w' (hw.below h) hnil (by omega))
  rw [hT] at HIs
  rw [hb] at HLa
  have HWl := hidP hw.len
  clear hc hT hw hb hx1 hrk hnil
  obtain ⟨w1, hw1⟩ : ∃ w1, w1 = w.alloc (.cells #[.int .i64 R, .slice ta tn tc] 29) := ⟨_, rfl⟩
  rw [← hw1] at HC HX1
  obtain ⟨y0, y1⟩ := HC.out w1 (Ext.refl _)
  go_enter Tryz.func33, Tryz.ntmps33
  go_wp2_with fail
  rw [← hw1]
  clear hw1
  refine (HIs.out _ HX1.out).mono ?_
  rintro e w2 ⟨rfl, hx2⟩
  obtain ⟨z0, z1⟩ := HC.out w2 hx2
  clear y0 y1
  go_wp2_with fail
  refine (HLa.out _ (HX1.out.trans hx2)).mono ?_
  rintro e w3 ⟨rfl, hx3⟩
  have HX3 := hidP (HX1.out.trans (hx2.trans hx3))
  clear hx2 hx3 z0 z1
  go_wp2_with fail
  refine (HCl.out _ HX3.out).mono ?_
  rintro e w4 ⟨a4, c4, rfl, ho4, hx4⟩
  have hk := OwnK.single stepK w4 w.heap.size (a4, c4) (W, 27720) (by show OwnI _ _ _ W.length _ _; rw [HWl.out]; exact ho4.base HX3.out.size) (HX3.out.trans hx4).size
  have he : (stepK.cells a4 c4 (W, 27720)).toArray = #[.slice a4 R c4, .int .i64 27720] := by show #[Value.slice a4 W.length c4, _] = _; rw [HWl.out]
  rw [he] at hk
  have HK := hidP hk
  have HX4 := hidP ((HX3.out.trans hx4).trans (Ext.alloc w4 (.cells #[.slice a4 R c4, .int .i64 27720] 73)))
  clear hk he ho4 hx4
  go_wp2
  go_ret
  exact ⟨_, _, rfl, HK.out, HX4.out⟩
set_option maxHeartbeats 2000000 in
theorem straight_any (R : Nat) (ta : Option Addr) (tn tc : Nat) (ts : List Int) (aw : Option Addr) (cw : Nat) (W : List Int) (w : World) (hc : IntsAt w ta tn ts) (hcn : tn ≤ 9223372036854775807) (hT : typeB R ts = true) (hw : IntsAt w aw R W) (hnil : aw = none → cw = 0) (hb : wayB R W = true) (hm : MaxL w) :
    Calls Tryz.prog 39 #[carV R ta tn tc, .slice aw R cw] w fun e w' => ∃ a hs, e = .returned (.slice a 1 1) ∧ OwnK stepK w' w.heap.size w'.heap.size a 1 1 hs (straight W) ∧ Ext w w' := by
  have hx1 := Ext.alloc w (.cells #[.int .i64 R, .slice ta tn tc] 29)
  have HC := hidP (fun w' (hx : Ext (w.alloc (.cells #[.int .i64 R, .slice ta tn tc] 29)) w') => (CarAt.new w _ rfl (R : Int) ta tn tc 29).below hx)
  have HX1 := hidP hx1
  have hrk := typeB_rank hT
  have hR4 : R ≤ 4 := by omega
  have HIs := hidP (fun w' (h : Ext w w') => isCartan_any (R : Int) ta tn tc ts w' (hc.below h) hcn (hm.below h))
  have HLa := hidP (fun w' (h : Ext w w') => isWeight_any R ta tn tc aw R cw W w' (hw.below h) (by omega) (by omega))
  have HCl := hidP (fun w' (h : Ext w w') => clone_any aw R cw W w' (hw.below h) hnil (by omega))
  rw [hT] at HIs
  rw [hb] at HLa
  have HWl := hidP hw.len
  clear hc hT hw hb hx1 hrk hnil
  obtain ⟨w1, hw1⟩ : ∃ w1, w1 = w.alloc (.cells #[.int .i64 R, .slice ta tn tc] 29) := ⟨_, rfl⟩
  rw [← hw1] at HC HX1
  obtain ⟨y0, y1⟩ := HC.out w1 (Ext.refl _)
  go_enter Tryz.func39, Tryz.ntmps39
  go_wp2_with fail
  rw [← hw1]
  clear hw1
  refine (HIs.out _ HX1.out).mono ?_
  rintro e w2 ⟨rfl, hx2⟩
  obtain ⟨z0, z1⟩ := HC.out w2 hx2
  clear y0 y1
  go_wp2_with fail
  refine (HLa.out _ (HX1.out.trans hx2)).mono ?_
  rintro e w3 ⟨rfl, hx3⟩
  have HX3 := hidP (HX1.out.trans (hx2.trans hx3))
  clear hx2 hx3 z0 z1
  go_wp2_with fail
  refine (HCl.out _ HX3.out).mono ?_
  rintro e w4 ⟨a4, c4, rfl, ho4, hx4⟩
  have hk := OwnK.single stepK w4 w.heap.size (a4, c4) (W, 27720) (by show OwnI _ _ _ W.length _ _; rw [HWl.out]; exact ho4.base HX3.out.size) (HX3.out.trans hx4).size
  have he : (stepK.cells a4 c4 (W, 27720)).toArray = #[.slice a4 R c4, .int .i64 27720] := by show #[Value.slice a4 W.length c4, _] = _; rw [HWl.out]
  rw [he] at hk
  have HK := hidP hk
  have HX4 := hidP ((HX3.out.trans hx4).trans (Ext.alloc w4 (.cells #[.slice a4 R c4, .int .i64 27720] 73)))
  clear hk he ho4 hx4
  go_wp2
  go_ret
  exact ⟨_, _, rfl, HK.out, HX4.out⟩
end Go.Proofs.YtdhlapppahkjeaaGreatDoor

namespace Go.Proofs.YtdhlapppahkjeaaGreatDoor
open Go.RowKit

def domB (r : Nat) (p : List Stp) : Bool := (List.range r).all fun i => decide (0 ≤ Lib.minOf (hts i p p.length))
theorem domB_true {r : Nat} {p : List Stp} (h : ∀ i, i < r → 0 ≤ Lib.minOf (hts i p p.length)) : domB r p = true := by
  unfold domB
  rw [List.all_eq_true]
  intro i hi
  exact decide_eq_true (h i (List.mem_range.1 hi))
theorem domB_false {r : Nat} {p : List Stp} {i : Nat} (hi : i < r) (h : Lib.minOf (hts i p p.length) < 0) : domB r p = false := by
  rw [Bool.eq_false_iff]
  intro h2
  unfold domB at h2
  rw [List.all_eq_true] at h2
  have := of_decide_eq_true (h2 i (List.mem_range.2 hi))
  omega
def tenOk1 (r : Nat) (V : List Int) (p : List Stp) : Bool := (chk r (straight V ++ p)).1 && (endR r p).1
def tenOk (r : Nat) (V : List Int) (L : List (List Stp)) : Bool := L.all (tenOk1 r V)
def tenE (r : Nat) (V : List Int) (p : List Stp) : List Tm := if domB r (chk r (straight V ++ p)).2 then [(plusV V 1 (endR r p).2, 1)] else []
def tensT (r : Nat) (V : List Int) (L : List (List Stp)) : List Tm := L.flatMap (tenE r V)
theorem tensT_one (r : Nat) (V : List Int) (L : List (List Stp)) : ∀ p ∈ tensT r V L, p.2 = 1 := fun p hp => by
  unfold tensT at hp
  rw [List.mem_flatMap] at hp
  obtain ⟨q, _, hq⟩ := hp
  unfold tenE at hq
  split at hq
  · simp only [List.mem_singleton] at hq
    rw [hq]
  · cases hq
theorem tensT_length (r : Nat) (V : List Int) : ∀ (L : List (List Stp)), (tensT r V L).length ≤ L.length
  | [] => by simp [tensT]
  | p :: L => by
    have h := tensT_length r V L
    have h2 : (tenE r V p).length ≤ 1 := by unfold tenE; split <;> simp
    unfold tensT at h ⊢
    rw [List.flatMap_cons, List.length_append, List.length_cons]
    omega
theorem tensT_take (r : Nat) (V : List Int) (L : List (List Stp)) {k : Nat} (hk : k < L.length) : tensT r V (L.take (k + 1)) = tensT r V (L.take k) ++ tenE r V (L.getD k []) := by
  unfold tensT
  rw [List.take_succ_eq_append_getElem hk, List.flatMap_append]
  simp [List.getD_eq_getElem?_getD, hk]
theorem tenE_dom {r : Nat} {V : List Int} {p : List Stp} (h : domB r (chk r (straight V ++ p)).2 = true) : tenE r V p = [(plusV V 1 (endR r p).2, 1)] := if_pos h
theorem tenE_not {r : Nat} {V : List Int} {p : List Stp} (h : domB r (chk r (straight V ++ p)).2 = false) : tenE r V p = [] := if_neg (by rw [h]; exact Bool.false_ne_true)
theorem tenOk_of {r : Nat} {V : List Int} {L : List (List Stp)} (h : ∀ k, k < L.length → tenOk1 r V (L.getD k []) = true) : tenOk r V L = true := by
  unfold tenOk
  rw [List.all_eq_true]
  intro p hp
  obtain ⟨k, hk, rfl⟩ := List.mem_iff_getElem.1 hp
  have := h k hk
  rwa [List.getD_eq_getElem?_getD, List.getElem?_eq_getElem hk] at this
theorem tenOk_not {r : Nat} {V : List Int} {L : List (List Stp)} {k : Nat} (hk : k < L.length) (h : tenOk1 r V (L.getD k []) = false) : tenOk r V L = false := by
  rw [Bool.eq_false_iff]
  intro h2
  unfold tenOk at h2
  rw [List.all_eq_true] at h2
  have := h2 _ (List.getElem_mem hk)
  rw [List.getD_eq_getElem?_getD, List.getElem?_eq_getElem hk] at h
  simp only [Option.getD_some] at h
  rw [this] at h
  cases h
theorem chk_path {r : Nat} {p : List Stp} (h : (chk r p).1 = true) : PathP r (chk r p).2 := by
  unfold chk at h ⊢
  split
  · rename_i h2
    exact pathB_iff.1 h2
  · rename_i h2
    rw [if_neg h2] at h
    cases h
theorem plusV_comm {x y : List Int} (h : x.length = y.length) : plusV x 1 y = plusV y 1 x := by
  unfold plusV
  rw [h]
  apply List.map_congr_left
  intro j _
  omega
theorem ten_key {r : Nat} {V : List Int} {p : List Stp} (h4 : r ≤ 4) (hV : highB r V = true) (hp : PathP r p) (ho : (endR r p).1 = true) : V.length = (endR r p).2.length ∧ KeyOk (plusV V 1 (endR r p).2) ∧ PlusIn V 1 (endR r p).2 ∧ PlusIn (endR r p).2 1 V := by
  obtain ⟨h1, h2⟩ := end_key h4 hp ho
  obtain ⟨h3, h5⟩ := highB_iff hV
  refine ⟨by omega, ⟨fun j hj => ?_, by rw [plusV_length]; omega⟩, fun j hj => ?_, fun j hj => ?_⟩
  · rw [plusV_length] at hj
    rw [plusV_get _ _ _ _ hj]
    have := h2 j (by omega)
    have := h5 j (by omega)
    omega
  · have := h2 j (by omega)
    have := h5 j (by omega)
    omega
  · have := h2 j (by omega)
    have := h5 j (by omega)
    omega
theorem straight_path {r : Nat} {V : List Int} (hV : highB r V = true) : pathB r (straight V) = true := by
  have hb := wayB_high hV
  simp [straight, pathB, stepB, wayAt, lenAt, timeAt, hb, List.range_succ]
def tenR (r : Int) (ts V W : List Int) : Bool × List Tm :=
  if pathsJ r ts W = [] ∨ highB r.toNat V = false then (false, []) else if tenOk r.toNat V (pathsJ r ts W) then chrR r.toNat (pchT (tensT r.toNat V (pathsJ r ts W))) else (false, [])
theorem tenR_small (r : Int) (ts V W : List Int) : SmallL (tenR r ts V W).2 := by
  unfold tenR
  split
  · exact SmallL.nil
  · rename_i h
    have := typeB_rank (pathsJ_type (fun e => h (.inl e)))
    split
    · exact chrR_small (by omega) _
    · exact SmallL.nil
end Go.Proofs.YtdhlapppahkjeaaGreatDoor

set_option linter.unusedVariables false
set_option linter.unusedSimpArgs false
namespace Go.Proofs.YtdhlapppahkjeaaGreatDoor
open Go.RowKit

set_option maxHeartbeats 2000000 in
theorem isDominantPath_any (R : Nat) (ta : Option Addr) (tn tc : Nat) (a : Option Addr) (n c : Nat) (xs : List Stp) (w : World) (h : StepsAt w a n xs) (hp : PathP R xs) (hR4 : R ≤ 4) :
    Calls Tryz.prog 41 #[carV R ta tn tc, .slice a n c] w fun e w' => e = .returned (.bool (domB R xs)) ∧ Ext w w' := by
  have hx1 := Ext.alloc w (.cells #[.int .i64 R, .slice ta tn tc] 29)
  have HC := hidP (CarAt.new w _ rfl (R : Int) ta tn tc 29)
  have HX1 := hidP hx1
  have hnl := h.len
  have hn60 : n ≤ 60 := by have := hp.len; omega
  have HHt := hidP (fun w' (hx : Ext w w') i (hi : i < R) => heights_any i R a n c xs w' (h.below hx).terms hp hi)
  clear hx1 h hp
  subst hnl
  obtain ⟨f0, f1⟩ := HC.out
  go_enter Tryz.func41, Tryz.ntmps41
  go_wp2
  go_loopw [8] (fun i wr => ∃ k : Nat, k ≤ R ∧ i = .int .i64 k ∧ Hid (∀ j, j < k → 0 ≤ Lib.minOf (hts j xs xs.length)) ∧ Hid (Ext w wr)) (fun i _ => R - (intOf i).toNat)
  case atStart => exact ⟨0, Nat.zero_le _, rfl, fun j h => absurd h (Nat.not_lt_zero _), HX1⟩
  case round =>
    obtain ⟨k, hk, rfl, HJ, HX⟩ := hrel
    by_cases hlt : k < R
    · have HHk := hidP (HHt.out _ HX.out k hlt)
      have HDf := hidP (fun h => domB_false (p := xs) hlt h)
      go_wp2_with fail
      refine HHk.out.mono ?_
      rintro e w2 ⟨g, c2, rfl, ho, hx2⟩
      have HMi := hidP (minI_any (some ⟨g, 0, none⟩) (xs.length + 1) c2 (hts k xs xs.length) w2 ho.ints (by omega) (by omega))
      have HX2 := hidP (HX.out.trans hx2)
      clear ho hx2
      obtain ⟨v, hv⟩ : ∃ v, v = Lib.minOf (hts k xs xs.length) := ⟨_, rfl⟩
      rw [← hv] at HMi HDf
      have Hv := hidP hv
      clear hv
      go_wp2_with fail
      refine HMi.out.mono ?_
      rintro e w3 ⟨rfl, rfl⟩
      by_cases hn : v < 0
      · have HR := hidP (HDf.out hn)
        go_wp2
        go_ret
        exact ⟨ret_bool HR.out.symm, HX2.out⟩
      · have HJ2 : Hid (∀ j, j < k + 1 → 0 ≤ Lib.minOf (hts j xs xs.length)) := by
          show ∀ j, _
          intro j hj
          rcases Nat.lt_succ_iff_lt_or_eq.1 hj with h3 | rfl
          · exact HJ.out j h3
          · rw [← Hv.out]
            omega
        go_wp2
        go_roundw
        case rel => exact ⟨k + 1, by omega, by go_num, HJ2, HX2⟩
        case measure => simp [intOf]; omega
    · have HR : Hid (domB R xs = true) := domB_true fun i hi => HJ.out i (by omega)
      go_wp2
      go_ret
      exact ⟨ret_bool HR.out.symm, HX.out⟩
set_option maxHeartbeats 2000000 in
theorem l9Dominant_any (R : Nat) (ta : Option Addr) (tn tc : Nat) (a : Option Addr) (n c : Nat) (xs : List Stp) (w : World) (h : StepsAt w a n xs) (hp : PathP R xs) (hR4 : R ≤ 4) :
    Calls Tryz.prog 34 #[carV R ta tn tc, .slice a n c] w fun e w' => e = .returned (.bool (domB R xs)) ∧ Ext w w' := by
  have hx1 := Ext.alloc w (.cells #[.int .i64 R, .slice ta tn tc] 29)
  have HC := hidP (fun w' (hx : Ext (w.alloc (.cells #[.int .i64 R, .slice ta tn tc] 29)) w') => (CarAt.new w _ rfl (R : Int) ta tn tc 29).below hx)
  have HX1 := hidP hx1
  have hnl := h.len
  have hn60 : n ≤ 60 := by have := hp.len; omega
  have HHt := hidP (fun w' (hx : Ext w w') i (hi : i < R) => l9Heights_any i R a n c xs w' (h.below hx).terms hp hi)
  clear hx1 h hp
  subst hnl
  obtain ⟨w1, hw1⟩ : ∃ w1, w1 = w.alloc (.cells #[.int .i64 R, .slice ta tn tc] 29) := ⟨_, rfl⟩
  rw [← hw1] at HC HX1
  go_enter Tryz.func34, Tryz.ntmps34
  go_wp2
  rw [← hw1]
  clear hw1
  go_loopw [5] (fun i wr => ∃ k : Nat, k ≤ R ∧ i = .int .i64 k ∧ Hid (∀ j, j < k → 0 ≤ Lib.minOf (hts j xs xs.length)) ∧ Hid (Ext w1 wr)) (fun i _ => R - (intOf i).toNat)
  case atStart => exact ⟨0, Nat.zero_le _, rfl, fun j h => absurd h (Nat.not_lt_zero _), Ext.refl _⟩
  case round =>
    obtain ⟨k, hk, rfl, HJ, HX⟩ := hrel
    obtain ⟨f0, f1⟩ := HC.out _ HX.out
    by_cases hlt : k < R
    · have HHk := hidP (HHt.out _ (HX1.out.trans HX.out) k hlt)
      have HDf := hidP (fun h => domB_false (p := xs) hlt h)
      go_wp2_with fail
      refine HHk.out.mono ?_
      rintro e w2 ⟨g, c2, rfl, ho, hx2⟩
      have HMi := hidP (l9Least_any (some ⟨g, 0, none⟩) (xs.length + 1) c2 (hts k xs xs.length) w2 ho.ints (by omega) (by omega))
      have HX2 := hidP (HX.out.trans hx2)
      clear ho hx2 f0 f1
      obtain ⟨v, hv⟩ : ∃ v, v = Lib.minOf (hts k xs xs.length) := ⟨_, rfl⟩
      rw [← hv] at HMi HDf
      have Hv := hidP hv
      clear hv
      go_wp2_with fail
      refine HMi.out.mono ?_
      rintro e w3 ⟨rfl, rfl⟩
      by_cases hn : v < 0
      · have HR := hidP (HDf.out hn)
        have HXz := hidP (HX1.out.trans HX2.out)
        go_wp2
        go_ret
        exact ⟨ret_bool HR.out.symm, HXz.out⟩
      · have HJ2 : Hid (∀ j, j < k + 1 → 0 ≤ Lib.minOf (hts j xs xs.length)) := by
          show ∀ j, _
          intro j hj
          rcases Nat.lt_succ_iff_lt_or_eq.1 hj with h3 | rfl
          · exact HJ.out j h3
          · rw [← Hv.out]
            omega
        go_wp2
        go_roundw
        case rel => exact ⟨k + 1, by omega, by go_num, HJ2, HX2⟩
        case measure => simp [intOf]; omega
    · have HR : Hid (domB R xs = true) := domB_true fun i hi => HJ.out i (by omega)
      have HXz := hidP (HX1.out.trans HX.out)
      go_wp2
      go_ret
      exact ⟨ret_bool HR.out.symm, HXz.out⟩
end Go.Proofs.YtdhlapppahkjeaaGreatDoor
