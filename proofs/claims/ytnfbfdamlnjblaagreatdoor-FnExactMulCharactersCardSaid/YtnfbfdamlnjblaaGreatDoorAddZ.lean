/-
  Numbers added to ordered lists of words, plain: the reference's insertion, its sums of two lists. No program in sight.
  The program's counts: a list of terms added; AddCharacters.
-/
import Derived.Test.YtnfbfdamlnjblaaGreatDoorChrY
import Derived.Test.YtnfbfdamlnjblaaGreatDoorChrZ
namespace Go.Proofs.YtnfbfdamlnjblaaGreatDoor
open Go.RowKit

def putT : List Tm → List Int → Int → List Tm
  | [], w, n => [(w, n)]
  | t :: l, w, n => if 0 < lexC t.1 w then t :: putT l w n else if t.1 = w then (w, t.2 + n) :: l else (w, n) :: t :: l
theorem cntSum_put (l : List Tm) (w : List Int) (n : Int) : cntSum (putT l w n) = addG (cntSum l) w n := by
  funext x
  induction l with
  | nil =>
    unfold putT addG
    by_cases h : x = w
    · subst h; simp [cntSum]
    · rw [if_neg h]; simp [cntSum, Ne.symm h]
  | cons t l ih =>
    unfold putT
    split
    · simp only [cntSum, ih]
      unfold addG
      by_cases hx : x = w
      · subst hx
        simp only [if_true, cntSum]
        omega
      · simp only [if_neg hx, cntSum]
    · split
      · rename_i h
        unfold addG
        by_cases hx : x = w
        · subst hx
          simp only [cntSum, h, if_true]
          omega
        · simp only [cntSum, h, if_neg (Ne.symm hx), if_neg hx]
      · unfold addG
        by_cases hx : x = w
        · subst hx
          simp only [cntSum, if_true]
          omega
        · simp only [cntSum, if_neg (Ne.symm hx), if_neg hx]
          omega
theorem mem_put {l : List Tm} {w : List Int} {n : Int} {p : Tm} (h : p ∈ putT l w n) : p ∈ l ∨ p.1 = w := by
  induction l with
  | nil =>
    simp only [putT, List.mem_singleton] at h
    exact .inr (by rw [h])
  | cons t l ih =>
    unfold putT at h
    split at h
    · rcases List.mem_cons.1 h with rfl | h
      · exact .inl (by simp)
      · rcases ih h with h | h
        · exact .inl (by simp [h])
        · exact .inr h
    · split at h
      · rcases List.mem_cons.1 h with rfl | h
        · exact .inr rfl
        · exact .inl (by simp [h])
      · rcases List.mem_cons.1 h with rfl | h
        · exact .inr rfl
        · exact .inl h
theorem ordered_put {l : List Tm} (h : Ordered Above l) (w : List Int) (n : Int) : Ordered Above (putT l w n) := by
  induction l with
  | nil => exact List.pairwise_singleton _ _
  | cons t l ih =>
    obtain ⟨h1, h2⟩ := List.pairwise_cons.1 h
    unfold putT
    split
    · rename_i ht
      refine List.pairwise_cons.2 ⟨fun p hp => ?_, ih h2⟩
      rcases mem_put hp with hp | hp
      · exact h1 p hp
      · rw [hp]; exact above_iff.2 ht
    · rename_i ht
      split
      · rename_i he
        subst he
        exact List.pairwise_cons.2 ⟨fun p hp => h1 p hp, h2⟩
      · rename_i he
        have hw : Above w t.1 := by
          rcases above_ord.tot he with h3 | h3
          · exact absurd (above_iff.1 h3) ht
          · exact h3
        refine List.pairwise_cons.2 ⟨fun p hp => ?_, h⟩
        rcases List.mem_cons.1 hp with rfl | hp
        · exact hw
        · exact above_ord.tr hw (h1 p hp)
theorem put_length (l : List Tm) (w : List Int) (n : Int) : (putT l w n).length ≤ l.length + 1 := by
  induction l with
  | nil => simp [putT]
  | cons t l ih =>
    unfold putT
    split
    · simp only [List.length_cons]; omega
    · split <;> simp
/-- the insertion at a place behind words that stand above -/
theorem put_split {l : List Tm} {w : List Int} {n : Int} : ∀ {k : Nat}, k ≤ l.length → (∀ j, j < k → 0 < lexC (wayAt l j) w) → putT l w n = l.take k ++ putT (l.drop k) w n := by
  induction l with
  | nil => intro k hk _; simp at hk; subst hk; rfl
  | cons t l ih =>
    intro k hk h
    cases k with
    | zero => rfl
    | succ k =>
      have h0 : 0 < lexC t.1 w := by simpa [wayAt] using h 0 (by omega)
      rw [putT, if_pos h0, List.take_succ_cons, List.drop_succ_cons, List.cons_append]
      rw [ih (by simpa using hk) (fun j hj => by simpa [wayAt] using h (j + 1) (by omega))]
theorem drop_at {l : List Tm} {k : Nat} (hk : k < l.length) : l.drop k = (wayAt l k, lenAt l k) :: l.drop (k + 1) := by
  have e : (wayAt l k, lenAt l k) = l[k] := by unfold wayAt lenAt; rw [getT hk]
  rw [e]
  exact List.drop_eq_getElem_cons hk
theorem put_end {l : List Tm} {w : List Int} {n : Int} (h : ∀ j, j < l.length → 0 < lexC (wayAt l j) w) : putT l w n = l.take l.length ++ [(w, n)] ++ l.drop l.length := by
  rw [put_split (Nat.le_refl _) h]
  simp [putT]
theorem put_same {l : List Tm} {w : List Int} {n : Int} {k : Nat} (hk : k < l.length) (h : ∀ j, j < k → 0 < lexC (wayAt l j) w) (he : wayAt l k = w) : putT l w n = l.set k (wayAt l k, lenAt l k + n) := by
  rw [put_split (Nat.le_of_lt hk) h, drop_at hk]
  have hn : ¬ 0 < lexC w w := by
    have := above_ord.irr w
    rw [above_iff] at this
    exact this
  rw [he, putT, if_neg hn, if_pos rfl]
  rw [List.set_eq_take_append_cons_drop, if_pos hk]
theorem put_new {l : List Tm} {w : List Int} {n : Int} {k : Nat} (hk : k < l.length) (h : ∀ j, j < k → 0 < lexC (wayAt l j) w) (ha : ¬ 0 < lexC (wayAt l k) w) (he : wayAt l k ≠ w) : putT l w n = l.take k ++ [(w, n)] ++ l.drop k := by
  rw [put_split (Nat.le_of_lt hk) h, drop_at hk, putT, if_neg ha, if_neg he]
  simp
/-- without the words whose number is 0 -/
def cleanT (l : List Tm) : List Tm := l.filter fun p => p.2 != 0
theorem cntSum_clean (l : List Tm) : cntSum (cleanT l) = cntSum l := by
  funext x
  induction l with
  | nil => rfl
  | cons t l ih =>
    unfold cleanT at *
    rw [List.filter_cons]
    split
    · simp only [cntSum, ih]
    · rename_i h
      have h0 : t.2 = 0 := by simpa using h
      simp only [cntSum, ih, h0]
      split <;> omega
theorem clean_self {l : List Tm} (h : ∀ p ∈ l, p.2 ≠ 0) : cleanT l = l := List.filter_eq_self.2 fun p hp => by simpa using h p hp
def putsT (o : List Tm) (n : Int) (b : List Tm) : List Tm := b.foldl (fun o t => putT o t.1 (n * t.2)) o
theorem putsT_take (o : List Tm) (n : Int) (b : List Tm) {k : Nat} (hk : k < b.length) : putsT o n (b.take (k + 1)) = putT (putsT o n (b.take k)) (wayAt b k) (n * lenAt b k) := by
  unfold putsT
  rw [List.take_succ_eq_append_getElem hk, List.foldl_append]
  simp [wayAt, lenAt, List.getD_eq_getElem?_getD, hk]
def timesT (n : Int) (b : List Tm) : List Tm := b.map fun p => (p.1, n * p.2)
theorem cntSum_puts (n : Int) : ∀ (b o : List Tm), cntSum (putsT o n b) = cntSum (o ++ timesT n b)
  | [], o => by simp [putsT, timesT]
  | t :: b, o => by
    have ih := cntSum_puts n b (putT o t.1 (n * t.2))
    unfold putsT at ih ⊢
    rw [List.foldl_cons, ih]
    funext x
    rw [cntSum_append, cntSum_put, cntSum_append]
    unfold timesT addG
    simp only [List.map_cons, cntSum]
    by_cases h : x = t.1
    · subst h; simp; omega
    · rw [if_neg h, if_neg (Ne.symm h)]; omega
theorem ordered_puts (n : Int) : ∀ (b : List Tm) {o : List Tm}, Ordered Above o → Ordered Above (putsT o n b)
  | [], _, h => h
  | t :: b, o, h => by
    have := ordered_puts n b (ordered_put h t.1 (n * t.2))
    exact this
theorem puts_length (n : Int) : ∀ (b o : List Tm), (putsT o n b).length ≤ o.length + b.length
  | [], o => by simp [putsT]
  | t :: b, o => by
    have h1 := puts_length n b (putT o t.1 (n * t.2))
    have h2 := put_length o t.1 (n * t.2)
    unfold putsT at h1 ⊢
    rw [List.foldl_cons]
    simp only [List.length_cons]
    omega
/-- n times a list added to another one -/
def joinT (a : List Tm) (n : Int) (b : List Tm) : List Tm := cleanT (putsT (cleanT a) n b)
theorem ordered_clean {l : List Tm} (h : Ordered Above l) : Ordered Above (cleanT l) := List.Pairwise.filter _ h
theorem joinT_tells {a b : List Tm} (n : Int) (h : Ordered Above a) : Ordered Above (joinT a n b) ∧ Tells (cntSum (a ++ timesT n b)) (joinT a n b) := by
  have ho : Ordered Above (joinT a n b) := ordered_clean (ordered_puts n b (ordered_clean h))
  refine ⟨ho, ?_⟩
  have ht := tells_of above_ord ho fun p hp => by
    have := (List.mem_filter.1 hp).2
    simpa using this
  have e : cntSum (joinT a n b) = cntSum (a ++ timesT n b) := by
    unfold joinT
    rw [cntSum_clean, cntSum_puts]
    funext x
    rw [cntSum_append, cntSum_append, cntSum_clean]
  rwa [e] at ht
theorem joinT_length (a : List Tm) (n : Int) (b : List Tm) : (joinT a n b).length ≤ a.length + b.length := by
  have h1 := puts_length n b (cleanT a)
  have h2 : (joinT a n b).length ≤ (putsT (cleanT a) n b).length := List.length_filter_le _ _
  have h3 : (cleanT a).length ≤ a.length := List.length_filter_le _ _
  omega
end Go.Proofs.YtnfbfdamlnjblaaGreatDoor

namespace Go.Proofs.YtnfbfdamlnjblaaGreatDoor
open Go.RowKit

theorem StepsAt.extM {b1 b2 : Nat} {w w' : World} {a : Option Addr} {n : Nat} {xs : List Stp} (h : StepsAt w a n xs) (hx : ExtM b1 b2 w w') (m1 : IsMapAt w b1) (m2 : IsMapAt w b2) : StepsAt w' a n xs := by
  refine ⟨h.len, fun i hi => ?_⟩
  obtain ⟨b, o, aw, cw, e, h1, h2, h3, h4, h5⟩ := h.get i hi
  exact ⟨b, o, aw, cw, e, hx.cell m1 m2 h1, hx.cell m1 m2 h2, h3.extM hx m1 m2, h4, h5⟩
theorem ExtM.isMap_left {b1 b2 : Nat} {w w' : World} {n : Nat} {g : List Int → Int} {f1 f2 : ByteArray → Option Value} (h : Counts w' b1 b2 n g f1 f2) : IsMapAt w' b1 ∧ IsMapAt w' b2 := ⟨h.m1.is, h.m2.is⟩
theorem Tab.extM {b1 b2 : Nat} {w w' : World} (h : Tab w) (hx : ExtM b1 b2 w w') (m1 : IsMapAt w b1) (m2 : IsMapAt w b2) : Tab w' := by
  unfold Tab Lib.TabIs World.var? at *
  cases hg : Tryz.prog.globalNamed "internal/strconv.uint64pow10" with
  | none => rw [hg] at h; cases h
  | some g =>
    rw [hg] at h
    simp only [Option.bind_some] at h ⊢
    cases ho : w.heap[g]? with
    | none => rw [ho] at h; cases h
    | some o =>
      have hlt := (Array.getElem?_eq_some_iff.1 ho).1
      have hne : ∀ b, IsMapAt w b → g ≠ b := by
        rintro b ⟨es, clock, e⟩ rfl
        rw [e] at h
        cases h
      rw [hx.block g hlt (hne _ m1) (hne _ m2)]
      exact h
/-- numbers with words of a list, taken m times, added -/
def addsG (g : List Int → Int) (m : Int) (us : List Tm) : List Int → Int := fun x => g x + cntSum (timesT m us) x
theorem addsG_nil (g : List Int → Int) (m : Int) : addsG g m [] = g := by
  funext x
  simp [addsG, timesT, cntSum]
theorem addsG_take (g : List Int → Int) (m : Int) (us : List Tm) {k : Nat} (hk : k < us.length) : addsG g m (us.take (k + 1)) = addG (addsG g m (us.take k)) (wayAt us k) (m * lenAt us k) := by
  funext x
  unfold addsG timesT
  rw [take_succ_at2 us hk, List.map_append, cntSum_append]
  unfold addG
  simp only [List.map_cons, List.map_nil, cntSum]
  by_cases h : x = wayAt us k
  · subst h; simp; omega
  · rw [if_neg h, if_neg (Ne.symm h)]; omega

set_option maxRecDepth 100000 in
set_option maxHeartbeats 4000000 in
theorem cntAddAll_any (b1 b2 n0 : Nat) (g : List Int → Int) (f1 f2 : ByteArray → Option Value) (a : Option Addr) (n c : Nat) (us : List Tm) (m : Int) (w : World) (hC : Counts w b1 b2 n0 g f1 f2) (h : StepsAt w a n us) (hn : n ≤ 1000) (hn0 : n0 ≤ 1000000)
    (hk : ∀ k, k < n → KeyOk (wayAt us k) ∧ -1000000000000 ≤ m * lenAt us k ∧ m * lenAt us k ≤ 1000000000000) (hb : ∀ k, k ≤ n → ∀ x, -1000000000000000 ≤ addsG g m (us.take k) x ∧ addsG g m (us.take k) x ≤ 1000000000000000) (ht : Tab w) :
    Calls Tryz.prog 100 #[cntV b1 b2, .slice a n c, .int .i64 m] w fun e w' => e = .returned (.tuple #[]) ∧ (∃ f1' f2', Counts w' b1 b2 (n0 + n) (addsG g m us) f1' f2') ∧ ExtM b1 b2 w w' := by
  have hxa := Ext.alloc w (.cells #[.map (some b1), .map (some b2)] 107)
  have H := hidP h
  have HT := hidP ht
  have HK := hidP hk
  have HB := hidP hb
  have M1 := hidP hC.m1.is
  have M2 := hidP hC.m2.is
  have hnl := h.len
  have HA0 := hidP (CntAt.new w _ rfl b1 b2 107)
  have HC0 : Hid (∃ f1 f2, Counts (w.alloc (.cells #[.map (some b1), .map (some b2)] 107)) b1 b2 (n0 + 0) (addsG g m (us.take 0)) f1 f2) := ⟨f1, f2, by rw [List.take_zero, addsG_nil]; exact hC.below hxa⟩
  have HX0 := hidP (ExtM.of_ext (b1 := b1) (b2 := b2) hxa)
  clear hxa h ht hk hb hC
  go_enter Tryz.func100, Tryz.ntmps100
  go_wp2
  go_loopw [10] (fun i wr => ∃ k : Nat, k ≤ n ∧ i = .int .i64 k ∧ Hid (∃ f1 f2, Counts wr b1 b2 (n0 + k) (addsG g m (us.take k)) f1 f2) ∧ Hid (CntAt wr w.heap.size b1 b2) ∧ Hid (ExtM b1 b2 w wr)) (fun i _ => n - (intOf i).toNat)
  case atStart => exact ⟨0, Nat.zero_le _, rfl, HC0, HA0, HX0⟩
  case round =>
    clear HC0 HA0 HX0
    obtain ⟨k, hk, rfl, HCn, HA, HX⟩ := hrel
    by_cases hlt : k < n
    · obtain ⟨bu, o, aw, cw, W, L, rfl, HW, HL, hwl, HNl, hq⟩ := (H.out.extM HX.out M1.out M2.out).way k hlt
      have HQ := hidP hq
      obtain ⟨q1, q2, _⟩ := hq wr (Ext.refl wr)
      have hkk := HK.out k hlt
      rw [HW.out, HL.out] at hkk
      have HKo := hidP hkk.1
      have hmL := hkk.2
      have hmw : IntKind.i64.wrap (m * L) = m * L := wrap_in (by omega) (by omega)
      have HSn : Hid (addG (addsG g m (us.take k)) W (m * L) = addsG g m (us.take (k + 1))) := by
        show _ = _
        rw [addsG_take g m us (by omega), HW.out, HL.out]
      have hbk := HB.out k hk W
      have HA2 := hidP (Ext.alloc wr (.cells #[.slice aw W.length cw, .int .i64 L] 104))
      obtain ⟨q3, q4⟩ := StpAt.new wr _ rfl aw W.length cw L 104
      have q5 := HA.out.below (Ext.alloc wr (.cells #[.slice aw W.length cw, .int .i64 L] 104))
      obtain ⟨z0, z1⟩ := q5
      obtain ⟨f1', f2', hCn⟩ := HCn.out
      obtain ⟨G, hG⟩ : ∃ G, G = addsG g m (us.take k) := ⟨_, rfl⟩
      rw [← hG] at hCn HSn hbk
      have HAd := hidP (cntAdd_any b1 b2 (n0 + k) G f1' f2' aw W.length cw W (m * L) _ (hCn.below HA2.out) HKo.out (HQ.out _ HA2.out).2.2 HNl.out (by omega) (by omega) (by omega) ((HT.out.extM HX.out M1.out M2.out).below HA2.out))
      have HM1 := hidP (hCn.below HA2.out).m1.is
      have HM2 := hidP (hCn.below HA2.out).m2.is
      have HA3 := hidP (HA.out.below HA2.out)
      have HX3 := hidP (HX.out.trans (ExtM.of_ext HA2.out))
      clear hq hG hkk hCn HCn hbk
      go_wp2_with fail
      refine HAd.out.mono ?_
      rintro e w7 ⟨rfl, hC7, hx7⟩
      rw [HSn.out] at hC7
      have HC7 := hidP hC7
      have HA7 := hidP (HA3.out.extM hx7 HM1.out HM2.out)
      have HX7 := hidP (HX3.out.trans hx7)
      clear hC7 hx7 q1 q2 q3 q4 z0 z1
      go_wp2
      go_roundw
      case rel => exact ⟨k + 1, by omega, by go_num, HC7, HA7, HX7⟩
      case measure => simp [intOf]; omega
    · obtain rfl : n = k := by omega
      have HTk : Hid (us.take n = us) := List.take_of_length_le (by omega)
      rw [HTk.out] at HCn
      go_wp2
      go_end0
      exact ⟨rfl, HCn.out, HX.out⟩
/-! ### AddCharacters. Printed by gen/addP.py. -/
def addR (r : Int) (ts : List Int) (us vs : List Tm) : Bool × List Tm := if typeB r ts && chrB r.toNat us then (if chrB r.toNat vs then chrR r.toNat (joinT us 1 vs) else (false, [])) else (false, [])
theorem timesT_one (us : List Tm) : timesT 1 us = us := by
  unfold timesT
  rw [show (fun p : Tm => (p.1, 1 * p.2)) = id from funext fun p => by simp]
  simp
theorem take_bound {r : Nat} {us : List Tm} (h : ChrP r us) (k : Nat) (x : List Int) : 0 ≤ cntSum (us.take k) x ∧ cntSum (us.take k) x ≤ 400000000 := by
  have hl := h.len
  have := cntSum_bound (M := 1000000) (by omega) (l := us.take k) x fun p hp => by
    have := (h.each p (List.mem_of_mem_take hp)).2
    exact ⟨by omega, this.2⟩
  simp only [List.length_take] at this
  have h3 : ((min k us.length : Nat) : Int) ≤ 400 := by omega
  have h4 : ((min k us.length : Nat) : Int) * 1000000 ≤ 400 * 1000000 := Int.mul_le_mul_of_nonneg_right h3 (by omega)
  omega
theorem ChrP.keyAt {r : Nat} {us : List Tm} (h : ChrP r us) (hr : r ≤ 4) {k : Nat} (hk : k < us.length) : KeyOk (wayAt us k) := by
  obtain ⟨h1, h2, _⟩ := h.at hr hk
  refine ⟨fun j hj => ?_, by omega⟩
  have := h2 j (by omega)
  omega

set_option maxRecDepth 100000 in
set_option maxRecDepth 100000 in
set_option maxHeartbeats 4000000 in
theorem addCharacters_any (r : Int) (ta : Option Addr) (tn tc : Nat) (ts : List Int) (a : Option Addr) (n c : Nat) (xs : List Tm) (a' : Option Addr) (n' c' : Nat) (ys : List Tm) (w : World) (hc : IntsAt w ta tn ts) (hcn : tn ≤ 9223372036854775807)
    (h : StepsAt w a n xs) (hn : n ≤ 9223372036854775807) (h' : StepsAt w a' n' ys) (hn' : n' ≤ 9223372036854775807) (hm : MaxL w) (ht : Tab w) :
    PathRes 47 #[carV r ta tn tc, .slice a n c, .slice a' n' c'] w (addR r ts xs ys) := by
  unfold PathRes
  have hx1 := Ext.alloc w (.cells #[.int .i64 r, .slice ta tn tc] 55)
  have HC := hidP (fun w' (hx : Ext (w.alloc (.cells #[.int .i64 r, .slice ta tn tc] 55)) w') => (CarAt.new w _ rfl r ta tn tc 55).below hx)
  have HX1 := hidP hx1
  have H := hidP (h.below hx1)
  have H' := hidP (h'.below hx1)
  have HIs := hidP (fun w' (hx : Ext w w') => isCartan_any r ta tn tc ts w' (hc.below hx) hcn (hm.below hx))
  have HP := hidP (characterOk_of r ta tn tc ts a n c xs _ (h.below hx1).terms hn (fun w' hx => HIs.out w' (hx1.trans hx)))
  have HP' := hidP (fun w' (hx : Ext (w.alloc (.cells #[.int .i64 r, .slice ta tn tc] 55)) w') => characterOk_of r ta tn tc ts a' n' c' ys w' ((h'.below hx1).below hx).terms hn' (fun w'' hx' => HIs.out w'' ((hx1.trans hx).trans hx')))
  have HTb := hidP ht
  clear ht
  have hs1 : w.heap.size ≤ (w.alloc (.cells #[.int .i64 r, .slice ta tn tc] 55)).heap.size := hx1.size
  clear hc h h' hx1 hm
  obtain ⟨w1, hw1⟩ : ∃ w1, w1 = w.alloc (.cells #[.int .i64 r, .slice ta tn tc] 55) := ⟨_, rfl⟩
  rw [← hw1] at HC HX1 H H' HP HP' hs1
  have HS1 := hidP hs1
  clear hs1
  obtain ⟨f0, f1⟩ := HC.out w1 (Ext.refl w1)
  cases hT : (typeB r ts && chrB r.toNat xs)
  · have HR : Hid (addR r ts xs ys = (false, [])) := by
      show _ = _
      unfold addR
      rw [hT]
      rfl
    rw [hT] at HP
    clear hT
    go_enter Tryz.func47, Tryz.ntmps47
    go_wp2_with fail
    rw [← hw1]
    clear hw1
    refine HP.out.mono ?_
    rintro e w2 ⟨rfl, hx⟩
    have HX := hidP hx
    clear hx
    go_wp2
    refine bodyPost_ret (v := .tuple #[.slice none 0 0, .bool false]) (by simp [results, Tryz.results47, go_sem]) rfl ⟨none, 0, 0, [], by rw [HR.out], ?_, HX1.out.trans HX.out⟩
    rw [HR.out]
    exact OwnK.nil stepK _ _ _
  · have hT2 : typeB r ts = true := by
      simp only [Bool.and_eq_true] at hT
      exact hT.1
    have hP1 : chrB r.toNat xs = true := by
      simp only [Bool.and_eq_true] at hT
      exact hT.2
    obtain ⟨hr1, hr4, _⟩ := typeB_rank hT2
    obtain ⟨R, rfl⟩ : ∃ R : Nat, r = R := ⟨r.toNat, by omega⟩
    rw [Int.toNat_natCast] at hP1
    have hR : R ≤ 4 := by omega
    rw [hT2, Bool.true_and, Int.toNat_natCast] at HP'
    cases hQ : chrB R ys
    · have HR : Hid (addR R ts xs ys = (false, [])) := by
        show _ = _
        unfold addR
        rw [hT, Int.toNat_natCast, hQ]
        rfl
      rw [hT] at HP
      rw [hQ] at HP'
      clear hT hT2 hP1 hQ hr1 hr4
      go_enter Tryz.func47, Tryz.ntmps47
      go_wp2_with fail
      rw [← hw1]
      clear hw1
      refine HP.out.mono ?_
      rintro e w2 ⟨rfl, hx⟩
      obtain ⟨g0, g1⟩ := HC.out w2 hx
      have HX := hidP hx
      clear hx f0 f1
      go_wp2_with fail
      refine (HP'.out _ HX.out).mono ?_
      rintro e w3 ⟨rfl, hx⟩
      have HX3 := hidP (HX.out.trans hx)
      clear hx g0 g1
      go_wp2
      refine bodyPost_ret (v := .tuple #[.slice none 0 0, .bool false]) (by simp [results, Tryz.results47, go_sem]) rfl ⟨none, 0, 0, [], by rw [HR.out], ?_, HX1.out.trans HX3.out⟩
      rw [HR.out]
      exact OwnK.nil stepK _ _ _
    · have HR2 : Hid (addR R ts xs ys = chrR R (joinT xs 1 ys)) := by
        show _ = _
        unfold addR
        rw [hT, Int.toNat_natCast, hQ]
        rfl
      have HU := hidP (chrB_iff.1 hP1)
      have HV := hidP (chrB_iff.1 hQ)
      have HT2 := hidP hT2
      rw [hT] at HP
      rw [hQ] at HP'
      have hnl := H.out.len
      have hnl' := H'.out.len
      have hu4 := HU.out.len
      have hv4 := HV.out.len
      clear hT hT2 hP1 hQ hr1 hr4
      go_enter Tryz.func47, Tryz.ntmps47
      go_wp2_with fail
      rw [← hw1]
      clear hw1
      refine HP.out.mono ?_
      rintro e w2 ⟨rfl, hx⟩
      obtain ⟨g0, g1⟩ := HC.out w2 hx
      have HX := hidP hx
      clear hx f0 f1
      go_wp2_with fail
      refine (HP'.out _ HX.out).mono ?_
      rintro e w3 ⟨rfl, hx⟩
      have HX3 := hidP (HX1.out.trans (HX.out.trans hx))
      have HC3 := hidP (HC.out w3 (HX.out.trans hx))
      have HY3 := hidP (HX.out.trans hx)
      have HN := hidP (newCounts_any w3)
      clear hx g0 g1
      go_wp2_with fail
      refine HN.out.mono ?_
      rintro e w4 ⟨b, rfl, hC4, hb4, hx4⟩
      have hx5 := Ext.alloc w4 (.cells #[.map (some b), .map (some (b + 1))] 107)
      have HX5 := hidP (HX3.out.trans (hx4.trans hx5))
      have HC5 := hidP (hC4.below hx5)
      have HY5 := hidP (HY3.out.trans (hx4.trans hx5))
      have HCr5 := hidP (HC3.out.below (hx4.trans hx5))
      have HA5 := hidP (CntAt.new w4 _ rfl b (b + 1) 107)
      have HB : Hid (w.heap.size ≤ b) := Nat.le_trans HX3.out.size hb4
      obtain ⟨w5, hw5⟩ : ∃ w5, w5 = w4.alloc (.cells #[.map (some b), .map (some (b + 1))] 107) := ⟨_, rfl⟩
      rw [← hw5] at HX5 HC5 HCr5 HA5 HY5
      obtain ⟨bk, hbk⟩ : ∃ bk, bk = w4.heap.size := ⟨_, rfl⟩
      rw [← hbk] at HA5
      clear hC4 hb4 hx4 hx5 HN
      have hadd0 : ∀ k, addsG (fun _ => 0) 1 (xs.take k) = cntSum (xs.take k) := fun k => by
        funext x
        show (0 : Int) + cntSum (timesT 1 (xs.take k)) x = _
        rw [timesT_one, Int.zero_add]
      have HAd := hidP (cntAddAll_any b (b + 1) 0 (fun _ => 0) _ _ a n c xs 1 w5 HC5.out (H.out.below HY5.out) (by omega) (by omega) (fun k hk => by
        have := HU.out.at hR (k := k) (by omega)
        exact ⟨HU.out.keyAt hR (by omega), by omega, by omega⟩) (fun k hk x => by
        rw [hadd0]
        have := take_bound HU.out k x
        omega) (HTb.out.below HX5.out))
      obtain ⟨z0, z1⟩ := HA5.out
      go_wp2_with fail
      rw [← hw5]
      simp only [← hbk]
      clear hw5 hbk
      refine HAd.out.mono ?_
      rintro e w6 ⟨rfl, ⟨f1, f2, hC6⟩, hx6⟩
      have hm1 := HC5.out.m1.is
      have hm2 := HC5.out.m2.is
      have HA6 := hidP (HA5.out.extM hx6 hm1 hm2)
      have HCr6 := hidP (HCr5.out.extM hx6 hm1 hm2)
      have HX6 : Hid (Ext w w6) := hidP (hx6.below HX5.out HB.out (Nat.le_succ_of_le HB.out) HX5.out.size)
      have HH6 := hidP ((H'.out.below HY5.out).extM hx6 hm1 hm2)
      have hg6 : addsG (fun _ => 0) 1 xs = cntSum xs := by
        have := hadd0 xs.length
        rwa [List.take_length] at this
      rw [hg6] at hC6
      have hadd1 : ∀ k x, addsG (cntSum xs) 1 (ys.take k) x = cntSum xs x + cntSum (ys.take k) x := fun k x => by
        show cntSum xs x + cntSum (timesT 1 (ys.take k)) x = _
        rw [timesT_one]
      have HAd2 := hidP (cntAddAll_any b (b + 1) (0 + n) (cntSum xs) f1 f2 a' n' c' ys 1 w6 hC6 HH6.out (by omega) (by omega) (fun k hk => by
        have := HV.out.at hR (k := k) (by omega)
        exact ⟨HV.out.keyAt hR (by omega), by omega, by omega⟩) (fun k hk x => by
        rw [hadd1]
        have h1 := take_bound HV.out k x
        have h2 := take_bound HU.out xs.length x
        rw [List.take_length] at h2
        omega) (HTb.out.below HX6.out))
      have HM1 := hidP hC6.m1.is
      have HM2 := hidP hC6.m2.is
      clear hC6 hx6 hm1 hm2 z0 z1 HAd hadd0 hg6
      obtain ⟨z0, z1⟩ := HA6.out
      go_wp2_with fail
      refine HAd2.out.mono ?_
      rintro e w7 ⟨rfl, ⟨f1, f2, hC7⟩, hx7⟩
      have HA7 := hidP (HA6.out.extM hx7 HM1.out HM2.out)
      have HCr7 := hidP (HCr6.out.extM hx7 HM1.out HM2.out)
      have HX7 : Hid (Ext w w7) := hidP (hx7.below HX6.out HB.out (Nat.le_succ_of_le HB.out) HX6.out.size)
      have hg7 : addsG (cntSum xs) 1 ys = cntSum (xs ++ timesT 1 ys) := by
        funext x
        rw [cntSum_append]
        rfl
      rw [hg7] at hC7
      obtain ⟨hjo, hjt⟩ := joinT_tells (a := xs) (b := ys) 1 HU.out.ord
      have HCh := hidP (cntCharacter_any R ta tn tc ts b (b + 1) (0 + n + n') _ f1 f2 (joinT xs 1 ys) w7 hC7 hjt hjo (by have := joinT_length xs 1 ys; omega) HT2.out (fun w' hx => HIs.out w' (HX7.out.trans hx)))
      rw [Int.toNat_natCast, ← HR2.out] at HCh
      unfold PathRes at HCh
      clear hC7 hx7 hjo hjt z0 z1 HAd2 hadd1 hg7
      obtain ⟨z0, z1⟩ := HA7.out
      obtain ⟨g0, g1⟩ := HCr7.out
      go_wp2_with fail
      refine HCh.out.mono ?_
      rintro e w8 ⟨a8, n8, c8, hs8, rfl, ho8, hx8⟩
      have HO8 := hidP (ho8.weaken (B' := w.heap.size) HX7.out.size (Nat.le_refl _))
      have HX8 := hidP (HX7.out.trans hx8)
      clear ho8 hx8
      go_wp2
      refine bodyPost_ret (v := .tuple #[.slice a8 n8 c8, .bool (addR R ts xs ys).1]) (by simp [results, Tryz.results47, go_sem]) rfl ⟨a8, n8, c8, hs8, rfl, HO8.out, HX8.out⟩
end Go.Proofs.YtnfbfdamlnjblaaGreatDoor
