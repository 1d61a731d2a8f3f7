/-
  Numbers added to ordered lists of words, plain: the reference's insertion, its sums of two lists. No program in sight.
  The program's counts: a list of terms added; AddCharacters.
  A part of an owned slice of structs, appended to another owned slice; two chains of operations of a region that draws its order.
  The reference's l8Put: a number added to a word of an ordered list. Printed by gen/put.py.
  The reference's sums of lists of terms: l8Clean, l8Join, AddCharacters. Printed by gen/join.py.
-/
import Derived.Test.YtnfbfdamlnjblaaGreatDoorChrY
import Derived.Test.YtnfbfdamlnjblaaGreatDoorChrZ
import Derived.Test.YtnfbfdamlnjblaaGreatDoorStp
import Derived.Test.YtnfbfdamlnjblaaGreatDoorReg
namespace Go.Proofs.YtnfbfdamlnjblaaGreatDoor
open Go.RowKit

def putT : List Tm → List Int → Int → List Tm
  | [], w, n => [(w, n)]
  | t :: l, w, n => if 0 < lexC t.1 w then t :: putT l w n else if t.1 = w then (w, t.2 + n) :: l else (w, n) :: t :: l
theorem cntSum_put (l : List Tm) (w : List Int) (n : Int) : cntSum (putT l w n) = addG (cntSum l) w n := by
  funext x
  induction l with
  | nil =>
    unfold putT addG
    by_cases h : x = w
    · subst h; simp [cntSum]
    · rw [if_neg h]; simp [cntSum, Ne.symm h]
  | cons t l ih =>
    unfold putT
    split
    · simp only [cntSum, ih]
      unfold addG
      by_cases hx : x = w
      · subst hx
        simp only [if_true, cntSum]
        omega
      · simp only [if_neg hx, cntSum]
    · split
      · rename_i h
        unfold addG
        by_cases hx : x = w
        · subst hx
          simp only [cntSum, h, if_true]
          omega
        · simp only [cntSum, h, if_neg (Ne.symm hx), if_neg hx]
      · unfold addG
        by_cases hx : x = w
        · subst hx
          simp only [cntSum, if_true]
          omega
        · simp only [cntSum, if_neg (Ne.symm hx), if_neg hx]
          omega
theorem mem_put {l : List Tm} {w : List Int} {n : Int} {p : Tm} (h : p ∈ putT l w n) : p ∈ l ∨ p.1 = w := by
  induction l with
  | nil =>
    simp only [putT, List.mem_singleton] at h
    exact .inr (by rw [h])
  | cons t l ih =>
    unfold putT at h
    split at h
    · rcases List.mem_cons.1 h with rfl | h
      · exact .inl (by simp)
      · rcases ih h with h | h
        · exact .inl (by simp [h])
        · exact .inr h
    · split at h
      · rcases List.mem_cons.1 h with rfl | h
        · exact .inr rfl
        · exact .inl (by simp [h])
      · rcases List.mem_cons.1 h with rfl | h
        · exact .inr rfl
        · exact .inl h
theorem ordered_put {l : List Tm} (h : Ordered Above l) (w : List Int) (n : Int) : Ordered Above (putT l w n) := by
  induction l with
  | nil => exact List.pairwise_singleton _ _
  | cons t l ih =>
    obtain ⟨h1, h2⟩ := List.pairwise_cons.1 h
    unfold putT
    split
    · rename_i ht
      refine List.pairwise_cons.2 ⟨fun p hp => ?_, ih h2⟩
      rcases mem_put hp with hp | hp
      · exact h1 p hp
      · rw [hp]; exact above_iff.2 ht
    · rename_i ht
      split
      · rename_i he
        subst he
        exact List.pairwise_cons.2 ⟨fun p hp => h1 p hp, h2⟩
      · rename_i he
        have hw : Above w t.1 := by
          rcases above_ord.tot he with h3 | h3
          · exact absurd (above_iff.1 h3) ht
          · exact h3
        refine List.pairwise_cons.2 ⟨fun p hp => ?_, h⟩
        rcases List.mem_cons.1 hp with rfl | hp
        · exact hw
        · exact above_ord.tr hw (h1 p hp)
theorem put_length (l : List Tm) (w : List Int) (n : Int) : (putT l w n).length ≤ l.length + 1 := by
  induction l with
  | nil => simp [putT]
  | cons t l ih =>
    unfold putT
    split
    · simp only [List.length_cons]; omega
    · split <;> simp
/-- the insertion at a place behind words that stand above -/
theorem put_split {l : List Tm} {w : List Int} {n : Int} : ∀ {k : Nat}, k ≤ l.length → (∀ j, j < k → 0 < lexC (wayAt l j) w) → putT l w n = l.take k ++ putT (l.drop k) w n := by
  induction l with
  | nil => intro k hk _; simp at hk; subst hk; rfl
  | cons t l ih =>
    intro k hk h
    cases k with
    | zero => rfl
    | succ k =>
      have h0 : 0 < lexC t.1 w := by simpa [wayAt] using h 0 (by omega)
      rw [putT, if_pos h0, List.take_succ_cons, List.drop_succ_cons, List.cons_append]
      rw [ih (by simpa using hk) (fun j hj => by simpa [wayAt] using h (j + 1) (by omega))]
theorem drop_at {l : List Tm} {k : Nat} (hk : k < l.length) : l.drop k = (wayAt l k, lenAt l k) :: l.drop (k + 1) := by
  have e : (wayAt l k, lenAt l k) = l[k] := by unfold wayAt lenAt; rw [getT hk]
  rw [e]
  exact List.drop_eq_getElem_cons hk
theorem put_end {l : List Tm} {w : List Int} {n : Int} (h : ∀ j, j < l.length → 0 < lexC (wayAt l j) w) : putT l w n = l.take l.length ++ [(w, n)] ++ l.drop l.length := by
  rw [put_split (Nat.le_refl _) h]
  simp [putT]
theorem put_same {l : List Tm} {w : List Int} {n : Int} {k : Nat} (hk : k < l.length) (h : ∀ j, j < k → 0 < lexC (wayAt l j) w) (he : wayAt l k = w) : putT l w n = l.set k (wayAt l k, lenAt l k + n) := by
  rw [put_split (Nat.le_of_lt hk) h, drop_at hk]
  have hn : ¬ 0 < lexC w w := by
    have := above_ord.irr w
    rw [above_iff] at this
    exact this
  rw [he, putT, if_neg hn, if_pos rfl]
  rw [List.set_eq_take_append_cons_drop, if_pos hk]
theorem put_new {l : List Tm} {w : List Int} {n : Int} {k : Nat} (hk : k < l.length) (h : ∀ j, j < k → 0 < lexC (wayAt l j) w) (ha : ¬ 0 < lexC (wayAt l k) w) (he : wayAt l k ≠ w) : putT l w n = l.take k ++ [(w, n)] ++ l.drop k := by
  rw [put_split (Nat.le_of_lt hk) h, drop_at hk, putT, if_neg ha, if_neg he]
  simp
/-- without the words whose number is 0 -/
def cleanT (l : List Tm) : List Tm := l.filter fun p => p.2 != 0
theorem cntSum_clean (l : List Tm) : cntSum (cleanT l) = cntSum l := by
  funext x
  induction l with
  | nil => rfl
  | cons t l ih =>
    unfold cleanT at *
    rw [List.filter_cons]
    split
    · simp only [cntSum, ih]
    · rename_i h
      have h0 : t.2 = 0 := by simpa using h
      simp only [cntSum, ih, h0]
      split <;> omega
theorem clean_self {l : List Tm} (h : ∀ p ∈ l, p.2 ≠ 0) : cleanT l = l := List.filter_eq_self.2 fun p hp => by simpa using h p hp
def putsT (o : List Tm) (n : Int) (b : List Tm) : List Tm := b.foldl (fun o t => putT o t.1 (n * t.2)) o
theorem putsT_take (o : List Tm) (n : Int) (b : List Tm) {k : Nat} (hk : k < b.length) : putsT o n (b.take (k + 1)) = putT (putsT o n (b.take k)) (wayAt b k) (n * lenAt b k) := by
  unfold putsT
  rw [List.take_succ_eq_append_getElem hk, List.foldl_append]
  simp [wayAt, lenAt, List.getD_eq_getElem?_getD, hk]
def timesT (n : Int) (b : List Tm) : List Tm := b.map fun p => (p.1, n * p.2)
theorem cntSum_puts (n : Int) : ∀ (b o : List Tm), cntSum (putsT o n b) = cntSum (o ++ timesT n b)
  | [], o => by simp [putsT, timesT]
  | t :: b, o => by
    have ih := cntSum_puts n b (putT o t.1 (n * t.2))
    unfold putsT at ih ⊢
    rw [List.foldl_cons, ih]
    funext x
    rw [cntSum_append, cntSum_put, cntSum_append]
    unfold timesT addG
    simp only [List.map_cons, cntSum]
    by_cases h : x = t.1
    · subst h; simp; omega
    · rw [if_neg h, if_neg (Ne.symm h)]; omega
theorem ordered_puts (n : Int) : ∀ (b : List Tm) {o : List Tm}, Ordered Above o → Ordered Above (putsT o n b)
  | [], _, h => h
  | t :: b, o, h => by
    have := ordered_puts n b (ordered_put h t.1 (n * t.2))
    exact this
theorem puts_length (n : Int) : ∀ (b o : List Tm), (putsT o n b).length ≤ o.length + b.length
  | [], o => by simp [putsT]
  | t :: b, o => by
    have h1 := puts_length n b (putT o t.1 (n * t.2))
    have h2 := put_length o t.1 (n * t.2)
    unfold putsT at h1 ⊢
    rw [List.foldl_cons]
    simp only [List.length_cons]
    omega
/-- n times a list added to another one -/
def joinT (a : List Tm) (n : Int) (b : List Tm) : List Tm := cleanT (putsT (cleanT a) n b)
theorem ordered_clean {l : List Tm} (h : Ordered Above l) : Ordered Above (cleanT l) := List.Pairwise.filter _ h
theorem joinT_tells {a b : List Tm} (n : Int) (h : Ordered Above a) : Ordered Above (joinT a n b) ∧ Tells (cntSum (a ++ timesT n b)) (joinT a n b) := by
  have ho : Ordered Above (joinT a n b) := ordered_clean (ordered_puts n b (ordered_clean h))
  refine ⟨ho, ?_⟩
  have ht := tells_of above_ord ho fun p hp => by
    have := (List.mem_filter.1 hp).2
    simpa using this
  have e : cntSum (joinT a n b) = cntSum (a ++ timesT n b) := by
    unfold joinT
    rw [cntSum_clean, cntSum_puts]
    funext x
    rw [cntSum_append, cntSum_append, cntSum_clean]
  rwa [e] at ht
theorem joinT_length (a : List Tm) (n : Int) (b : List Tm) : (joinT a n b).length ≤ a.length + b.length := by
  have h1 := puts_length n b (cleanT a)
  have h2 : (joinT a n b).length ≤ (putsT (cleanT a) n b).length := List.length_filter_le _ _
  have h3 : (cleanT a).length ≤ a.length := List.length_filter_le _ _
  omega
end Go.Proofs.YtnfbfdamlnjblaaGreatDoor

namespace Go.Proofs.YtnfbfdamlnjblaaGreatDoor
open Go.RowKit

theorem StepsAt.extM {b1 b2 : Nat} {w w' : World} {a : Option Addr} {n : Nat} {xs : List Stp} (h : StepsAt w a n xs) (hx : ExtM b1 b2 w w') (m1 : IsMapAt w b1) (m2 : IsMapAt w b2) : StepsAt w' a n xs := by
  refine ⟨h.len, fun i hi => ?_⟩
  obtain ⟨b, o, aw, cw, e, h1, h2, h3, h4, h5⟩ := h.get i hi
  exact ⟨b, o, aw, cw, e, hx.cell m1 m2 h1, hx.cell m1 m2 h2, h3.extM hx m1 m2, h4, h5⟩
theorem ExtM.isMap_left {b1 b2 : Nat} {w w' : World} {n : Nat} {g : List Int → Int} {f1 f2 : ByteArray → Option Value} (h : Counts w' b1 b2 n g f1 f2) : IsMapAt w' b1 ∧ IsMapAt w' b2 := ⟨h.m1.is, h.m2.is⟩
theorem Tab.extM {b1 b2 : Nat} {w w' : World} (h : Tab w) (hx : ExtM b1 b2 w w') (m1 : IsMapAt w b1) (m2 : IsMapAt w b2) : Tab w' := by
  unfold Tab Lib.TabIs World.var? at *
  cases hg : Tryz.prog.globalNamed "internal/strconv.uint64pow10" with
  | none => rw [hg] at h; cases h
  | some g =>
    rw [hg] at h
    simp only [Option.bind_some] at h ⊢
    cases ho : w.heap[g]? with
    | none => rw [ho] at h; cases h
    | some o =>
      have hlt := (Array.getElem?_eq_some_iff.1 ho).1
      have hne : ∀ b, IsMapAt w b → g ≠ b := by
        rintro b ⟨es, clock, e⟩ rfl
        rw [e] at h
        cases h
      rw [hx.block g hlt (hne _ m1) (hne _ m2)]
      exact h
/-- numbers with words of a list, taken m times, added -/
def addsG (g : List Int → Int) (m : Int) (us : List Tm) : List Int → Int := fun x => g x + cntSum (timesT m us) x
theorem addsG_nil (g : List Int → Int) (m : Int) : addsG g m [] = g := by
  funext x
  simp [addsG, timesT, cntSum]
theorem addsG_take (g : List Int → Int) (m : Int) (us : List Tm) {k : Nat} (hk : k < us.length) : addsG g m (us.take (k + 1)) = addG (addsG g m (us.take k)) (wayAt us k) (m * lenAt us k) := by
  funext x
  unfold addsG timesT
  rw [take_succ_at2 us hk, List.map_append, cntSum_append]
  unfold addG
  simp only [List.map_cons, List.map_nil, cntSum]
  by_cases h : x = wayAt us k
  · subst h; simp; omega
  · rw [if_neg h, if_neg (Ne.symm h)]; omega

set_option maxRecDepth 100000 in
set_option maxHeartbeats 4000000 in
theorem cntAddAll_any (b1 b2 n0 : Nat) (g : List Int → Int) (f1 f2 : ByteArray → Option Value) (a : Option Addr) (n c : Nat) (us : List Tm) (m : Int) (w : World) (hC : Counts w b1 b2 n0 g f1 f2) (h : StepsAt w a n us) (hn : n ≤ 1000) (hn0 : n0 ≤ 1000000)
    (hk : ∀ k, k < n → KeyOk (wayAt us k) ∧ -1000000000000 ≤ m * lenAt us k ∧ m * lenAt us k ≤ 1000000000000) (hb : ∀ k, k ≤ n → ∀ x, -1000000000000000 ≤ addsG g m (us.take k) x ∧ addsG g m (us.take k) x ≤ 1000000000000000) (ht : Tab w) :
    Calls Tryz.prog 100 #[cntV b1 b2, .slice a n c, .int .i64 m] w fun e w' => e = .returned (.tuple #[]) ∧ (∃ f1' f2', Counts w' b1 b2 (n0 + n) (addsG g m us) f1' f2') ∧ ExtM b1 b2 w w' := by
  have hxa := Ext.alloc w (.cells #[.map (some b1), .map (some b2)] 107)
  have H := hidP h
  have HT := hidP ht
  have HK := hidP hk
  have HB := hidP hb
  have M1 := hidP hC.m1.is
  have M2 := hidP hC.m2.is
  have hnl := h.len
  have HA0 := hidP (CntAt.new w _ rfl b1 b2 107)
  have HC0 : Hid (∃ f1 f2, Counts (w.alloc (.cells #[.map (some b1), .map (some b2)] 107)) b1 b2 (n0 + 0) (addsG g m (us.take 0)) f1 f2) := ⟨f1, f2, by rw [List.take_zero, addsG_nil]; exact hC.below hxa⟩
  have HX0 := hidP (ExtM.of_ext (b1 := b1) (b2 := b2) hxa)
  clear hxa h ht hk hb hC
  go_enter Tryz.func100, Tryz.ntmps100
  go_wp2
  go_loopw [10] (fun i wr => ∃ k : Nat, k ≤ n ∧ i = .int .i64 k ∧ Hid (∃ f1 f2, Counts wr b1 b2 (n0 + k) (addsG g m (us.take k)) f1 f2) ∧ Hid (CntAt wr w.heap.size b1 b2) ∧ Hid (ExtM b1 b2 w wr)) (fun i _ => n - (intOf i).toNat)
  case atStart => exact ⟨0, Nat.zero_le _, rfl, HC0, HA0, HX0⟩
  case round =>
    clear HC0 HA0 HX0
    obtain ⟨k, hk, rfl, HCn, HA, HX⟩ := hrel
    by_cases hlt : k < n
    · obtain ⟨bu, o, aw, cw, W, L, rfl, HW, HL, hwl, HNl, hq⟩ := (H.out.extM HX.out M1.out M2.out).way k hlt
      have HQ := hidP hq
      obtain ⟨q1, q2, _⟩ := hq wr (Ext.refl wr)
      have hkk := HK.out k hlt
      rw [HW.out, HL.out] at hkk
      have HKo := hidP hkk.1
      have hmL := hkk.2
      have hmw : IntKind.i64.wrap (m * L) = m * L := wrap_in (by omega) (by omega)
      have HSn : Hid (addG (addsG g m (us.take k)) W (m * L) = addsG g m (us.take (k + 1))) := by
        show _ = _
        rw [addsG_take g m us (by omega), HW.out, HL.out]
      have hbk := HB.out k hk W
      have HA2 := hidP (Ext.alloc wr (.cells #[.slice aw W.length cw, .int .i64 L] 104))
      obtain ⟨q3, q4⟩ := StpAt.new wr _ rfl aw W.length cw L 104
      have q5 := HA.out.below (Ext.alloc wr (.cells #[.slice aw W.length cw, .int .i64 L] 104))
      obtain ⟨z0, z1⟩ := q5
      obtain ⟨f1', f2', hCn⟩ := HCn.out
      obtain ⟨G, hG⟩ : ∃ G, G = addsG g m (us.take k) := ⟨_, rfl⟩
      rw [← hG] at hCn HSn hbk
      have HAd := hidP (cntAdd_any b1 b2 (n0 + k) G f1' f2' aw W.length cw W (m * L) _ (hCn.below HA2.out) HKo.out (HQ.out _ HA2.out).2.2 HNl.out (by omega) (by omega) (by omega) ((HT.out.extM HX.out M1.out M2.out).below HA2.out))
      have HM1 := hidP (hCn.below HA2.out).m1.is
      have HM2 := hidP (hCn.below HA2.out).m2.is
      have HA3 := hidP (HA.out.below HA2.out)
      have HX3 := hidP (HX.out.trans (ExtM.of_ext HA2.out))
      clear hq hG hkk hCn HCn hbk
      go_wp2_with fail
      refine HAd.out.mono ?_
      rintro e w7 ⟨rfl, hC7, hx7⟩
      rw [HSn.out] at hC7
      have HC7 := hidP hC7
      have HA7 := hidP (HA3.out.extM hx7 HM1.out HM2.out)
      have HX7 := hidP (HX3.out.trans hx7)
      clear hC7 hx7 q1 q2 q3 q4 z0 z1
      go_wp2
      go_roundw
      case rel => exact ⟨k + 1, by omega, by go_num, HC7, HA7, HX7⟩
      case measure => simp [intOf]; omega
    · obtain rfl : n = k := by omega
      have HTk : Hid (us.take n = us) := List.take_of_length_le (by omega)
      rw [HTk.out] at HCn
      go_wp2
      go_end0
      exact ⟨rfl, HCn.out, HX.out⟩
/-! ### AddCharacters. Printed by gen/addP.py. -/
def addR (r : Int) (ts : List Int) (us vs : List Tm) : Bool × List Tm := if typeB r ts && chrB r.toNat us then (if chrB r.toNat vs then chrR r.toNat (joinT us 1 vs) else (false, [])) else (false, [])
theorem timesT_one (us : List Tm) : timesT 1 us = us := by
  unfold timesT
  rw [show (fun p : Tm => (p.1, 1 * p.2)) = id from funext fun p => by simp]
  simp
theorem take_bound {r : Nat} {us : List Tm} (h : ChrP r us) (k : Nat) (x : List Int) : 0 ≤ cntSum (us.take k) x ∧ cntSum (us.take k) x ≤ 400000000 := by
  have hl := h.len
  have := cntSum_bound (M := 1000000) (by omega) (l := us.take k) x fun p hp => by
    have := (h.each p (List.mem_of_mem_take hp)).2
    exact ⟨by omega, this.2⟩
  simp only [List.length_take] at this
  have h3 : ((min k us.length : Nat) : Int) ≤ 400 := by omega
  have h4 : ((min k us.length : Nat) : Int) * 1000000 ≤ 400 * 1000000 := Int.mul_le_mul_of_nonneg_right h3 (by omega)
  omega
theorem ChrP.keyAt {r : Nat} {us : List Tm} (h : ChrP r us) (hr : r ≤ 4) {k : Nat} (hk : k < us.length) : KeyOk (wayAt us k) := by
  obtain ⟨h1, h2, _⟩ := h.at hr hk
  refine ⟨fun j hj => ?_, by omega⟩
  have := h2 j (by omega)
  omega

set_option maxRecDepth 100000 in
set_option maxRecDepth 100000 in
set_option maxHeartbeats 4000000 in
theorem addCharacters_any (r : Int) (ta : Option Addr) (tn tc : Nat) (ts : List Int) (a : Option Addr) (n c : Nat) (xs : List Tm) (a' : Option Addr) (n' c' : Nat) (ys : List Tm) (w : World) (hc : IntsAt w ta tn ts) (hcn : tn ≤ 9223372036854775807)
    (h : StepsAt w a n xs) (hn : n ≤ 9223372036854775807) (h' : StepsAt w a' n' ys) (hn' : n' ≤ 9223372036854775807) (hm : MaxL w) (ht : Tab w) :
    PathRes 47 #[carV r ta tn tc, .slice a n c, .slice a' n' c'] w (addR r ts xs ys) := by
  unfold PathRes
  have hx1 := Ext.alloc w (.cells #[.int .i64 r, .slice ta tn tc] 55)
  have HC := hidP (fun w' (hx : Ext (w.alloc (.cells #[.int .i64 r, .slice ta tn tc] 55)) w') => (CarAt.new w _ rfl r ta tn tc 55).below hx)
  have HX1 := hidP hx1
  have H := hidP (h.below hx1)
  have H' := hidP (h'.below hx1)
  have HIs := hidP (fun w' (hx : Ext w w') => isCartan_any r ta tn tc ts w' (hc.below hx) hcn (hm.below hx))
  have HP := hidP (characterOk_of r ta tn tc ts a n c xs _ (h.below hx1).terms hn (fun w' hx => HIs.out w' (hx1.trans hx)))
  have HP' := hidP (fun w' (hx : Ext (w.alloc (.cells #[.int .i64 r, .slice ta tn tc] 55)) w') => characterOk_of r ta tn tc ts a' n' c' ys w' ((h'.below hx1).below hx).terms hn' (fun w'' hx' => HIs.out w'' ((hx1.trans hx).trans hx')))
  have HTb := hidP ht
  clear ht
  have hs1 : w.heap.size ≤ (w.alloc (.cells #[.int .i64 r, .slice ta tn tc] 55)).heap.size := hx1.size
  clear hc h h' hx1 hm
  obtain ⟨w1, hw1⟩ : ∃ w1, w1 = w.alloc (.cells #[.int .i64 r, .slice ta tn tc] 55) := ⟨_, rfl⟩
  rw [← hw1] at HC HX1 H H' HP HP' hs1
  have HS1 := hidP hs1
  clear hs1
  obtain ⟨f0, f1⟩ := HC.out w1 (Ext.refl w1)
  cases hT : (typeB r ts && chrB r.toNat xs)
  · have HR : Hid (addR r ts xs ys = (false, [])) := by
      show _ = _
      unfold addR
      rw [hT]
      rfl
    rw [hT] at HP
    clear hT
    go_enter Tryz.func47, Tryz.ntmps47
    go_wp2_with fail
    rw [← hw1]
    clear hw1
    refine HP.out.mono ?_
    rintro e w2 ⟨rfl, hx⟩
    have HX := hidP hx
    clear hx
    go_wp2
    refine bodyPost_ret (v := .tuple #[.slice none 0 0, .bool false]) (by simp [results, Tryz.results47, go_sem]) rfl ⟨none, 0, 0, [], by rw [HR.out], ?_, HX1.out.trans HX.out⟩
    rw [HR.out]
    exact OwnK.nil stepK _ _ _
  · have hT2 : typeB r ts = true := by
      simp only [Bool.and_eq_true] at hT
      exact hT.1
    have hP1 : chrB r.toNat xs = true := by
      simp only [Bool.and_eq_true] at hT
      exact hT.2
    obtain ⟨hr1, hr4, _⟩ := typeB_rank hT2
    obtain ⟨R, rfl⟩ : ∃ R : Nat, r = R := ⟨r.toNat, by omega⟩
    rw [Int.toNat_natCast] at hP1
    have hR : R ≤ 4 := by omega
    rw [hT2, Bool.true_and, Int.toNat_natCast] at HP'
    cases hQ : chrB R ys
    · have HR : Hid (addR R ts xs ys = (false, [])) := by
        show _ = _
        unfold addR
        rw [hT, Int.toNat_natCast, hQ]
        rfl
      rw [hT] at HP
      rw [hQ] at HP'
      clear hT hT2 hP1 hQ hr1 hr4
      go_enter Tryz.func47, Tryz.ntmps47
      go_wp2_with fail
      rw [← hw1]
      clear hw1
      refine HP.out.mono ?_
      rintro e w2 ⟨rfl, hx⟩
      obtain ⟨g0, g1⟩ := HC.out w2 hx
      have HX := hidP hx
      clear hx f0 f1
      go_wp2_with fail
      refine (HP'.out _ HX.out).mono ?_
      rintro e w3 ⟨rfl, hx⟩
      have HX3 := hidP (HX.out.trans hx)
      clear hx g0 g1
      go_wp2
      refine bodyPost_ret (v := .tuple #[.slice none 0 0, .bool false]) (by simp [results, Tryz.results47, go_sem]) rfl ⟨none, 0, 0, [], by rw [HR.out], ?_, HX1.out.trans HX3.out⟩
      rw [HR.out]
      exact OwnK.nil stepK _ _ _
    · have HR2 : Hid (addR R ts xs ys = chrR R (joinT xs 1 ys)) := by
        show _ = _
        unfold addR
        rw [hT, Int.toNat_natCast, hQ]
        rfl
      have HU := hidP (chrB_iff.1 hP1)
      have HV := hidP (chrB_iff.1 hQ)
      have HT2 := hidP hT2
      rw [hT] at HP
      rw [hQ] at HP'
      have hnl := H.out.len
      have hnl' := H'.out.len
      have hu4 := HU.out.len
      have hv4 := HV.out.len
      clear hT hT2 hP1 hQ hr1 hr4
      go_enter Tryz.func47, Tryz.ntmps47
      go_wp2_with fail
      rw [← hw1]
      clear hw1
      refine HP.out.mono ?_
      rintro e w2 ⟨rfl, hx⟩
      obtain ⟨g0, g1⟩ := HC.out w2 hx
      have HX := hidP hx
      clear hx f0 f1
      go_wp2_with fail
      refine (HP'.out _ HX.out).mono ?_
      rintro e w3 ⟨rfl, hx⟩
      have HX3 := hidP (HX1.out.trans (HX.out.trans hx))
      have HC3 := hidP (HC.out w3 (HX.out.trans hx))
      have HY3 := hidP (HX.out.trans hx)
      have HN := hidP (newCounts_any w3)
      clear hx g0 g1
      go_wp2_with fail
      refine HN.out.mono ?_
      rintro e w4 ⟨b, rfl, hC4, hb4, hx4⟩
      have hx5 := Ext.alloc w4 (.cells #[.map (some b), .map (some (b + 1))] 107)
      have HX5 := hidP (HX3.out.trans (hx4.trans hx5))
      have HC5 := hidP (hC4.below hx5)
      have HY5 := hidP (HY3.out.trans (hx4.trans hx5))
      have HCr5 := hidP (HC3.out.below (hx4.trans hx5))
      have HA5 := hidP (CntAt.new w4 _ rfl b (b + 1) 107)
      have HB : Hid (w.heap.size ≤ b) := Nat.le_trans HX3.out.size hb4
      obtain ⟨w5, hw5⟩ : ∃ w5, w5 = w4.alloc (.cells #[.map (some b), .map (some (b + 1))] 107) := ⟨_, rfl⟩
      rw [← hw5] at HX5 HC5 HCr5 HA5 HY5
      obtain ⟨bk, hbk⟩ : ∃ bk, bk = w4.heap.size := ⟨_, rfl⟩
      rw [← hbk] at HA5
      clear hC4 hb4 hx4 hx5 HN
      have hadd0 : ∀ k, addsG (fun _ => 0) 1 (xs.take k) = cntSum (xs.take k) := fun k => by
        funext x
        show (0 : Int) + cntSum (timesT 1 (xs.take k)) x = _
        rw [timesT_one, Int.zero_add]
      have HAd := hidP (cntAddAll_any b (b + 1) 0 (fun _ => 0) _ _ a n c xs 1 w5 HC5.out (H.out.below HY5.out) (by omega) (by omega) (fun k hk => by
        have := HU.out.at hR (k := k) (by omega)
        exact ⟨HU.out.keyAt hR (by omega), by omega, by omega⟩) (fun k hk x => by
        rw [hadd0]
        have := take_bound HU.out k x
        omega) (HTb.out.below HX5.out))
      obtain ⟨z0, z1⟩ := HA5.out
      go_wp2_with fail
      rw [← hw5]
      simp only [← hbk]
      clear hw5 hbk
      refine HAd.out.mono ?_
      rintro e w6 ⟨rfl, ⟨f1, f2, hC6⟩, hx6⟩
      have hm1 := HC5.out.m1.is
      have hm2 := HC5.out.m2.is
      have HA6 := hidP (HA5.out.extM hx6 hm1 hm2)
      have HCr6 := hidP (HCr5.out.extM hx6 hm1 hm2)
      have HX6 : Hid (Ext w w6) := hidP (hx6.below HX5.out HB.out (Nat.le_succ_of_le HB.out) HX5.out.size)
      have HH6 := hidP ((H'.out.below HY5.out).extM hx6 hm1 hm2)
      have hg6 : addsG (fun _ => 0) 1 xs = cntSum xs := by
        have := hadd0 xs.length
        rwa [List.take_length] at this
      rw [hg6] at hC6
      have hadd1 : ∀ k x, addsG (cntSum xs) 1 (ys.take k) x = cntSum xs x + cntSum (ys.take k) x := fun k x => by
        show cntSum xs x + cntSum (timesT 1 (ys.take k)) x = _
        rw [timesT_one]
      have HAd2 := hidP (cntAddAll_any b (b + 1) (0 + n) (cntSum xs) f1 f2 a' n' c' ys 1 w6 hC6 HH6.out (by omega) (by omega) (fun k hk => by
        have := HV.out.at hR (k := k) (by omega)
        exact ⟨HV.out.keyAt hR (by omega), by omega, by omega⟩) (fun k hk x => by
        rw [hadd1]
        have h1 := take_bound HV.out k x
        have h2 := take_bound HU.out xs.length x
        rw [List.take_length] at h2
        omega) (HTb.out.below HX6.out))
      have HM1 := hidP hC6.m1.is
      have HM2 := hidP hC6.m2.is
      clear hC6 hx6 hm1 hm2 z0 z1 HAd hadd0 hg6
      obtain ⟨z0, z1⟩ := HA6.out
      go_wp2_with fail
      refine HAd2.out.mono ?_
      rintro e w7 ⟨rfl, ⟨f1, f2, hC7⟩, hx7⟩
      have HA7 := hidP (HA6.out.extM hx7 HM1.out HM2.out)
      have HCr7 := hidP (HCr6.out.extM hx7 HM1.out HM2.out)
      have HX7 : Hid (Ext w w7) := hidP (hx7.below HX6.out HB.out (Nat.le_succ_of_le HB.out) HX6.out.size)
      have hg7 : addsG (cntSum xs) 1 ys = cntSum (xs ++ timesT 1 ys) := by
        funext x
        rw [cntSum_append]
        rfl
      rw [hg7] at hC7
      obtain ⟨hjo, hjt⟩ := joinT_tells (a := xs) (b := ys) 1 HU.out.ord
      have HCh := hidP (cntCharacter_any R ta tn tc ts b (b + 1) (0 + n + n') _ f1 f2 (joinT xs 1 ys) w7 hC7 hjt hjo (by have := joinT_length xs 1 ys; omega) HT2.out (fun w' hx => HIs.out w' (HX7.out.trans hx)))
      rw [Int.toNat_natCast, ← HR2.out] at HCh
      unfold PathRes at HCh
      clear hC7 hx7 hjo hjt z0 z1 HAd2 hadd1 hg7
      obtain ⟨z0, z1⟩ := HA7.out
      obtain ⟨g0, g1⟩ := HCr7.out
      go_wp2_with fail
      refine HCh.out.mono ?_
      rintro e w8 ⟨a8, n8, c8, hs8, rfl, ho8, hx8⟩
      have HO8 := hidP (ho8.weaken (B' := w.heap.size) HX7.out.size (Nat.le_refl _))
      have HX8 := hidP (HX7.out.trans hx8)
      clear ho8 hx8
      go_wp2
      refine bodyPost_ret (v := .tuple #[.slice a8 n8 c8, .bool (addR R ts xs ys).1]) (by simp [results, Tryz.results47, go_sem]) rfl ⟨a8, n8, c8, hs8, rfl, HO8.out, HX8.out⟩
end Go.Proofs.YtnfbfdamlnjblaaGreatDoor

namespace Go.Proofs.YtnfbfdamlnjblaaGreatDoor
open Go.RowKit

variable {α : Type}
/-- m elements that lie one behind the other from a place on, each with its numbers in memory of its own -/
structure PartK (K : Knd α) (w : World) (B g o m : Nat) (hs : List Hdr) (xs : List α) : Prop where
  hl : hs.length = m
  xl : xs.length = m
  cells : ∀ (j : Nat) u, (K.all hs xs)[j]? = some u → w.cell? ((⟨g, o, none⟩ : Addr).add j) = some u
  each : ∀ i, i < m → OwnI w B (hs.getD i (none, 0)).1 (K.ints (xs.getD i K.dft)).length (hs.getD i (none, 0)).2 (K.ints (xs.getD i K.dft))
  apart : ∀ i j, i < m → j < m → i ≠ j → Apart (hs.getD i (none, 0)).1 (hs.getD j (none, 0)).1
theorem PartK.below {K : Knd α} {w w' : World} {B g o m : Nat} {hs : List Hdr} {xs : List α} (h : PartK K w B g o m hs xs) (hx : Ext w w') : PartK K w' B g o m hs xs :=
  ⟨h.hl, h.xl, fun j u hu => (hx.cell (World.block_lt_of_cell? w _ (h.cells j u hu))).trans (h.cells j u hu), fun i hi => (h.each i hi).below hx, h.apart⟩
theorem OwnK.part {K : Knd α} {w : World} {B U g n c : Nat} {hs : List Hdr} {xs : List α} (h : OwnK K w B U (some ⟨g, 0, none⟩) n c hs xs) (i : Nat) (hi : i ≤ n) : PartK K w B g (i * K.size) (n - i) (hs.drop i) (xs.drop i) := by
  have hhl := h.hl
  have hxl := h.xl
  have hall := K.all_length hs xs (hhl.trans hxl.symm)
  have hsplit : K.all hs xs = K.all (hs.take i) (xs.take i) ++ K.all (hs.drop i) (xs.drop i) := by
    rw [← K.all_append _ _ _ _ (by simp; omega), List.take_append_drop, List.take_append_drop]
  have hlen : (K.all (hs.take i) (xs.take i)).length = i * K.size := by
    rw [K.all_length _ _ (by simp; omega), List.length_take, hxl, Nat.min_eq_left hi]
  refine ⟨by simp; omega, by simp; omega, fun j u hu => ?_, fun q hq => ?_, fun q r hq hr hqr => ?_⟩
  · have h1 : (K.all hs xs)[i * K.size + j]? = some u := by
      rw [hsplit, List.getElem?_append_right (by omega), hlen, Nat.add_sub_cancel_left]
      exact hu
    have h2 : i * K.size + j < n * K.size := by
      have := (List.getElem?_eq_some_iff.1 h1).1
      rwa [hall, hxl] at this
    rw [add_none, h.row.cellAt _ h2]
    exact h1
  · have := h.each (i + q) (by omega)
    simpa [List.getD_eq_getElem?_getD, List.getElem?_drop] using this
  · have := h.apart (i + q) (i + r) (by omega) (by omega) (by omega)
    simpa [List.getD_eq_getElem?_getD, List.getElem?_drop] using this
theorem OwnK.cat_part {K : Knd α} {w w' : World} {B U : Nat} {a : Option Addr} {n c g o m : Nat} {hs hs2 : List Hdr} {xs xs2 : List α} (hown : OwnK K w B U a n c hs xs) (h2 : PartK K w B g o m hs2 xs2) {v' : Value}
    (hr : w'.ownsRow B K.E K.size v' (n + m) (K.all hs xs ++ K.all hs2 xs2)) (hg : w.grownBy w' (Value.slice a n c).ownBlock)
    (hap : ∀ i j, i < n → j < m → Apart (hs.getD i (none, 0)).1 (hs2.getD j (none, 0)).1) (hsl : ∃ a' c', v' = .slice a' (n + m) c') :
    ∃ a' c', v' = .slice a' (n + m) c' ∧ OwnK K w' B w'.heap.size a' (n + m) c' (hs ++ hs2) (xs ++ xs2) := by
  rw [← K.all_append hs hs2 xs xs2 (hown.hl.trans hown.xl.symm)] at hr
  obtain ⟨a', c', rfl⟩ := hsl
  refine ⟨a', c', rfl, ?_⟩
  have hxl := hown.xl
  have hhl := hown.hl
  have hxl2 := h2.xl
  have hhl2 := h2.hl
  have hne : ∀ {p : Option Addr} {k q : Nat} {ys : List Int}, OwnI w B p k q ys → ∀ b o, p = some ⟨b, o, none⟩ → some b ≠ (Value.slice a n c).ownBlock := fun hk b o e => by
    rcases hown.form with ⟨rfl, _⟩ | ⟨g', cur, rfl, _⟩
    · simp [Value.ownBlock]
    · have := hown.off_ints hk g' 0 b o rfl e
      simp only [Value.ownBlock, ne_eq, Option.some.injEq]
      omega
  have hev : ∀ q, q < n + m → OwnI w' B ((hs ++ hs2).getD q (none, 0)).1 (K.ints ((xs ++ xs2).getD q K.dft)).length ((hs ++ hs2).getD q (none, 0)).2 (K.ints ((xs ++ xs2).getD q K.dft)) := fun q hq => by
    by_cases h3 : q < n
    · rw [getD_left _ _ _ _ (by omega), getD_left _ _ _ _ (by omega)]
      exact (hown.each q h3).grown hg fun b o e => hne (hown.each q h3) b o e
    · rw [getD_right _ _ _ _ (by omega), getD_right _ _ _ _ (by omega), hhl, hxl]
      exact (h2.each _ (by omega)).grown hg fun b o e => hne (h2.each _ (by omega)) b o e
  refine ⟨hr, by simp [hhl, hhl2], by simp [hxl, hxl2], hev, fun q r hq hr' hqr => ?_, fun q hq b o e => ((hev q hq).at_base b o e).2, fun b o e => ?_⟩
  · by_cases h3 : q < n
    · rw [getD_left hs _ q _ (by omega)]
      by_cases h4 : r < n
      · rw [getD_left hs _ r _ (by omega)]; exact hown.apart q r h3 h4 hqr
      · rw [getD_right hs _ r _ (by omega)]; exact hap q _ h3 (by omega)
    · rw [getD_right hs _ q _ (by omega)]
      by_cases h4 : r < n
      · rw [getD_left hs _ r _ (by omega)]; exact (hap r _ h4 (by omega)).symm
      · rw [getD_right hs _ r _ (by omega)]; exact h2.apart _ _ (by omega) (by omega) (by omega)
  · rcases hr.2 with ⟨h5, h0⟩ | ⟨g', cap, cur, he, _, hg', _⟩
    · simp only [Value.slice.injEq] at h5
      rw [h5.1] at e
      cases e
    · simp only [Value.slice.injEq] at he
      rw [e] at he
      simp only [Option.some.injEq, Addr.mk.injEq, and_true] at he
      obtain ⟨⟨rfl, _⟩, _⟩ := he
      exact (Array.getElem?_eq_some_iff.1 hg').1

/-- append of a part's elements to an owned slice, at a single operation -/
theorem wp_append_part {o : Oper} {av : Act} {Kk : Act → World → Prop} {Q : Exit → Act → World → Prop} {w : World} (K : Knd α) (T : TypeId) (z : Value) (bytes : Nat) (s x : Operand)
    (ho : o.op = .call { callee := .builtin .append, args := #[s, x], argTypes := #[T, T] }) (hT : Tryz.prog.underlying T = some (.slice K.E)) (hinfo : (Tryz.prog.info? K.E).map (fun i => (i.zero, i.size, i.bytes)) = some (some z, K.size, bytes))
    (hz : z.cells.size = K.size) (hbp : bytes ≤ 1000)
    (B U : Nat) (g0 n c : Nat) (hs hs2 : List Hdr) (xs xs2 : List α) (hsv : av.eval s = .slice (some ⟨g0, 0, none⟩) n c) (hown : OwnK K w B U (some ⟨g0, 0, none⟩) n c hs xs)
    (g o2 m c2 : Nat) (hx : av.eval x = .slice (some ⟨g, o2, none⟩) m c2) (h2 : PartK K w B g o2 m hs2 xs2)
    (hap : ∀ i j, i < n → j < m → Apart (hs.getD i (none, 0)).1 (hs2.getD j (none, 0)).1) (hsm : n + m ≤ 1000000000) (hB : B ≤ w.heap.size)
    (h : ∀ g' c' w', OwnK K w' B w'.heap.size (some ⟨g', 0, none⟩) (n + m) c' (hs ++ hs2) (xs ++ xs2) → w.grownBy w' (some g0) → (g' = g0 ∨ w.heap.size ≤ g') → Kk (av.put o.dst (.slice (some ⟨g', 0, none⟩) (n + m) c')) w') : o.wp Tryz.prog av w Kk Q := by
  obtain ⟨i, hi, hz0, hz1, hz2⟩ := info_parts hinfo
  have hl2 := K.all_length hs2 xs2 (h2.hl.trans h2.xl.symm)
  rw [h2.xl] at hl2
  have hcells := h2.cells
  obtain ⟨gb, cur, eb, _⟩ : ∃ gb cur, (some (⟨g0, 0, none⟩ : Addr)) = some ⟨gb, 0, none⟩ ∧ w.heap[gb]? = some (.cells cur K.E (0, 0)) := by
    rcases hown.form with ⟨e, _⟩ | ⟨gb, cur, e, _, _, h3, _⟩
    · cases e
    · exact ⟨gb, cur, e, h3⟩
  by_cases hroom : n + m ≤ c
  · obtain ⟨w', hrun, hr, hg⟩ := run_append_fits (P := Tryz.prog) w B T o.type K.E i K.size hT hi hz1 g0 n c (K.all hs xs) hown.row ⟨g, o2, none⟩ m c2 (K.all hs2 xs2) hl2 hcells (K.all_one _ _) hroom
    obtain ⟨a', c', e, hk⟩ := hown.cat_part h2 hr hg hap ⟨_, _, rfl⟩
    simp only [Value.slice.injEq] at e
    obtain ⟨rfl, _, rfl⟩ := e
    unfold Oper.wp
    simp only [execOp, ho, resolve, invoke, builtin, Sem.run_bind, Sem.run_pure, Result.andThen_ok, List.map_toArray, List.map_cons, List.map_nil, hsv, hx, hrun]
    exact h _ _ w' hk hg (.inl rfl)
  · have hlx := K.all_length hs xs (hown.hl.trans hown.xl.symm)
    rw [hown.xl] at hlx
    obtain ⟨v', w', hrun, hr, hg0⟩ := run_append_arg_grows (P := Tryz.prog) w T o.type K.E i z K.size bytes hT hi hz0 hz1 hz2 hz K.pos ⟨g0, 0, none⟩ n c (K.all hs xs) hlx (by
      intro j u hu
      have hj : j < n * K.size := by have := (List.getElem?_eq_some_iff.1 hu).1; rwa [hlx] at this
      rw [add_none, Nat.zero_add, hown.row.cellAt j hj]
      exact hu) ⟨g, o2, none⟩ m c2 (K.all hs2 xs2) hl2 hcells (by omega) (by unfold maxLen; omega)
      (by calc (n + m) * bytes ≤ 1000000000 * 1000 := Nat.mul_le_mul (by omega) hbp
            _ ≤ _ := by omega)
    have hg : w.grownBy w' (Value.slice (some ⟨g0, 0, none⟩) n c).ownBlock := ⟨hg0.os, hg0.tape, hg0.output, hg0.size, fun k hk _ => hg0.block k hk (by simp)⟩
    have hr2 : w'.ownsRow B K.E K.size v' (n + m) (K.all hs xs ++ K.all hs2 xs2) := by
      refine ⟨hr.1, ?_⟩
      rcases hr.2 with h2 | ⟨g', cap, cur, he, hB', r⟩
      · exact .inl h2
      · exact .inr ⟨g', cap, cur, he, Nat.le_trans hB hB', r⟩
    obtain ⟨g', cap, he, hB'⟩ : ∃ g' cap, v' = .slice (some ⟨g', 0, none⟩) (n + m) cap ∧ w.heap.size ≤ g' := by
      rcases hr.2 with ⟨e5, h0⟩ | ⟨g', cap, cur, he, hB', _⟩
      · omega
      · exact ⟨g', cap, he, hB'⟩
    subst he
    obtain ⟨a', c', e, hk⟩ := hown.cat_part h2 hr2 hg hap ⟨_, _, rfl⟩
    simp only [Value.slice.injEq, true_and] at e
    obtain ⟨rfl, rfl⟩ := e
    unfold Oper.wp
    simp only [execOp, ho, resolve, invoke, builtin, Sem.run_bind, Sem.run_pure, Result.andThen_ok, List.map_toArray, List.map_cons, List.map_nil, hsv, hx, hrun]
    exact h g' _ w' hk hg (.inr hB')
theorem wpList_append_part {ops : Array Oper} {rest : List Oper} {o : Oper} {av : Act} {Q : Exit → Act → World → Prop} {w : World} (K : Knd α) (T : TypeId) (z : Value) (bytes : Nat) (hgd : o.guard = none) (s x : Operand)
    (ho : o.op = .call { callee := .builtin .append, args := #[s, x], argTypes := #[T, T] }) (hT : Tryz.prog.underlying T = some (.slice K.E)) (hinfo : (Tryz.prog.info? K.E).map (fun i => (i.zero, i.size, i.bytes)) = some (some z, K.size, bytes))
    (hz : z.cells.size = K.size) (hbp : bytes ≤ 1000)
    (B U : Nat) (g0 n c : Nat) (hs hs2 : List Hdr) (xs xs2 : List α) (hsv : av.eval s = .slice (some ⟨g0, 0, none⟩) n c) (hown : OwnK K w B U (some ⟨g0, 0, none⟩) n c hs xs)
    (g o2 m c2 : Nat) (hx : av.eval x = .slice (some ⟨g, o2, none⟩) m c2) (h2 : PartK K w B g o2 m hs2 xs2)
    (hap : ∀ i j, i < n → j < m → Apart (hs.getD i (none, 0)).1 (hs2.getD j (none, 0)).1) (hsm : n + m ≤ 1000000000) (hB : B ≤ w.heap.size)
    (h : ∀ g' c' w', OwnK K w' B w'.heap.size (some ⟨g', 0, none⟩) (n + m) c' (hs ++ hs2) (xs ++ xs2) → w.grownBy w' (some g0) → (g' = g0 ∨ w.heap.size ≤ g') → wpList Tryz.prog ops Q rest (av.put o.dst (.slice (some ⟨g', 0, none⟩) (n + m) c')) w') : wpList Tryz.prog ops Q (o :: rest) av w :=
  wpList_plain hgd fun _ hK' => wp_append_part K T z bytes s x ho hT hinfo hz hbp B U g0 n c hs hs2 xs xs2 hsv hown g o2 m c2 hx h2 hap hsm hB fun g' c' w' r1 r2 r3 => hK' _ _ (h g' c' w' r1 r2 r3)
theorem OwnK.front {K : Knd α} {w : World} {B U g n c : Nat} {hs : List Hdr} {xs : List α} (h : OwnK K w B U (some ⟨g, 0, none⟩) n c hs xs) (i : Nat) (hi : i ≤ n) : PartK K w B g 0 i (hs.take i) (xs.take i) := by
  have := (h.take i hi).part 0 (Nat.zero_le _)
  simpa using this
theorem PartK.single {K : Knd α} {w : World} {B g : Nat} {h1 : Hdr} {x1 : α} (hc : ∀ j, j < K.size → w.cell? ⟨g, j, none⟩ = (K.cells h1.1 h1.2 x1)[j]?) (hi : OwnI w B h1.1 (K.ints x1).length h1.2 (K.ints x1)) : PartK K w B g 0 1 [h1] [x1] := by
  refine ⟨rfl, rfl, fun j u hu => ?_, fun i hi' => ?_, fun i j hi' hj' hne => by omega⟩
  · have e : K.all [h1] [x1] = K.cells h1.1 h1.2 x1 := by simp [Knd.all]
    rw [e] at hu
    have hj : j < K.size := by have := (List.getElem?_eq_some_iff.1 hu).1; rwa [K.len] at this
    rw [add_none, Nat.zero_add, hc j hj]
    exact hu
  · obtain rfl : i = 0 := by omega
    exact hi
/-- an owned slice stays where another block is written, if that one is none of its own -/
theorem OwnK.past {K : Knd α} {w w' : World} {B U b n c : Nat} {a : Option Addr} {hs : List Hdr} {xs : List α} (h : OwnK K w B U a n c hs xs) (hg : w.grownBy w' (some b)) (ha : ∀ g o, a = some ⟨g, o, none⟩ → g ≠ b) (hb : U ≤ b) : OwnK K w' B U a n c hs xs :=
  h.kept hg (fun g o e e2 => ha g o e (Option.some.inj e2)) fun i hi g o e e2 => by
    have := h.lt i hi g o e
    have := Option.some.inj e2
    omega
theorem OwnI.past {w w' : World} {B n c b : Nat} {a : Option Addr} {xs : List Int} (h : OwnI w B a n c xs) (hg : w.grownBy w' (some b)) (ha : ∀ g o, a = some ⟨g, o, none⟩ → g ≠ b) : OwnI w' B a n c xs :=
  h.grown hg fun g o e e2 => ha g o e (Option.some.inj e2)
theorem PartK.moved {K : Knd α} {w : World} {B g o o' m : Nat} {hs : List Hdr} {xs : List α} (h : PartK K w B g o m hs xs) (hm : o' = o ∨ m = 0) : PartK K w B g o' m hs xs := by
  rcases hm with rfl | rfl
  · exact h
  · obtain rfl : hs = [] := List.length_eq_zero_iff.1 h.hl
    obtain rfl : xs = [] := List.length_eq_zero_iff.1 h.xl
    exact ⟨rfl, rfl, fun j u hu => by simp [Knd.all] at hu, fun i hi => by omega, fun i j hi => by omega⟩
end Go.Proofs.YtnfbfdamlnjblaaGreatDoor

namespace Go.Proofs.YtnfbfdamlnjblaaGreatDoor
open Go.RowKit


set_option maxRecDepth 100000 in
set_option maxHeartbeats 8000000 in
theorem l8Put_any (B : Nat) (go m co : Nat) (hs : List Hdr) (xs : List Tm) (aw : Option Addr) (cw : Nat) (W : List Int) (L : Int) (w : World) (ho : OwnK stepK w B w.heap.size (some ⟨go, 0, none⟩) m co hs xs)
    (hway : IntsAt w aw W.length W) (hnil : aw = none → cw = 0) (hk : W.length ≤ 1000000) (hm : m ≤ 1000000) (hB : B ≤ w.heap.size)
    (hsum : ∀ i, i < m → -9223372036854775808 ≤ lenAt xs i + L ∧ lenAt xs i + L ≤ 9223372036854775807) :
    Calls Tryz.prog 104 #[.slice (some ⟨go, 0, none⟩) m co, .slice aw W.length cw, .int .i64 L] w fun e w' => ∃ g' n' c' hs', e = .returned (.slice (some ⟨g', 0, none⟩) n' c') ∧ OwnK stepK w' B w'.heap.size (some ⟨g', 0, none⟩) n' c' hs' (putT xs W L) ∧ Below B w w' := by
  have HO := hidP ho
  have HWy := hidP hway
  have HN := hidP hnil
  have hxl := ho.xl
  have hhl := ho.hl
  have HB := hidP hB
  have hmc : m ≤ co := by
    rcases ho.form with ⟨e, _⟩ | ⟨_, _, _, _, _, _, h1, _⟩
    · cases e
    · exact h1
  have HSm := hidP hsum
  have HI := hidP (fun w' (hx : Ext w w') => l1Ints_any aw W.length cw W w' (HWy.out.below hx) HN.out (by omega))
  clear ho hway hnil hB hsum
  go_enter Tryz.func104, Tryz.ntmps104
  go_wp2
  go_loopw [7] (fun i wr => ∃ k : Nat, k ≤ m ∧ i = .int .i64 k ∧ Hid (∀ j, j < k → 0 < lexC (wayAt xs j) W) ∧ Hid (Ext w wr)) (fun i _ => m - (intOf i).toNat)
  case atStart => exact ⟨0, Nat.zero_le _, rfl, fun j hj => by omega, Ext.refl _⟩
  case round =>
    obtain ⟨k, hkm, rfl, HJ, HX⟩ := hrel
    by_cases hlt : k < m
    · obtain ⟨b, o, aV, cV, V, M, e', HV, HM, hvl, HNV, hq⟩ := ((HO.out.below HX.out).stepsAt).way k hlt
      simp only [Option.some.injEq, Addr.mk.injEq, and_true] at e'
      obtain ⟨rfl, rfl⟩ := e'
      have HQ := hidP hq
      obtain ⟨q1, q2, _⟩ := hq wr (Ext.refl wr)
      rw [Nat.zero_add] at q1 q2
      have hki : (k : Int) < (m : Int) := by omega
      have HAb := hidP (fun w' (hx : Ext wr w') => l6Above_any aV aw V.length W.length cV cw V W w' (HQ.out w' hx).2.2 ((HWy.out.below HX.out).below hx) hvl (by omega))
      clear hq
      cases hV : decide (0 < lexC V W)
      · rw [hV] at HAb
        have hna := of_decide_eq_false hV
        go_wp2_with fail
        refine (HAb.out _ (Ext.refl _)).mono ?_
        rintro e w2 ⟨rfl, hx2⟩
        have HX2 := hidP (HX.out.trans hx2)
        obtain ⟨q1, q2, _⟩ := HQ.out w2 hx2
        rw [Nat.zero_add] at q1 q2
        have HSame := hidP (l1Same_any aV aw V.length W.length cV cw V W w2 (HQ.out w2 hx2).2.2 (HWy.out.below HX2.out) hvl (by omega))
        clear hV HAb hx2
        cases hE : (V == W)
        · rw [hE] at HSame
          have HNe : Hid (putT xs W L = xs.take k ++ [(W, L)] ++ xs.drop k) := by
            show _ = _
            exact put_new (by omega) HJ.out (by rw [HV.out]; omega) (by rw [HV.out]; simpa using hE)
          clear hE hna
          go_wp2_with fail
          refine HSame.out.mono ?_
          rintro e w3 ⟨rfl, q, rfl⟩
          have HX3 := hidP (HX2.out.trans (Ext.drewN w2 q))
          clear HSame q1 q2
          go_wp2
          obtain ⟨wr', hwr'⟩ : ∃ x, x = w2.drewN q := ⟨_, rfl⟩
          rw [← hwr'] at HX3 ⊢
          clear hwr'
          have hE : Ext wr' wr'.drew := Ext.drew wr'
          have hk0 : (0 : Int) ≤ (k : Int) := by omega
          have hk1 : (k : Int) ≤ (m : Int) := by omega
          have hk2 : (k : Int) ≤ (co : Int) := by omega
          have hk3 : (m : Int) ≤ (co : Int) := by omega
          have hwsz := HX3.out.size
          have hgo := HO.out.base_lt go 0 rfl
          have hBw := HB.out
          (refine walkR_start (fun w' => Ext wr' w') 14 (by kernel_rfl) ?_; simp only [numbered, List.take_succ_cons, List.take_zero, Nat.zero_add, Nat.reduceAdd, List.length_cons, List.length_nil])
          (refine walkR_later ?_; simp only [List.cons_append, List.nil_append])
          (repeat (first | (refine walkR_still (v := ?_) rfl (by decide +kernel) rfl (fun _ _ _ h => h) hE ?_ ?_; rotate_left; (focus (intro w' hw'; skip; go_simp; all_goals (with_reducible rfl))); simp only [Act.put, List.setIfInBounds_toArray, List.set_cons_zero, List.set_cons_succ]) | (refine walkR_skip rfl (by decide +kernel) rfl (fun _ _ _ h => h) hE ?_; simp only [Act.put, List.setIfInBounds_toArray, List.set_cons_zero, List.set_cons_succ])))
          (refine walkR_later ?_; simp only [List.cons_append, List.nil_append])
          (repeat (first | (refine walkR_still (v := ?_) rfl (by decide +kernel) rfl (fun _ _ _ h => h) hE ?_ ?_; rotate_left; (focus (intro w' hw'; skip; go_simp; all_goals (with_reducible rfl))); simp only [Act.put, List.setIfInBounds_toArray, List.set_cons_zero, List.set_cons_succ]) | (refine walkR_skip rfl (by decide +kernel) rfl (fun _ _ _ h => h) hE ?_; simp only [Act.put, List.setIfInBounds_toArray, List.set_cons_zero, List.set_cons_succ])))
          (refine walkR_later ?_; simp only [List.cons_append, List.nil_append])
          (repeat (first | (refine walkR_still (v := ?_) rfl (by decide +kernel) rfl (fun _ _ _ h => h) hE ?_ ?_; rotate_left; (focus (intro w' hw'; skip; go_simp; all_goals (with_reducible rfl))); simp only [Act.put, List.setIfInBounds_toArray, List.set_cons_zero, List.set_cons_succ]) | (refine walkR_skip rfl (by decide +kernel) rfl (fun _ _ _ h => h) hE ?_; simp only [Act.put, List.setIfInBounds_toArray, List.set_cons_zero, List.set_cons_succ])))
          (refine walkR_later ?_; simp only [List.cons_append, List.nil_append]); (refine walkR_later ?_; simp only [List.cons_append, List.nil_append]); (refine walkR_later ?_; simp only [List.cons_append, List.nil_append])
          (repeat (first | (refine walkR_still (v := ?_) rfl (by decide +kernel) rfl (fun _ _ _ h => h) hE ?_ ?_; rotate_left; (focus (intro w' hw'; skip; go_simp; all_goals (with_reducible rfl))); simp only [Act.put, List.setIfInBounds_toArray, List.set_cons_zero, List.set_cons_succ]) | (refine walkR_skip rfl (by decide +kernel) rfl (fun _ _ _ h => h) hE ?_; simp only [Act.put, List.setIfInBounds_toArray, List.set_cons_zero, List.set_cons_succ])))
          (refine walkR_only (fun w' => Ext wr' w') rfl (by decide +kernel) rfl ?_ ?_)
          · exact fun _ h => h
          intro K hK
          go_simp
          have hE1 := (Ext.alloc wr' (.cells #[] 104)).trans (Ext.drew _)
          have hsz1 : ((wr'.alloc (.cells #[] 104)).drew).heap.size = wr'.heap.size + 1 := by show (wr'.alloc _).heap.size = _; simp
          have HO1 : Hid (OwnK stepK (wr'.alloc (.cells #[] 104)).drew B ((wr'.alloc (.cells #[] 104)).drew).heap.size (some ⟨wr'.heap.size, 0, none⟩) 0 0 [] []) := ((OwnK.made0 stepK wr').below (Ext.drew _)).weaken (B' := B) (by omega) (Nat.le_refl _)
          have HP1 := hidP (((HO.out.below HX3.out).below hE1).front k (by omega))
          have HQ1 := hidP ((HO.out.below HX3.out).below hE1)
          refine hK _ _ hE1 ?_
          clear hK K hE
          (try simp only [Act.put, List.setIfInBounds_toArray, List.set_cons_zero, List.set_cons_succ])
          obtain ⟨w1, hw1⟩ : ∃ w1, w1 = (wr'.alloc (.cells #[] 104)).drew := ⟨_, rfl⟩
          rw [← hw1] at HO1 HP1 HQ1 hE1 hsz1
          first | rw [← hw1] | skip
          clear hw1
          (refine walkR_only (fun w' => Ext wr' w') rfl (by decide +kernel) rfl ?_ ?_)
          · exact fun _ h => h
          intro K hK
          refine wp_append_part stepK 53 (.agg #[.slice none 0 0, .int .i64 0]) 32 (.tmp 48) (.tmp 51) rfl Tryz.underlying53 Tryz.info104 rfl (by omega) B _ wr'.heap.size 0 0 [] (hs.take k) [] (xs.take k) rfl HO1.out go 0 k co rfl HP1.out (fun i j hi => by omega) (by omega) (by omega) ?_
          intro g4 c4 w4 ho4 hg4 hn4
          rw [List.nil_append, List.nil_append, Nat.zero_add] at ho4
          rw [Nat.zero_add]
          have hE4 : Ext wr' w4 := Below.past_block hE1 hg4 (by omega) (Nat.le_refl _)
          have HQ4 := hidP (HQ1.out.past hg4 (fun g o e => by simp only [Option.some.injEq, Addr.mk.injEq] at e; omega) (by omega))
          have HO4 := hidP ho4
          have hg4b : wr'.heap.size ≤ g4 := by omega
          have hsz4 := hg4.size
          refine hK _ _ hE4 ?_
          clear hK K ho4 hg4 hn4 hE1
          (try simp only [Act.put, List.setIfInBounds_toArray, List.set_cons_zero, List.set_cons_succ])
          (refine walkR_only (fun w' => Ext wr' w') rfl (by decide +kernel) rfl (fun _ h => h) ?_; intro K hK; go_simp; refine (HI.out _ (HX3.out.trans hE4)).mono ?_; rintro e w6 ⟨a1, c1, rfl, ho1, hx6⟩; refine hK _ _ (hE4.trans hx6) ?_; clear hK K; (try simp only [Act.put, List.setIfInBounds_toArray, List.set_cons_zero, List.set_cons_succ]))
          have hE6 := hE4.trans hx6
          (repeat (first | (refine walkR_still (v := ?_) rfl (by decide +kernel) rfl (fun _ _ _ h => h) hE6 ?_ ?_; rotate_left; (focus (intro w' hw'; skip; go_simp; all_goals (with_reducible rfl))); simp only [Act.put, List.setIfInBounds_toArray, List.set_cons_zero, List.set_cons_succ]) | (refine walkR_skip rfl (by decide +kernel) rfl (fun _ _ _ h => h) hE6 ?_; simp only [Act.put, List.setIfInBounds_toArray, List.set_cons_zero, List.set_cons_succ])))
          (refine walkR_only (fun w' => Ext wr' w') rfl (by decide +kernel) rfl ?_ ?_)
          · exact fun _ h => h
          intro K hK
          go_simp
          have hxa := Ext.alloc w6 (.cells #[.slice a1 W.length c1, .int .i64 L] 104)
          have hE7 := hE6.trans hxa
          have HO7 := hidP (HO4.out.below (hx6.trans hxa))
          have HQ7 := hidP (HQ4.out.below (hx6.trans hxa))
          have HI7 := hidP ((ho1.below hxa).base (B' := B) (by omega))
          have HA1 : Hid (∀ b o, a1 = some ⟨b, o, none⟩ → w4.heap.size ≤ b) := fun b o e => (ho1.at_base b o e).1
          have HP7 : Hid (PartK stepK (w6.alloc (.cells #[.slice a1 W.length c1, .int .i64 L] 104)) B w6.heap.size 0 1 [(a1, c1)] [(W, L)]) := PartK.single (fun j _ => (cell_top _ _ _ _ _ rfl).trans (by simp [stepK])) HI7.out
          have hsz7 := (hx6.trans hxa).size
          refine hK _ _ hE7 ?_
          clear hK K ho1 hx6 hE4 hE6 hxa
          (try simp only [Act.put, List.setIfInBounds_toArray, List.set_cons_zero, List.set_cons_succ])
          obtain ⟨w7, hw7⟩ : ∃ w7, w7 = w6.alloc (.cells #[.slice a1 W.length c1, .int .i64 L] 104) := ⟨_, rfl⟩
          rw [← hw7] at HO7 HQ7 HI7 HP7 hsz7 hE7
          first | rw [← hw7] | skip
          clear hw7
          (refine walkR_only (fun w' => Ext wr' w') rfl (by decide +kernel) rfl ?_ ?_)
          · exact fun _ h => h
          intro K hK
          refine wp_append_part stepK 53 (.agg #[.slice none 0 0, .int .i64 0]) 32 (.tmp 52) (.tmp 57) rfl Tryz.underlying53 Tryz.info104 rfl (by omega) B _ g4 k c4 (hs.take k) [(a1, c1)] (xs.take k) [(W, L)] rfl HO7.out w6.heap.size 0 1 1 rfl HP7.out (fun i j hi hj b o b' o' e e' => by
            obtain rfl : j = 0 := by omega
            have h1 := HA1.out b' o' e'
            have h2 := HQ7.out.lt i (by omega) b o (by rw [← e]; simp [List.getD_eq_getElem?_getD, List.getElem?_take, hi])
            omega) (by omega) (by omega) ?_
          intro g10 c10 w10 ho10 hg10 hn10
          have hE10 : Ext wr' w10 := Below.past_block hE7 hg10 hE7.size hg4b
          have HQ10 := hidP (HQ7.out.past hg10 (fun g o e => by simp only [Option.some.injEq, Addr.mk.injEq] at e; omega) (by omega))
          have HO10 := hidP ho10
          have hg10b : wr'.heap.size ≤ g10 := by have := hE7.size; omega
          have HP10 := hidP (HQ10.out.part k (by omega))
          refine hK _ _ hE10 ?_
          clear hK K ho10 hg10 hn10 hE7
          (try simp only [Act.put, List.setIfInBounds_toArray, List.set_cons_zero, List.set_cons_succ])
          (refine walkR_tail (by rfl) (by kernel_rfl) ?_; simp only [List.drop_succ_cons, List.drop_zero])
          have hx61 : (if co = k then some (⟨go, 0, none⟩ : Addr) else some ⟨go, k * 2, none⟩) = some ⟨go, if co = k then 0 else k * 2, none⟩ := by split <;> rfl
          have HP61 := hidP (HP10.out.moved (o' := if co = k then 0 else k * 2) (by
            by_cases hck : co = k
            · right; omega
            · left; rw [if_neg hck]; rfl))
          rw [hx61]
          clear hx61
          refine wpList_append_part stepK 53 (.agg #[.slice none 0 0, .int .i64 0]) 32 rfl (.tmp 58) (.tmp 61) rfl Tryz.underlying53 Tryz.info104 rfl (by omega) B _ g10 (k + 1) c10 _ (hs.drop k) _ (xs.drop k) rfl HO10.out go _ (m - k) (co - k) (by first | rfl | (rw [Nat.sub_self]; rfl)) HP61.out ?_ (by omega) (by have := hE10.size; omega) ?_
          · intro i j hi hj b o b' o' e e'
            have hhl10 := HQ10.out.hl
            have e2 : (hs.getD (k + j) (none, 0)).1 = some ⟨b', o', none⟩ := by rw [← e']; simp [List.getD_eq_getElem?_getD, List.getElem?_drop]
            by_cases hi2 : i < k
            · have e1 : (hs.getD i (none, 0)).1 = some ⟨b, o, none⟩ := by
                rw [← e, getD_left _ _ _ _ (by simp; omega)]
                simp [List.getD_eq_getElem?_getD, List.getElem?_take, hi2]
              exact HQ10.out.apart i (k + j) (by omega) (by omega) (by omega) b o b' o' e1 e2
            · have e1 : a1 = some ⟨b, o, none⟩ := by
                rw [← e, getD_right _ _ _ _ (by simp; omega)]
                have : i - (hs.take k).length = 0 := by simp; omega
                rw [this]
                rfl
              have h1 := HA1.out b o e1
              have h2 := HQ10.out.lt (k + j) (by omega) b' o' e2
              omega
          intro g14 c14 w14 ho14 hg14 hn14
          have hE14 : Ext wr' w14 := Below.past_block hE10 hg14 hE10.size hg10b
          have hX14 : Ext w w14 := HX3.out.trans hE14
          have hn14 : k + 1 + (m - k) = m + 1 := by omega
          rw [hn14] at ho14 ⊢
          rw [← HNe.out] at ho14
          have HO14 := hidP ho14
          have HB14 : Hid (Below B w w14) := Below.mono hX14 HB.out
          clear ho14 hg14 hE10 hE14 hX14
          go_wp2
          all_goals go_ret
          all_goals first | exact ⟨g14, m + 1, c14, _, rfl, HO14.out, HB14.out⟩ | exact ⟨g14, m + 1, c14, rfl, ⟨_, HO14.out⟩, HB14.out⟩
        · rw [hE] at HSame
          obtain rfl : V = W := by simpa using hE
          have HNe : Hid (putT xs V L = xs.set k (V, M + L)) := by
            show _ = _
            rw [put_same (by omega) HJ.out HV.out, HV.out, HM.out]
          have hs1 := HSm.out k hlt
          rw [HM.out] at hs1
          have hwr : IntKind.i64.wrap (M + L) = M + L := wrap_in (by omega) (by omega)
          clear hE hna
          go_wp2_with fail
          refine HSame.out.mono ?_
          rintro e w3 ⟨rfl, q, rfl⟩
          have HX3 := hidP (HX2.out.trans (Ext.drewN w2 q))
          obtain ⟨g, al, cl, e', hh, q1, q2, r1, r2, hol⟩ := (HO.out.below HX3.out).stepCell k (by omega)
          simp only [Option.some.injEq, Addr.mk.injEq, and_true] at e'
          subst e'
          rw [HV.out] at q1
          rw [HM.out] at q2
          have hst := (HO.out.below HX3.out).stored k 1 (by omega) (by decide) (.int .i64 (M + L)) (wayAt xs k, M + L) rfl rfl rfl
          rw [HV.out, ← HNe.out] at hst
          have HSt := hidP hst
          have hgB := HO.out.base_lt go 0 rfl
          have HXB : Hid (Below B w (w2.drewN q)) := Below.mono HX3.out HB.out
          clear HSame hst hh hol
          go_wp2
          go_ret
          refine ⟨go, m, co, hs, rfl, OwnK.weaken HSt.out (Nat.le_refl _) ?_, Below.setCell (p := ⟨go, k * 2 + 1, none⟩) HXB.out hgB.1 _⟩
          have := HX3.out.size
          simpa [World.setCell] using this
      · rw [hV] at HAb
        have hab := of_decide_eq_true hV
        have HJ2 : Hid (∀ j, j < k + 1 → 0 < lexC (wayAt xs j) W) := by
          intro j hj
          rcases Nat.lt_succ_iff_lt_or_eq.1 hj with h3 | rfl
          · exact HJ.out j h3
          · rw [HV.out]; exact hab
        clear hab hV
        go_wp2_with fail
        refine (HAb.out _ (Ext.refl _)).mono ?_
        rintro e w2 ⟨rfl, hx2⟩
        have HX2 := hidP (HX.out.trans hx2)
        clear hx2 q1 q2
        go_wp2
        go_roundw
        case rel => exact ⟨k + 1, by omega, by go_num, HJ2, HX2⟩
        case measure => simp [intOf]; omega
    · obtain rfl : m = k := by omega
      have HNe : Hid (putT xs W L = xs.take m ++ [(W, L)] ++ xs.drop m) := by
        show _ = _
        rw [put_end (l := xs) (fun j hj => HJ.out j (by omega)), hxl]
      go_wp2
      obtain ⟨wr', hwr'⟩ : ∃ x, x = wr := ⟨_, rfl⟩
      rw [← hwr'] at HX ⊢
      have HX3 := HX
      clear hwr' HX
      have hE : Ext wr' wr'.drew := Ext.drew wr'
      have hk0 : (0 : Int) ≤ (m : Int) := by omega
      have hk1 : (m : Int) ≤ (m : Int) := by omega
      have hk2 : (m : Int) ≤ (co : Int) := by omega
      have hk3 : (m : Int) ≤ (co : Int) := by omega
      have hwsz := HX3.out.size
      have hgo := HO.out.base_lt go 0 rfl
      have hBw := HB.out
      (refine walkR_start (fun w' => Ext wr' w') 14 (by kernel_rfl) ?_; simp only [numbered, List.take_succ_cons, List.take_zero, Nat.zero_add, Nat.reduceAdd, List.length_cons, List.length_nil])
      (refine walkR_later ?_; simp only [List.cons_append, List.nil_append])
      (repeat (first | (refine walkR_still (v := ?_) rfl (by decide +kernel) rfl (fun _ _ _ h => h) hE ?_ ?_; rotate_left; (focus (intro w' hw'; skip; go_simp; all_goals (with_reducible rfl))); simp only [Act.put, List.setIfInBounds_toArray, List.set_cons_zero, List.set_cons_succ]) | (refine walkR_skip rfl (by decide +kernel) rfl (fun _ _ _ h => h) hE ?_; simp only [Act.put, List.setIfInBounds_toArray, List.set_cons_zero, List.set_cons_succ])))
      (refine walkR_later ?_; simp only [List.cons_append, List.nil_append])
      (repeat (first | (refine walkR_still (v := ?_) rfl (by decide +kernel) rfl (fun _ _ _ h => h) hE ?_ ?_; rotate_left; (focus (intro w' hw'; skip; go_simp; all_goals (with_reducible rfl))); simp only [Act.put, List.setIfInBounds_toArray, List.set_cons_zero, List.set_cons_succ]) | (refine walkR_skip rfl (by decide +kernel) rfl (fun _ _ _ h => h) hE ?_; simp only [Act.put, List.setIfInBounds_toArray, List.set_cons_zero, List.set_cons_succ])))
      (refine walkR_later ?_; simp only [List.cons_append, List.nil_append])
      (repeat (first | (refine walkR_still (v := ?_) rfl (by decide +kernel) rfl (fun _ _ _ h => h) hE ?_ ?_; rotate_left; (focus (intro w' hw'; skip; go_simp; all_goals (with_reducible rfl))); simp only [Act.put, List.setIfInBounds_toArray, List.set_cons_zero, List.set_cons_succ]) | (refine walkR_skip rfl (by decide +kernel) rfl (fun _ _ _ h => h) hE ?_; simp only [Act.put, List.setIfInBounds_toArray, List.set_cons_zero, List.set_cons_succ])))
      (refine walkR_later ?_; simp only [List.cons_append, List.nil_append]); (refine walkR_later ?_; simp only [List.cons_append, List.nil_append]); (refine walkR_later ?_; simp only [List.cons_append, List.nil_append])
      (repeat (first | (refine walkR_still (v := ?_) rfl (by decide +kernel) rfl (fun _ _ _ h => h) hE ?_ ?_; rotate_left; (focus (intro w' hw'; skip; go_simp; all_goals (with_reducible rfl))); simp only [Act.put, List.setIfInBounds_toArray, List.set_cons_zero, List.set_cons_succ]) | (refine walkR_skip rfl (by decide +kernel) rfl (fun _ _ _ h => h) hE ?_; simp only [Act.put, List.setIfInBounds_toArray, List.set_cons_zero, List.set_cons_succ])))
      (refine walkR_only (fun w' => Ext wr' w') rfl (by decide +kernel) rfl ?_ ?_)
      · exact fun _ h => h
      intro K hK
      go_simp
      have hE1 := (Ext.alloc wr' (.cells #[] 104)).trans (Ext.drew _)
      have hsz1 : ((wr'.alloc (.cells #[] 104)).drew).heap.size = wr'.heap.size + 1 := by show (wr'.alloc _).heap.size = _; simp
      have HO1 : Hid (OwnK stepK (wr'.alloc (.cells #[] 104)).drew B ((wr'.alloc (.cells #[] 104)).drew).heap.size (some ⟨wr'.heap.size, 0, none⟩) 0 0 [] []) := ((OwnK.made0 stepK wr').below (Ext.drew _)).weaken (B' := B) (by omega) (Nat.le_refl _)
      have HP1 := hidP (((HO.out.below HX3.out).below hE1).front m (by omega))
      have HQ1 := hidP ((HO.out.below HX3.out).below hE1)
      refine hK _ _ hE1 ?_
      clear hK K hE
      (try simp only [Act.put, List.setIfInBounds_toArray, List.set_cons_zero, List.set_cons_succ])
      obtain ⟨w1, hw1⟩ : ∃ w1, w1 = (wr'.alloc (.cells #[] 104)).drew := ⟨_, rfl⟩
      rw [← hw1] at HO1 HP1 HQ1 hE1 hsz1
      first | rw [← hw1] | skip
      clear hw1
      (refine walkR_only (fun w' => Ext wr' w') rfl (by decide +kernel) rfl ?_ ?_)
      · exact fun _ h => h
      intro K hK
      refine wp_append_part stepK 53 (.agg #[.slice none 0 0, .int .i64 0]) 32 (.tmp 48) (.tmp 51) rfl Tryz.underlying53 Tryz.info104 rfl (by omega) B _ wr'.heap.size 0 0 [] (hs.take m) [] (xs.take m) rfl HO1.out go 0 m co rfl HP1.out (fun i j hi => by omega) (by omega) (by omega) ?_
      intro g4 c4 w4 ho4 hg4 hn4
      rw [List.nil_append, List.nil_append, Nat.zero_add] at ho4
      rw [Nat.zero_add]
      have hE4 : Ext wr' w4 := Below.past_block hE1 hg4 (by omega) (Nat.le_refl _)
      have HQ4 := hidP (HQ1.out.past hg4 (fun g o e => by simp only [Option.some.injEq, Addr.mk.injEq] at e; omega) (by omega))
      have HO4 := hidP ho4
      have hg4b : wr'.heap.size ≤ g4 := by omega
      have hsz4 := hg4.size
      refine hK _ _ hE4 ?_
      clear hK K ho4 hg4 hn4 hE1
      (try simp only [Act.put, List.setIfInBounds_toArray, List.set_cons_zero, List.set_cons_succ])
      (refine walkR_only (fun w' => Ext wr' w') rfl (by decide +kernel) rfl (fun _ h => h) ?_; intro K hK; go_simp; refine (HI.out _ (HX3.out.trans hE4)).mono ?_; rintro e w6 ⟨a1, c1, rfl, ho1, hx6⟩; refine hK _ _ (hE4.trans hx6) ?_; clear hK K; (try simp only [Act.put, List.setIfInBounds_toArray, List.set_cons_zero, List.set_cons_succ]))
      have hE6 := hE4.trans hx6
      (repeat (first | (refine walkR_still (v := ?_) rfl (by decide +kernel) rfl (fun _ _ _ h => h) hE6 ?_ ?_; rotate_left; (focus (intro w' hw'; skip; go_simp; all_goals (with_reducible rfl))); simp only [Act.put, List.setIfInBounds_toArray, List.set_cons_zero, List.set_cons_succ]) | (refine walkR_skip rfl (by decide +kernel) rfl (fun _ _ _ h => h) hE6 ?_; simp only [Act.put, List.setIfInBounds_toArray, List.set_cons_zero, List.set_cons_succ])))
      (refine walkR_only (fun w' => Ext wr' w') rfl (by decide +kernel) rfl ?_ ?_)
      · exact fun _ h => h
      intro K hK
      go_simp
      have hxa := Ext.alloc w6 (.cells #[.slice a1 W.length c1, .int .i64 L] 104)
      have hE7 := hE6.trans hxa
      have HO7 := hidP (HO4.out.below (hx6.trans hxa))
      have HQ7 := hidP (HQ4.out.below (hx6.trans hxa))
      have HI7 := hidP ((ho1.below hxa).base (B' := B) (by omega))
      have HA1 : Hid (∀ b o, a1 = some ⟨b, o, none⟩ → w4.heap.size ≤ b) := fun b o e => (ho1.at_base b o e).1
      have HP7 : Hid (PartK stepK (w6.alloc (.cells #[.slice a1 W.length c1, .int .i64 L] 104)) B w6.heap.size 0 1 [(a1, c1)] [(W, L)]) := PartK.single (fun j _ => (cell_top _ _ _ _ _ rfl).trans (by simp [stepK])) HI7.out
      have hsz7 := (hx6.trans hxa).size
      refine hK _ _ hE7 ?_
      clear hK K ho1 hx6 hE4 hE6 hxa
      (try simp only [Act.put, List.setIfInBounds_toArray, List.set_cons_zero, List.set_cons_succ])
      obtain ⟨w7, hw7⟩ : ∃ w7, w7 = w6.alloc (.cells #[.slice a1 W.length c1, .int .i64 L] 104) := ⟨_, rfl⟩
      rw [← hw7] at HO7 HQ7 HI7 HP7 hsz7 hE7
      first | rw [← hw7] | skip
      clear hw7
      (refine walkR_only (fun w' => Ext wr' w') rfl (by decide +kernel) rfl ?_ ?_)
      · exact fun _ h => h
      intro K hK
      refine wp_append_part stepK 53 (.agg #[.slice none 0 0, .int .i64 0]) 32 (.tmp 52) (.tmp 57) rfl Tryz.underlying53 Tryz.info104 rfl (by omega) B _ g4 m c4 (hs.take m) [(a1, c1)] (xs.take m) [(W, L)] rfl HO7.out w6.heap.size 0 1 1 rfl HP7.out (fun i j hi hj b o b' o' e e' => by
        obtain rfl : j = 0 := by omega
        have h1 := HA1.out b' o' e'
        have h2 := HQ7.out.lt i (by omega) b o (by rw [← e]; simp [List.getD_eq_getElem?_getD, List.getElem?_take, hi])
        omega) (by omega) (by omega) ?_
      intro g10 c10 w10 ho10 hg10 hn10
      have hE10 : Ext wr' w10 := Below.past_block hE7 hg10 hE7.size hg4b
      have HQ10 := hidP (HQ7.out.past hg10 (fun g o e => by simp only [Option.some.injEq, Addr.mk.injEq] at e; omega) (by omega))
      have HO10 := hidP ho10
      have hg10b : wr'.heap.size ≤ g10 := by have := hE7.size; omega
      have HP10 := hidP (HQ10.out.part m (by omega))
      refine hK _ _ hE10 ?_
      clear hK K ho10 hg10 hn10 hE7
      (try simp only [Act.put, List.setIfInBounds_toArray, List.set_cons_zero, List.set_cons_succ])
      (refine walkR_tail (by rfl) (by kernel_rfl) ?_; simp only [List.drop_succ_cons, List.drop_zero])
      have hx61 : (if co = m then some (⟨go, 0, none⟩ : Addr) else some ⟨go, m * 2, none⟩) = some ⟨go, if co = m then 0 else m * 2, none⟩ := by split <;> rfl
      have HP61 := hidP (HP10.out.moved (o' := if co = m then 0 else m * 2) (by
        by_cases hck : co = m
        · right; omega
        · left; rw [if_neg hck]; rfl))
      rw [hx61]
      clear hx61
      refine wpList_append_part stepK 53 (.agg #[.slice none 0 0, .int .i64 0]) 32 rfl (.tmp 58) (.tmp 61) rfl Tryz.underlying53 Tryz.info104 rfl (by omega) B _ g10 (m + 1) c10 _ (hs.drop m) _ (xs.drop m) rfl HO10.out go _ (m - m) (co - m) (by first | rfl | (rw [Nat.sub_self]; rfl)) HP61.out ?_ (by omega) (by have := hE10.size; omega) ?_
      · intro i j hi hj b o b' o' e e'
        have hhl10 := HQ10.out.hl
        have e2 : (hs.getD (m + j) (none, 0)).1 = some ⟨b', o', none⟩ := by rw [← e']; simp [List.getD_eq_getElem?_getD, List.getElem?_drop]
        by_cases hi2 : i < m
        · have e1 : (hs.getD i (none, 0)).1 = some ⟨b, o, none⟩ := by
            rw [← e, getD_left _ _ _ _ (by simp; omega)]
            simp [List.getD_eq_getElem?_getD, List.getElem?_take, hi2]
          exact HQ10.out.apart i (m + j) (by omega) (by omega) (by omega) b o b' o' e1 e2
        · have e1 : a1 = some ⟨b, o, none⟩ := by
            rw [← e, getD_right _ _ _ _ (by simp; omega)]
            have : i - (hs.take m).length = 0 := by simp; omega
            rw [this]
            rfl
          have h1 := HA1.out b o e1
          have h2 := HQ10.out.lt (m + j) (by omega) b' o' e2
          omega
      intro g14 c14 w14 ho14 hg14 hn14
      have hE14 : Ext wr' w14 := Below.past_block hE10 hg14 hE10.size hg10b
      have hX14 : Ext w w14 := HX3.out.trans hE14
      have hn14 : m + 1 + (m - m) = m + 1 := by omega
      rw [hn14] at ho14 ⊢
      rw [← HNe.out] at ho14
      have HO14 := hidP ho14
      have HB14 : Hid (Below B w w14) := Below.mono hX14 HB.out
      clear ho14 hg14 hE10 hE14 hX14
      go_wp2
      all_goals go_ret
      all_goals first | exact ⟨g14, m + 1, c14, _, rfl, HO14.out, HB14.out⟩ | exact ⟨g14, m + 1, c14, rfl, ⟨_, HO14.out⟩, HB14.out⟩
end Go.Proofs.YtnfbfdamlnjblaaGreatDoor

namespace Go.Proofs.YtnfbfdamlnjblaaGreatDoor
open Go.RowKit

set_option maxRecDepth 100000 in
set_option maxHeartbeats 4000000 in
theorem l8Clean_any (a : Option Addr) (n c : Nat) (us : List Tm) (w : World) (h : StepsAt w a n us) (hn : n ≤ 1000000) (hw : ∀ k, k < n → (wayAt us k).length ≤ 1000000) :
    Calls Tryz.prog 141 #[.slice a n c] w fun e w' => ∃ g c' hs, e = .returned (.slice (some ⟨g, 0, none⟩) (cleanT us).length c') ∧ OwnK stepK w' w.heap.size w'.heap.size (some ⟨g, 0, none⟩) (cleanT us).length c' hs (cleanT us) ∧ Ext w w' := by
  have H := hidP h
  have HWl := hidP hw
  have hnl := h.len
  have HM0 : Hid (OwnK stepK (w.alloc (.cells #[] 104)) w.heap.size (w.alloc (.cells #[] 104)).heap.size (some ⟨w.heap.size, 0, none⟩) 0 0 [] []) := OwnK.made0 stepK w
  have HX0 := hidP (Ext.alloc w (.cells #[] 104))
  clear h hw
  go_enter Tryz.func141, Tryz.ntmps141
  go_wp2
  go_loopw [3, 4] (fun out i wr => ∃ (j q g co : Nat) (hs : List Hdr), j ≤ n ∧ q ≤ j ∧ out = .slice (some ⟨g, 0, none⟩) q co ∧ i = .int .i64 j ∧ Hid (OwnK stepK wr w.heap.size wr.heap.size (some ⟨g, 0, none⟩) q co hs (cleanT (us.take j))) ∧ Hid (Ext w wr)) (fun _ i _ => n - (intOf i).toNat)
  case atStart => exact ⟨0, 0, _, _, [], Nat.zero_le _, Nat.le_refl _, rfl, rfl, HM0, HX0⟩
  case round =>
    obtain ⟨j, q, g, co, hs, hj, hqj, rfl, rfl, HO, HX⟩ := hrel
    by_cases hlt : j < n
    · obtain ⟨b0, o, aw, cw, W, Ln, rfl, HW, HL, hwl, HNl, hq⟩ := (H.out.below HX.out).way j hlt
      have HQ := hidP hq
      have hwl2 := HWl.out j hlt
      rw [HW.out] at hwl2
      have HMn := hidP (fun w' (hx : Ext wr w') => l1Ints_any aw W.length cw W w' (HQ.out w' hx).2.2 HNl.out (by omega))
      obtain ⟨q1, q2, _⟩ := hq wr (Ext.refl wr)
      have HTk : Hid (cleanT (us.take (j + 1)) = cleanT (us.take j) ++ cleanT [(W, Ln)]) := by
        show _ = _
        unfold cleanT
        rw [take_succ_at2 us (by omega), List.filter_append, HW.out, HL.out]
      clear hq
      cases hz : decide (Ln = 0)
      · have hz := of_decide_eq_false hz
        have hzb : (Ln != 0) = true := by simpa using hz
        have HTk : Hid (cleanT (us.take (j + 1)) = cleanT (us.take j) ++ [(W, Ln)]) := by
          show _ = _
          rw [HTk.out]
          unfold cleanT
          rw [List.filter_cons_of_pos (by simpa using hz)]
          rfl
        clear hz
        have hE : Ext wr wr.drew := Ext.drew wr
        go_wp2
        (refine walkR_start (fun w' => Ext wr w') 14 (by kernel_rfl) ?_; simp only [numbered, List.take_succ_cons, List.take_zero, Nat.zero_add, Nat.reduceAdd, List.length_cons, List.length_nil])
        (repeat (first | (refine walkR_still (v := ?_) rfl (by decide +kernel) rfl (fun _ _ _ h => h) hE ?_ ?_; rotate_left; (focus (intro w' hw'; obtain ⟨q1, q2, _⟩ := HQ.out w' hw'; go_simp; all_goals (with_reducible rfl))); simp only [Act.put, List.setIfInBounds_toArray, List.set_cons_zero, List.set_cons_succ]) | (refine walkR_skip rfl (by decide +kernel) rfl (fun _ _ _ h => h) hE ?_; simp only [Act.put, List.setIfInBounds_toArray, List.set_cons_zero, List.set_cons_succ])))
        (refine walkR_later ?_; simp only [List.cons_append, List.nil_append])
        (repeat (first | (refine walkR_still (v := ?_) rfl (by decide +kernel) rfl (fun _ _ _ h => h) hE ?_ ?_; rotate_left; (focus (intro w' hw'; obtain ⟨q1, q2, _⟩ := HQ.out w' hw'; go_simp; all_goals (with_reducible rfl))); simp only [Act.put, List.setIfInBounds_toArray, List.set_cons_zero, List.set_cons_succ]) | (refine walkR_skip rfl (by decide +kernel) rfl (fun _ _ _ h => h) hE ?_; simp only [Act.put, List.setIfInBounds_toArray, List.set_cons_zero, List.set_cons_succ])))
        (refine walkR_later ?_; simp only [List.cons_append, List.nil_append]); (refine walkR_later ?_; simp only [List.cons_append, List.nil_append])
        (refine walkR_only (fun w' => Ext wr w') rfl (by decide +kernel) rfl (fun _ h => h) ?_; intro K hK; go_simp; refine (HMn.out _ hE).mono ?_; rintro e w3 ⟨a1, c1, rfl, ho1, hx1⟩; refine hK _ _ (hE.trans hx1) ?_; clear hK K; (try simp only [Act.put, List.setIfInBounds_toArray, List.set_cons_zero, List.set_cons_succ]))
        have hE3 := hE.trans hx1
        have HE3 := hidP (hE3.trans (Ext.alloc w3 (.cells #[.slice a1 W.length c1, .int .i64 Ln] 104)))
        have HO3 := hidP (HO.out.below HE3.out)
        have HI3 := hidP (ho1.below (Ext.alloc w3 (.cells #[.slice a1 W.length c1, .int .i64 Ln] 104)))
        have HAp := hidP (HO.out.new_apart ho1 hE.size)
        have HB3 : Hid (w.heap.size ≤ wr.drew.heap.size) := Nat.le_trans HX.out.size hE.size
        have HCe : Hid (∀ q', q' < stepK.size → (w3.alloc (.cells #[.slice a1 W.length c1, .int .i64 Ln] 104)).cell? ⟨w3.heap.size, q', none⟩ = (stepK.cells a1 c1 (W, Ln))[q']?) := fun q' _ => (cell_top _ _ _ _ _ rfl).trans (by simp [stepK])
        clear ho1 hx1 hE
        (repeat (first | (refine walkR_still (v := ?_) rfl (by decide +kernel) rfl (fun _ _ _ h => h) hE3 ?_ ?_; rotate_left; (focus (intro w' hw'; skip; go_simp; all_goals (with_reducible rfl))); simp only [Act.put, List.setIfInBounds_toArray, List.set_cons_zero, List.set_cons_succ]) | (refine walkR_skip rfl (by decide +kernel) rfl (fun _ _ _ h => h) hE3 ?_; simp only [Act.put, List.setIfInBounds_toArray, List.set_cons_zero, List.set_cons_succ])))
        (refine walkR_only (fun w' => Ext wr w') rfl (by decide +kernel) rfl ?_ ?_)
        · exact fun _ h => h
        intro K hK
        go_simp
        refine hK _ _ (hE3.trans (Ext.alloc w3 (.cells #[.slice a1 W.length c1, .int .i64 Ln] 104))) ?_
        clear hK K hE3
        (try simp only [Act.put, List.setIfInBounds_toArray, List.set_cons_zero, List.set_cons_succ])
        (refine walkR_tail (by rfl) (by kernel_rfl) ?_; simp only [List.drop_succ_cons, List.drop_zero])
        go_wp2_with (at_builtin; refine wpList_append_elem2 stepK 53 (.agg #[.slice none 0 0, .int .i64 0]) 32 rfl (.tmp 18) (.tmp 31) rfl Tryz.underlying53 Tryz.info104 rfl (by omega) w.heap.size _ (some ⟨g, 0, none⟩) q co hs _ rfl HO3.out w3.heap.size 1 (a1, c1) (W, Ln) rfl HCe.out (HI3.out.base HB3.out) HAp.out.1 HAp.out.2 (by omega) (Nat.le_trans HX.out.size HE3.out.size) ?_; intro a4 c4 w4 ho4 hg4 _; have HX4 := hidP (Below.own (HX.out.trans HE3.out) hg4 (HX.out.trans HE3.out).size (fun b o e => by have := HO.out.base_lt b o e; omega) HO3.out.addr); rw [← HTk.out] at ho4; have HO4 := hidP ho4; clear ho4 hg4)
        obtain ⟨g4, rfl⟩ : ∃ g4, a4 = some ⟨g4, 0, none⟩ := by
          rcases HO4.out.form with ⟨_, h0, _⟩ | ⟨g4, _, e4, _⟩
          · omega
          · exact ⟨g4, e4⟩
        go_roundw
        case rel => exact ⟨j + 1, q + 1, g4, c4, _, by omega, by omega, rfl, by go_num, HO4, HX4⟩
        case measure => simp [intOf]; omega
      · have hz := of_decide_eq_true hz
        have hzb : (Ln != 0) = false := by simpa using hz
        have HTk : Hid (cleanT (us.take (j + 1)) = cleanT (us.take j)) := by
          show _ = _
          rw [HTk.out]
          unfold cleanT
          rw [List.filter_cons_of_neg (by simpa using hz)]
          simp
        clear hz
        go_wp2
        go_roundw
        case rel => exact ⟨j + 1, q, g, co, hs, by omega, by omega, rfl, by go_num, by rw [HTk.out]; exact HO, HX⟩
        case measure => simp [intOf]; omega
    · obtain rfl : n = j := by omega
      have HT : Hid (us.take n = us) := List.take_of_length_le (by omega)
      rw [HT.out] at HO
      obtain rfl : (cleanT us).length = q := HO.out.xl
      go_wp2
      go_ret
      exact ⟨g, co, hs, rfl, HO.out, HX.out⟩
theorem ordered_val {R : List Int → List Int → Prop} (O : Ord R) : ∀ {l : List Tm} {p : Tm}, Ordered R l → p ∈ l → cntSum l p.1 = p.2
  | t :: l, p, h, hp => by
    obtain ⟨h1, h2⟩ := List.pairwise_cons.1 h
    rcases List.mem_cons.1 hp with rfl | hp
    · rw [cntSum, if_pos rfl, cntSum_none (fun q hq e => O.irr p.1 (by have := h1 q hq; rwa [e] at this))]
      omega
    · have hne : t.1 ≠ p.1 := fun e => O.irr p.1 (by have := h1 p hp; rwa [e] at this)
      rw [cntSum, if_neg hne, ordered_val O h2 hp]
      omega
theorem ordered_lenAt {l : List Tm} (h : Ordered Above l) {i : Nat} (hi : i < l.length) : lenAt l i = cntSum l (wayAt l i) := by
  have := ordered_val above_ord h (p := l.getD i ([], 0)) (by rw [getT hi]; exact List.getElem_mem hi)
  exact this.symm
theorem puts_words {P : List Int → Prop} (n : Int) : ∀ (b : List Tm) {o : List Tm}, (∀ p ∈ o, P p.1) → (∀ p ∈ b, P p.1) → ∀ p ∈ putsT o n b, P p.1
  | [], _, ho, _, p, hp => ho p hp
  | t :: b, o, ho, hb, p, hp => by
    refine puts_words n b (o := putT o t.1 (n * t.2)) (fun q hq => ?_) (fun q hq => hb q (by simp [hq])) p hp
    rcases mem_put hq with h | h
    · exact ho q h
    · rw [h]; exact hb t (by simp)
set_option maxRecDepth 100000 in
set_option maxHeartbeats 4000000 in
theorem l8Join_any (a : Option Addr) (n c : Nat) (us : List Tm) (m : Int) (a' : Option Addr) (n' c' : Nat) (vs : List Tm) (w : World) (h : StepsAt w a n us) (h' : StepsAt w a' n' vs) (hn : n ≤ 100000) (hn' : n' ≤ 100000)
    (hw : ∀ k, k < n → (wayAt us k).length ≤ 1000000) (hw' : ∀ k, k < n' → (wayAt vs k).length ≤ 1000000 ∧ -1000000000000 ≤ m * lenAt vs k ∧ m * lenAt vs k ≤ 1000000000000) (ho : Ordered Above us)
    (hb : ∀ k, k ≤ n' → ∀ x, -1000000000000000 ≤ cntSum (us ++ timesT m (vs.take k)) x ∧ cntSum (us ++ timesT m (vs.take k)) x ≤ 1000000000000000) (hwj : ∀ k, k < (putsT (cleanT us) m vs).length → (wayAt (putsT (cleanT us) m vs) k).length ≤ 1000000) :
    Calls Tryz.prog 99 #[.slice a n c, .int .i64 m, .slice a' n' c'] w fun e w' => ∃ g c' hs, e = .returned (.slice (some ⟨g, 0, none⟩) (joinT us m vs).length c') ∧ OwnK stepK w' w.heap.size w'.heap.size (some ⟨g, 0, none⟩) (joinT us m vs).length c' hs (joinT us m vs) ∧ Ext w w' := by
  have H' := hidP h'
  have hnl := h.len
  have hnl' := h'.len
  have HCl := hidP (l8Clean_any a n c us w h (by omega) hw)
  have HWl' := hidP hw'
  have HBd := hidP hb
  have HOr := hidP (ordered_clean ho)
  have HWj := hidP hwj
  have hcl : (cleanT us).length ≤ n := by rw [← hnl]; exact List.length_filter_le _ _
  clear h h' hw hw' hb ho hwj
  go_enter Tryz.func99, Tryz.ntmps99
  go_wp2_with fail
  refine HCl.out.mono ?_
  rintro e w1 ⟨g1, c1, hs1, rfl, ho1, hx1⟩
  have HO1 := hidP ho1
  have HX1 := hidP hx1
  clear ho1 hx1 HCl
  go_wp2
  go_loopw [7, 8] (fun out i wr => ∃ (k g co q : Nat) (hs : List Hdr), k ≤ n' ∧ out = .slice (some ⟨g, 0, none⟩) q co ∧ i = .int .i64 k ∧ Hid (OwnK stepK wr w.heap.size wr.heap.size (some ⟨g, 0, none⟩) q co hs (putsT (cleanT us) m (vs.take k))) ∧ Hid (Ext w wr)) (fun _ i _ => n' - (intOf i).toNat)
  case atStart => exact ⟨0, g1, c1, _, hs1, Nat.zero_le _, rfl, rfl, HO1, HX1⟩
  case round =>
    clear HO1 HX1
    obtain ⟨k, g, co, q, hs, hk, rfl, rfl, HO, HX⟩ := hrel
    by_cases hlt : k < n'
    · obtain ⟨b0, o, aw, cw, W, L, rfl, HW, HL, hwl, HNl, hq⟩ := (H'.out.below HX.out).way k hlt
      have HQ := hidP hq
      have hww := HWl'.out k hlt
      rw [HW.out, HL.out] at hww
      obtain ⟨hW1, hL1, hL2⟩ := hww
      have hmw : IntKind.i64.wrap (m * L) = m * L := wrap_in (by omega) (by omega)
      have hql := HO.out.xl
      have hpl := puts_length m (vs.take k) (cleanT us)
      rw [List.length_take] at hpl
      have hor := ordered_puts m (vs.take k) HOr.out
      have HPt := hidP (fun w' (hx : Ext wr w') => l8Put_any w.heap.size g q co hs (putsT (cleanT us) m (vs.take k)) aw cw W (m * L) w' ((HO.out.below hx).weaken (Nat.le_refl _) hx.size) (HQ.out w' hx).2.2 HNl.out hW1 (by omega) (Nat.le_trans HX.out.size hx.size) (fun i hi => by
        rw [ordered_lenAt hor (by omega), cntSum_puts, cntSum_append, cntSum_clean, ← cntSum_append]
        have := HBd.out k hk (wayAt (putsT (cleanT us) m (vs.take k)) i)
        omega))
      have HTk : Hid (putT (putsT (cleanT us) m (vs.take k)) W (m * L) = putsT (cleanT us) m (vs.take (k + 1))) := by
        show _ = _
        rw [putsT_take _ _ _ (by omega), HW.out, HL.out]
      have hE : Ext wr wr.drew := Ext.drew wr
      clear hq hL1 hL2 hql hpl hor hW1
      go_wp2
      (refine walkR_start (fun w' => Ext wr w') 13 (by kernel_rfl) ?_; simp only [numbered, List.take_succ_cons, List.take_zero, Nat.zero_add, Nat.reduceAdd, List.length_cons, List.length_nil])
      (repeat (first | (refine walkR_still (v := ?_) rfl (by decide +kernel) rfl (fun _ _ _ h => h) hE ?_ ?_; rotate_left; (focus (intro w' hw'; obtain ⟨q1, q2, _⟩ := HQ.out w' hw'; go_simp; all_goals (with_reducible rfl))); simp only [Act.put, List.setIfInBounds_toArray, List.set_cons_zero, List.set_cons_succ]) | (refine walkR_skip rfl (by decide +kernel) rfl (fun _ _ _ h => h) hE ?_; simp only [Act.put, List.setIfInBounds_toArray, List.set_cons_zero, List.set_cons_succ])))
      have HPt2 := hidP (HPt.out _ hE)
      have HXE := hidP (HX.out.trans hE)
      clear hE HPt
      (refine walkR_tail (by rfl) (by kernel_rfl) ?_; simp only [List.drop_succ_cons, List.drop_zero])
      go_wp2_with fail
      refine HPt2.out.mono ?_
      rintro e w2 ⟨g2, q2, c2, hs2, rfl, ho2, hx2⟩
      rw [HTk.out] at ho2
      have HO2 := hidP ho2
      have HX2 : Hid (Ext w w2) := Below.trans HXE.out hx2
      clear ho2 hx2
      go_wp2
      go_roundw
      case rel => exact ⟨k + 1, g2, c2, q2, hs2, by omega, rfl, by go_num, HO2, HX2⟩
      case measure => simp [intOf]; omega
    · obtain rfl : n' = k := by omega
      have HT : Hid (vs.take n' = vs) := List.take_of_length_le (by omega)
      rw [HT.out] at HO
      have hql := HO.out.xl
      have hpl := puts_length m vs (cleanT us)
      have HC2 := hidP (l8Clean_any (some ⟨g, 0, none⟩) q co (putsT (cleanT us) m vs) wr HO.out.stepsAt (by omega) (fun k hk => HWj.out k (by omega)))
      clear hql hpl
      go_wp2_with fail
      refine HC2.out.mono ?_
      rintro e w2 ⟨g2, c2, hs2, rfl, ho2, hx2⟩
      have HO2 := hidP (ho2.weaken HX.out.size (Nat.le_refl _))
      have HX2 := hidP (HX.out.trans hx2)
      clear ho2 hx2
      go_wp2
      go_ret
      exact ⟨g2, c2, hs2, rfl, HO2.out, HX2.out⟩
set_option maxRecDepth 100000 in
set_option maxHeartbeats 4000000 in
theorem sAddCharacters_any (r : Int) (ta : Option Addr) (tn tc : Nat) (ts : List Int) (a : Option Addr) (n c : Nat) (xs : List Tm) (a' : Option Addr) (n' c' : Nat) (ys : List Tm) (w : World) (hc : IntsAt w ta tn ts) (hcn : tn ≤ 9223372036854775807)
    (h : StepsAt w a n xs) (hn : n ≤ 9223372036854775807) (h' : StepsAt w a' n' ys) (hn' : n' ≤ 9223372036854775807) :
    PathRes 46 #[carV r ta tn tc, .slice a n c, .slice a' n' c'] w (addR r ts xs ys) := by
  unfold PathRes
  have hx1 := Ext.alloc w (.cells #[.int .i64 r, .slice ta tn tc] 55)
  have HC := hidP (fun w' (hx : Ext (w.alloc (.cells #[.int .i64 r, .slice ta tn tc] 55)) w') => (CarAt.new w _ rfl r ta tn tc 55).below hx)
  have HX1 := hidP hx1
  have H := hidP (h.below hx1)
  have H' := hidP (h'.below hx1)
  have HP := hidP (sCharacterOk_any r ta tn tc ts a n c xs _ (hc.below hx1) hcn (h.below hx1).terms hn)
  have hs1 : w.heap.size ≤ (w.alloc (.cells #[.int .i64 r, .slice ta tn tc] 55)).heap.size := hx1.size
  clear hc h h' hx1
  obtain ⟨w1, hw1⟩ : ∃ w1, w1 = w.alloc (.cells #[.int .i64 r, .slice ta tn tc] 55) := ⟨_, rfl⟩
  rw [← hw1] at HC HX1 H H' HP hs1
  have HS1 := hidP hs1
  clear hs1
  obtain ⟨f0, f1⟩ := HC.out w1 (Ext.refl w1)
  cases hT : (typeB r ts && chrB r.toNat xs)
  · have HR : Hid (addR r ts xs ys = (false, [])) := by
      show _ = _
      unfold addR
      rw [hT]
      rfl
    rw [hT] at HP
    clear hT
    go_enter Tryz.func46, Tryz.ntmps46
    go_wp2_with fail
    rw [← hw1]
    clear hw1
    refine HP.out.mono ?_
    rintro e w2 ⟨rfl, hx⟩
    have HX := hidP hx
    clear hx
    go_wp2
    refine bodyPost_ret (v := .tuple #[.slice none 0 0, .bool false]) (by simp [results, Tryz.results46, go_sem]) rfl ⟨none, 0, 0, [], by rw [HR.out], ?_, HX1.out.trans HX.out⟩
    rw [HR.out]
    exact OwnK.nil stepK _ _ _
  · have hT2 : typeB r ts = true := by
      simp only [Bool.and_eq_true] at hT
      exact hT.1
    have hP1 : chrB r.toNat xs = true := by
      simp only [Bool.and_eq_true] at hT
      exact hT.2
    obtain ⟨hr1, hr4, _⟩ := typeB_rank hT2
    obtain ⟨R, rfl⟩ : ∃ R : Nat, r = R := ⟨r.toNat, by omega⟩
    rw [Int.toNat_natCast] at hP1
    have hR : R ≤ 4 := by omega
    have HL := hidP (fun w' (hx : Ext w1 w') => l8Ok_any R ta tn tc a' n' c' ys w' (H'.out.below hx).terms hn' (by omega))
    cases hQ : chrB R ys
    · have HR : Hid (addR R ts xs ys = (false, [])) := by
        show _ = _
        unfold addR
        rw [hT, Int.toNat_natCast, hQ]
        rfl
      rw [hT] at HP
      rw [hQ] at HL
      clear hT hT2 hP1 hQ hr1 hr4
      go_enter Tryz.func46, Tryz.ntmps46
      go_wp2_with fail
      rw [← hw1]
      clear hw1
      refine HP.out.mono ?_
      rintro e w2 ⟨rfl, hx⟩
      obtain ⟨g0, g1⟩ := HC.out w2 hx
      have HX := hidP hx
      clear hx f0 f1
      go_wp2_with fail
      refine (HL.out _ HX.out).mono ?_
      rintro e w3 ⟨rfl, hx⟩
      have HX3 := hidP (HX.out.trans hx)
      clear hx g0 g1
      go_wp2
      refine bodyPost_ret (v := .tuple #[.slice none 0 0, .bool false]) (by simp [results, Tryz.results46, go_sem]) rfl ⟨none, 0, 0, [], by rw [HR.out], ?_, HX1.out.trans HX3.out⟩
      rw [HR.out]
      exact OwnK.nil stepK _ _ _
    · have HR2 : Hid (addR R ts xs ys = chrR R (joinT xs 1 ys)) := by
        show _ = _
        unfold addR
        rw [hT, Int.toNat_natCast, hQ]
        rfl
      have HU := hidP (chrB_iff.1 hP1)
      have HV := hidP (chrB_iff.1 hQ)
      rw [hT] at HP
      rw [hQ] at HL
      have hnl := H.out.len
      have hnl' := H'.out.len
      have hu4 := HU.out.len
      have hv4 := HV.out.len
      clear hT hT2 hP1 hQ hr1 hr4
      have HJn := hidP (fun w' (hx : Ext w1 w') => l8Join_any a n c xs 1 a' n' c' ys w' (H.out.below hx) (H'.out.below hx) (by omega) (by omega) (fun k hk => by
        have := HU.out.at hR (k := k) (by omega)
        omega) (fun k hk => by
        have := HV.out.at hR (k := k) (by omega)
        omega) HU.out.ord (fun k hk x => by
        rw [cntSum_append, timesT_one]
        have h1 := take_bound HU.out xs.length x
        have h2 := take_bound HV.out k x
        rw [List.take_length] at h1
        omega) (fun k hk => by
        have := puts_words (P := fun x => x.length ≤ 4) 1 ys (o := cleanT xs) (fun p hp => by have := (HU.out.small hR p (List.mem_filter.1 hp).1).2; show p.1.length ≤ 4; omega) (fun p hp => by have := (HV.out.small hR p hp).2; show p.1.length ≤ 4; omega) ((putsT (cleanT xs) 1 ys).getD k ([], 0)) (by rw [getT hk]; exact List.getElem_mem hk)
        unfold wayAt
        omega))
      go_enter Tryz.func46, Tryz.ntmps46
      go_wp2_with fail
      rw [← hw1]
      clear hw1
      refine HP.out.mono ?_
      rintro e w2 ⟨rfl, hx⟩
      obtain ⟨g0, g1⟩ := HC.out w2 hx
      have HX := hidP hx
      clear hx f0 f1
      go_wp2_with fail
      refine (HL.out _ HX.out).mono ?_
      rintro e w3 ⟨rfl, hx⟩
      have HY3 := hidP (HX.out.trans hx)
      have HX3 := hidP (HX1.out.trans (HX.out.trans hx))
      clear hx g0 g1
      have hE : Ext w3 w3.drew := Ext.drew w3
      go_wp2
      (refine walkR_start (fun w' => Ext w3 w') 9 (by kernel_rfl) ?_; simp only [numbered, List.take_succ_cons, List.take_zero, Nat.zero_add, Nat.reduceAdd, List.length_cons, List.length_nil])
      (repeat (first | (refine walkR_still (v := ?_) rfl (by decide +kernel) rfl (fun _ _ _ h => h) hE ?_ ?_; rotate_left; (focus (intro w' hw'; obtain ⟨g0, g1⟩ := HC.out w' (HY3.out.trans hw'); go_simp; all_goals (with_reducible rfl))); simp only [Act.put, List.setIfInBounds_toArray, List.set_cons_zero, List.set_cons_succ]) | (refine walkR_skip rfl (by decide +kernel) rfl (fun _ _ _ h => h) hE ?_; simp only [Act.put, List.setIfInBounds_toArray, List.set_cons_zero, List.set_cons_succ])))
      (refine walkR_only (fun w' => Ext w3 w') rfl (by decide +kernel) rfl (fun _ h => h) ?_; intro K hK; go_simp; refine (HJn.out _ (HY3.out.trans hE)).mono ?_; rintro e w4 ⟨g4, c4, hs4, rfl, ho4, hx4⟩; refine hK _ _ (hE.trans hx4) ?_; clear hK K; (try simp only [Act.put, List.setIfInBounds_toArray, List.set_cons_zero, List.set_cons_succ]))
      have hE4 := hE.trans hx4
      have hl4 := ho4.xl
      have hj4 := joinT_length xs 1 ys
      have HGv := hidP (l8Give_any R ta tn tc (some ⟨g4, 0, none⟩) (joinT xs 1 ys).length c4 (joinT xs 1 ys) w4 ho4.termsAt (by omega) (by omega))
      have HO4 := hidP (ho4.weaken (B' := w.heap.size) (Nat.le_trans HX3.out.size hE.size) (Nat.le_refl _))
      clear ho4 hx4 hE
      cases hb : chrB R (joinT xs 1 ys)
      · rw [hb, if_neg Bool.false_ne_true] at HGv
        have hJ : Hid (addR R ts xs ys = (false, [])) := by
          show _ = _
          rw [HR2.out]
          unfold chrR
          rw [hb]
          rfl
        clear hb
        (refine walkR_only (fun w' => Ext w3 w') rfl (by decide +kernel) rfl (fun _ h => h) ?_; intro K hK; go_simp; refine (HGv.out).mono ?_; rintro e w5 ⟨rfl, hx5⟩; refine hK _ _ (hE4.trans hx5) ?_; clear hK K; (try simp only [Act.put, List.setIfInBounds_toArray, List.set_cons_zero, List.set_cons_succ]))
        have hE5 := hE4.trans hx5
        (repeat (first | (refine walkR_still (v := ?_) rfl (by decide +kernel) rfl (fun _ _ _ h => h) hE5 ?_ ?_; rotate_left; (focus (intro w' hw'; skip; go_simp; all_goals (with_reducible rfl))); simp only [Act.put, List.setIfInBounds_toArray, List.set_cons_zero, List.set_cons_succ]) | (refine walkR_skip rfl (by decide +kernel) rfl (fun _ _ _ h => h) hE5 ?_; simp only [Act.put, List.setIfInBounds_toArray, List.set_cons_zero, List.set_cons_succ])))
        (refine walkR_tail (by rfl) (by kernel_rfl) ?_; simp only [List.drop_succ_cons, List.drop_zero])
        have HX5 := hidP (HX3.out.trans hE5)
        clear hx5 hE4 hE5
        go_wp2
        refine bodyPost_ret (v := .tuple #[.slice none 0 0, .bool false]) (by simp [results, Tryz.results46, go_sem]) rfl ?_
        have hO : OwnK stepK w5 w.heap.size w5.heap.size none 0 0 [] (addR R ts xs ys).2 := by
          rw [hJ.out]
          exact OwnK.nil stepK _ _ _
        first | exact ⟨none, 0, 0, [], by rw [hJ.out], hO, HX5.out⟩ | exact ⟨none, 0, 0, by rw [hJ.out], ⟨[], hO⟩, HX5.out⟩
      · rw [hb, if_pos rfl] at HGv
        have hJ : Hid (addR R ts xs ys = (true, joinT xs 1 ys)) := by
          show _ = _
          rw [HR2.out]
          unfold chrR
          rw [hb]
          rfl
        clear hb
        (refine walkR_only (fun w' => Ext w3 w') rfl (by decide +kernel) rfl (fun _ h => h) ?_; intro K hK; go_simp; refine (HGv.out).mono ?_; rintro e w5 ⟨rfl, hx5⟩; refine hK _ _ (hE4.trans hx5) ?_; clear hK K; (try simp only [Act.put, List.setIfInBounds_toArray, List.set_cons_zero, List.set_cons_succ]))
        have hE5 := hE4.trans hx5
        (repeat (first | (refine walkR_still (v := ?_) rfl (by decide +kernel) rfl (fun _ _ _ h => h) hE5 ?_ ?_; rotate_left; (focus (intro w' hw'; skip; go_simp; all_goals (with_reducible rfl))); simp only [Act.put, List.setIfInBounds_toArray, List.set_cons_zero, List.set_cons_succ]) | (refine walkR_skip rfl (by decide +kernel) rfl (fun _ _ _ h => h) hE5 ?_; simp only [Act.put, List.setIfInBounds_toArray, List.set_cons_zero, List.set_cons_succ])))
        (refine walkR_tail (by rfl) (by kernel_rfl) ?_; simp only [List.drop_succ_cons, List.drop_zero])
        have HX5 := hidP (HX3.out.trans hE5)
        have HO5 := hidP ((HO4.out.below hx5).weaken (Nat.le_refl _) hx5.size)
        clear hx5 hE4 hE5
        go_wp2
        refine bodyPost_ret (v := .tuple #[.slice (some ⟨g4, 0, none⟩) (joinT xs 1 ys).length c4, .bool true]) (by simp [results, Tryz.results46, go_sem]) rfl ?_
        have hO : OwnK stepK w5 w.heap.size w5.heap.size (some ⟨g4, 0, none⟩) (joinT xs 1 ys).length c4 hs4 (addR R ts xs ys).2 := by
          rw [hJ.out]
          exact HO5.out
        first | exact ⟨some ⟨g4, 0, none⟩, (joinT xs 1 ys).length, c4, hs4, by rw [hJ.out], hO, HX5.out⟩ | exact ⟨some ⟨g4, 0, none⟩, (joinT xs 1 ys).length, c4, by rw [hJ.out], ⟨hs4, hO⟩, HX5.out⟩
theorem addR_small (r : Int) (ts : List Int) (us vs : List Tm) : SmallL (addR r ts us vs).2 := by
  unfold addR
  split
  · rename_i h
    simp only [Bool.and_eq_true] at h
    have := typeB_rank h.1
    split
    · exact chrR_small (by omega) _
    · exact SmallL.nil
  · exact SmallL.nil
end Go.Proofs.YtnfbfdamlnjblaaGreatDoor
