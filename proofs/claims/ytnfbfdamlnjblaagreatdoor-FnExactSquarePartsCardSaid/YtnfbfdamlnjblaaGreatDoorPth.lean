/-
  Paths, plain: steps put together, heights, a reflection between two times, lowering and raising. No program in sight.
-/
namespace Go.Proofs.YtnfbfdamlnjblaaGreatDoor

abbrev Stp := List Int × Int
def wayAt (p : List Stp) (k : Nat) : List Int := (p.getD k ([], 0)).1
def lenAt (p : List Stp) (k : Nat) : Int := (p.getD k ([], 0)).2
def wayB (r : Nat) (w : List Int) : Bool := decide (w.length = r) && w.all fun x => decide (-1000 ≤ x ∧ x ≤ 1000)
/-- the time at the beginning of step k -/
def timeAt (p : List Stp) : Nat → Int
  | 0 => 0
  | k + 1 => timeAt p k + lenAt p k
def htAt (i : Nat) (p : List Stp) : Nat → Int
  | 0 => 0
  | k + 1 => htAt i p k + lenAt p k * (wayAt p k).getD i 0
def stepB (r : Nat) (p : List Stp) (k : Nat) : Bool := wayB r (wayAt p k) && (decide (1 ≤ lenAt p k ∧ lenAt p k ≤ 83160) && (decide (k = 0) || wayAt p (k - 1) != wayAt p k))
def pathB (r : Nat) (p : List Stp) : Bool := decide (p.length ≤ 60) && (List.range p.length).all (stepB r p) && (decide (timeAt p p.length % 27720 = 0) && decide (timeAt p p.length ≤ 83160))

structure PathP (r : Nat) (p : List Stp) : Prop where
  len : p.length ≤ 60
  way : ∀ k, k < p.length → (wayAt p k).length = r ∧ ∀ j, j < r → -1000 ≤ (wayAt p k).getD j 0 ∧ (wayAt p k).getD j 0 ≤ 1000
  dur : ∀ k, k < p.length → 1 ≤ lenAt p k ∧ lenAt p k ≤ 83160
  ne : ∀ k, k + 1 < p.length → wayAt p k ≠ wayAt p (k + 1)
  tot : timeAt p p.length % 27720 = 0
  tle : timeAt p p.length ≤ 83160
theorem wayB_iff {r : Nat} {w : List Int} : wayB r w = true ↔ w.length = r ∧ ∀ j, j < r → -1000 ≤ w.getD j 0 ∧ w.getD j 0 ≤ 1000 := by
  simp only [wayB, Bool.and_eq_true, decide_eq_true_eq, List.all_eq_true]
  constructor
  · rintro ⟨h1, h2⟩
    refine ⟨h1, fun j hj => ?_⟩
    have hj' : j < w.length := by omega
    rw [List.getD_eq_getElem?_getD, List.getElem?_eq_getElem hj', Option.getD_some]
    exact h2 _ (List.getElem_mem hj')
  · rintro ⟨h1, h2⟩
    refine ⟨h1, fun x hx => ?_⟩
    obtain ⟨j, hj, rfl⟩ := List.mem_iff_getElem.1 hx
    have := h2 j (by omega)
    rwa [List.getD_eq_getElem?_getD, List.getElem?_eq_getElem hj, Option.getD_some] at this
theorem pathB_iff {r : Nat} {p : List Stp} : pathB r p = true ↔ PathP r p := by
  simp only [pathB, Bool.and_eq_true, decide_eq_true_eq, List.all_eq_true, List.mem_range, stepB, Bool.or_eq_true, bne_iff_ne, ne_eq]
  constructor
  · rintro ⟨⟨h1, h2⟩, h3, h4⟩
    refine ⟨h1, fun k hk => wayB_iff.1 (h2 k hk).1, fun k hk => (h2 k hk).2.1, fun k hk => ?_, h3, h4⟩
    rcases (h2 (k + 1) hk).2.2 with h | h
    · omega
    · exact h
  · rintro ⟨h1, h2, h3, h4, h5, h6⟩
    refine ⟨⟨h1, fun k hk => ⟨wayB_iff.2 (h2 k hk), h3 k hk, ?_⟩⟩, h5, h6⟩
    rcases Nat.eq_zero_or_pos k with h | h
    · exact .inl h
    · right
      have := h4 (k - 1) (by omega)
      rwa [show k - 1 + 1 = k by omega] at this

/-! ### steps put together -/
/-- a step behind others -/
def addS (out : List Stp) (s : Stp) : List Stp :=
  if s.2 = 0 then out else
  match out.getLast? with
  | some l => if l.1 = s.1 then out.dropLast ++ [(l.1, l.2 + s.2)] else out ++ [s]
  | none => [s]
def joinS (p : List Stp) : List Stp := p.foldl addS []
/-- what is checked -/
def checkS (r : Nat) (p : List Stp) : Option (List Stp) := if pathB r (joinS p) then some (joinS p) else none

def expand (p : List Stp) : List (List Int) := p.flatMap fun s => List.replicate s.2.toNat s.1
/-- no step of no time, no neighbours of one direction -/
def Normal (p : List Stp) : Prop := (∀ s ∈ p, 0 < s.2) ∧ p.Pairwise (fun _ _ => True) ∧ ∀ k, k + 1 < p.length → wayAt p k ≠ wayAt p (k + 1)

theorem addS_zero (out : List Stp) (s : Stp) (h : s.2 = 0) : addS out s = out := by unfold addS; rw [if_pos h]
theorem addS_nil (s : Stp) (h : s.2 ≠ 0) : addS [] s = [s] := by unfold addS; rw [if_neg h]; rfl
theorem addS_snoc (o : List Stp) (l s : Stp) (h : s.2 ≠ 0) : addS (o ++ [l]) s = if l.1 = s.1 then o ++ [(l.1, l.2 + s.2)] else o ++ [l] ++ [s] := by
  unfold addS
  rw [if_neg h]
  simp
theorem snoc_cases {α : Type} (o : List α) : o = [] ∨ ∃ o' l, o = o' ++ [l] := by
  rcases o.eq_nil_or_concat with h | ⟨o', l, h⟩
  · exact .inl h
  · exact .inr ⟨o', l, by simpa using h⟩
theorem wayAt_snoc (o : List Stp) (l : Stp) : wayAt (o ++ [l]) o.length = l.1 := by simp [wayAt, List.getD_eq_getElem?_getD]
theorem lenAt_snoc (o : List Stp) (l : Stp) : lenAt (o ++ [l]) o.length = l.2 := by simp [lenAt, List.getD_eq_getElem?_getD]
theorem wayAt_app (o q : List Stp) (k : Nat) (h : k < o.length) : wayAt (o ++ q) k = wayAt o k := by simp [wayAt, List.getD_eq_getElem?_getD, List.getElem?_append_left h]
theorem lenAt_app (o q : List Stp) (k : Nat) (h : k < o.length) : lenAt (o ++ q) k = lenAt o k := by simp [lenAt, List.getD_eq_getElem?_getD, List.getElem?_append_left h]
theorem Normal.nil : Normal [] := ⟨by simp, by simp, fun k h => by simp at h⟩
theorem Normal.snoc {o : List Stp} {l : Stp} (h : Normal o) (hl : 0 < l.2) (hne : ∀ o' l', o = o' ++ [l'] → l'.1 ≠ l.1) : Normal (o ++ [l]) := by
  refine ⟨?_, by simp [List.pairwise_iff_forall_sublist], fun k hk => ?_⟩
  · intro s hs
    simp only [List.mem_append, List.mem_singleton] at hs
    rcases hs with hs | rfl
    · exact h.1 s hs
    · exact hl
  · rw [List.length_append, List.length_cons, List.length_nil] at hk
    rw [wayAt_app _ _ _ (by omega)]
    by_cases e : k + 1 < o.length
    · rw [wayAt_app _ _ _ e]
      exact h.2.2 k e
    · have e : k + 1 = o.length := by omega
      rw [e, wayAt_snoc]
      rcases snoc_cases o with rfl | ⟨o', l', rfl⟩
      · simp at e
      · have : k = o'.length := by simp at e; exact e
        subst this
        rw [wayAt_snoc]
        exact hne o' l' rfl
theorem Normal.init {o : List Stp} {l : Stp} (h : Normal (o ++ [l])) : Normal o ∧ 0 < l.2 ∧ ∀ o' l', o = o' ++ [l'] → l'.1 ≠ l.1 := by
  refine ⟨⟨fun s hs => h.1 s (by simp [hs]), by simp [List.pairwise_iff_forall_sublist], fun k hk => ?_⟩, h.1 l (by simp), ?_⟩
  · have := h.2.2 k (by simp; omega)
    rwa [wayAt_app _ _ _ (by omega), wayAt_app _ _ _ hk] at this
  · rintro o' l' rfl
    have := h.2.2 o'.length (by simp)
    rw [wayAt_app _ _ _ (by simp), wayAt_snoc] at this
    rw [show o'.length + 1 = (o' ++ [l']).length by simp, wayAt_snoc] at this
    exact this
theorem expand_append (p q : List Stp) : expand (p ++ q) = expand p ++ expand q := by simp [expand]
theorem expand_one (s : Stp) : expand [s] = List.replicate s.2.toNat s.1 := by simp [expand]
theorem addS_normal {o : List Stp} {s : Stp} (h : Normal o) (hs : 0 ≤ s.2) : Normal (addS o s) ∧ expand (addS o s) = expand o ++ expand [s] := by
  by_cases h0 : s.2 = 0
  · rw [addS_zero _ _ h0]
    exact ⟨h, by simp [expand_one, h0]⟩
  · rcases snoc_cases o with rfl | ⟨o, l, rfl⟩
    · rw [addS_nil _ h0]
      refine ⟨?_, by simp [expand]⟩
      have := Normal.snoc (l := s) Normal.nil (by omega) (fun o' l' e => by simp at e)
      simpa using this
    · rw [addS_snoc _ _ _ h0]
      obtain ⟨h1, h2, h3⟩ := h.init
      by_cases e : l.1 = s.1
      · rw [if_pos e]
        refine ⟨h1.snoc (by show 0 < l.2 + s.2; omega) h3, ?_⟩
        rw [expand_append, expand_append, expand_one, expand_one, expand_one, List.append_assoc, e, List.replicate_append_replicate]
        congr 2
        show (l.2 + s.2).toNat = _
        omega
      · rw [if_neg e]
        refine ⟨h.snoc (by omega) ?_, by rw [expand_append]⟩
        intro o' l' e'
        obtain ⟨_, e2⟩ := List.append_inj' e' rfl
        simp only [List.cons.injEq, and_true] at e2
        subst e2
        exact e
theorem foldl_normal : ∀ (p o : List Stp), Normal o → (∀ s ∈ p, 0 ≤ s.2) → Normal (p.foldl addS o) ∧ expand (p.foldl addS o) = expand o ++ expand p
  | [], o, h, _ => ⟨h, by simp [expand]⟩
  | s :: p, o, h, hp => by
    obtain ⟨h1, h2⟩ := addS_normal (s := s) h (hp s (by simp))
    obtain ⟨h3, h4⟩ := foldl_normal p (addS o s) h1 fun t ht => hp t (by simp [ht])
    refine ⟨h3, ?_⟩
    rw [List.foldl_cons, h4, h2, List.append_assoc, ← expand_append]
    rfl
theorem join_normal {p : List Stp} (hp : ∀ s ∈ p, 0 ≤ s.2) : Normal (joinS p) ∧ expand (joinS p) = expand p := by
  have := foldl_normal p [] Normal.nil hp
  exact ⟨this.1, by unfold joinS; rw [this.2]; simp [expand]⟩
theorem expand_last {o : List Stp} {l : Stp} (h : 0 < l.2) : ∃ e, expand (o ++ [l]) = e ++ [l.1] := by
  rw [expand_append, expand_one]
  obtain ⟨n, hn⟩ : ∃ n, l.2.toNat = n + 1 := ⟨l.2.toNat - 1, by omega⟩
  rw [hn, List.replicate_succ']
  exact ⟨expand o ++ List.replicate n l.1, by simp⟩
theorem strip (n : Nat) : ∀ (w : List Int) (p q : List Stp) (m : Nat), (∀ p' l, p = p' ++ [l] → l.1 ≠ w ∧ 0 < l.2) → (∀ p' l, q = p' ++ [l] → l.1 ≠ w ∧ 0 < l.2) →
    expand p ++ List.replicate n w = expand q ++ List.replicate m w → n = m ∧ expand p = expand q := by
  induction n with
  | zero =>
    intro w p q m hp hq he
    cases m with
    | zero => exact ⟨rfl, by simpa using he⟩
    | succ m =>
      exfalso
      rw [List.replicate_succ', ← List.append_assoc] at he
      rcases snoc_cases p with rfl | ⟨p', l, rfl⟩
      · simp [expand] at he
      · obtain ⟨h1, h2⟩ := hp p' l rfl
        obtain ⟨e, hx⟩ := expand_last (o := p') h2
        rw [hx] at he
        simp only [List.replicate_zero, List.append_nil] at he
        obtain ⟨_, h3⟩ := List.append_inj' he rfl
        simp only [List.cons.injEq, and_true] at h3
        exact h1 h3
  | succ n ih =>
    intro w p q m hp hq he
    cases m with
    | zero =>
      exfalso
      rw [List.replicate_succ', ← List.append_assoc] at he
      rcases snoc_cases q with rfl | ⟨p', l, rfl⟩
      · simp [expand] at he
      · obtain ⟨h1, h2⟩ := hq p' l rfl
        obtain ⟨e, hx⟩ := expand_last (o := p') h2
        rw [hx] at he
        simp only [List.replicate_zero, List.append_nil] at he
        obtain ⟨_, h3⟩ := List.append_inj' he rfl
        simp only [List.cons.injEq, and_true] at h3
        exact h1 h3.symm
    | succ m =>
      rw [List.replicate_succ', List.replicate_succ', ← List.append_assoc, ← List.append_assoc] at he
      obtain ⟨h3, _⟩ := List.append_inj' he rfl
      obtain ⟨h4, h5⟩ := ih w p q m hp hq h3
      exact ⟨by omega, h5⟩
theorem normal_unique (n : Nat) : ∀ (p q : List Stp), p.length ≤ n → Normal p → Normal q → expand p = expand q → p = q := by
  induction n with
  | zero =>
    intro p q hl hp hq he
    obtain rfl : p = [] := List.eq_nil_of_length_eq_zero (by omega)
    rcases snoc_cases q with rfl | ⟨q, l, rfl⟩
    · rfl
    · exfalso
      obtain ⟨e, hx⟩ := expand_last (o := q) hq.init.2.1
      rw [hx] at he
      simp [expand] at he
  | succ n ih =>
    intro p q hl hp hq he
    rcases snoc_cases p with rfl | ⟨p, l, rfl⟩
    · rcases snoc_cases q with rfl | ⟨q, l, rfl⟩
      · rfl
      · exfalso
        obtain ⟨e, hx⟩ := expand_last (o := q) hq.init.2.1
        rw [hx] at he
        simp [expand] at he
    · rcases snoc_cases q with rfl | ⟨q, m, rfl⟩
      · exfalso
        obtain ⟨e, hx⟩ := expand_last (o := p) hp.init.2.1
        rw [hx] at he
        simp [expand] at he
      · obtain ⟨p1, p2, p3⟩ := hp.init
        obtain ⟨q1, q2, q3⟩ := hq.init
        obtain ⟨e, hx⟩ := expand_last (o := p) p2
        obtain ⟨e', hx'⟩ := expand_last (o := q) q2
        have hw : l.1 = m.1 := by
          rw [hx, hx'] at he
          obtain ⟨_, h3⟩ := List.append_inj' he rfl
          simpa using h3
        rw [expand_append, expand_append, expand_one, expand_one, ← hw] at he
        obtain ⟨h4, h5⟩ := strip l.2.toNat l.1 p q m.2.toNat (fun p' l' e => ⟨p3 p' l' e, by subst e; exact p1.1 l' (by simp)⟩) (fun p' l' e => ⟨by rw [hw]; exact q3 p' l' e, by subst e; exact q1.1 l' (by simp)⟩) he
        rw [ih p q (by simp at hl; omega) p1 q1 h5]
        congr 2
        exact Prod.ext hw (by omega)
theorem join_unique {p q : List Stp} (hp : ∀ s ∈ p, 0 ≤ s.2) (hq : Normal q) (he : expand p = expand q) : joinS p = q := by
  obtain ⟨h1, h2⟩ := join_normal hp
  exact normal_unique _ _ _ (Nat.le_refl _) h1 hq (by rw [h2, he])
theorem join_congr {p q : List Stp} (hp : ∀ s ∈ p, 0 ≤ s.2) (hq : ∀ s ∈ q, 0 ≤ s.2) (he : expand p = expand q) : joinS p = joinS q := by
  obtain ⟨h1, h2⟩ := join_normal hq
  exact join_unique hp h1 (by rw [he, h2])

/-! ### gone back -/
def negW (w : List Int) : List Int := w.map fun x => -x
def mirS (p : List Stp) : List Stp := (p.map fun s => (negW s.1, s.2)).reverse
theorem negW_negW (w : List Int) : negW (negW w) = w := by simp [negW, Function.comp_def]
theorem negW_inj {v w : List Int} (h : negW v = negW w) : v = w := by rw [← negW_negW v, h, negW_negW]
theorem mirS_mirS (p : List Stp) : mirS (mirS p) = p := by
  unfold mirS
  rw [List.map_reverse, List.reverse_reverse, List.map_map]
  conv => rhs; rw [← List.map_id p]
  apply List.map_congr_left
  intro s _
  simp [negW_negW]
theorem mirS_length (p : List Stp) : (mirS p).length = p.length := by simp [mirS]
theorem mirS_get (p : List Stp) (k : Nat) (h : k < p.length) : wayAt (mirS p) k = negW (wayAt p (p.length - 1 - k)) ∧ lenAt (mirS p) k = lenAt p (p.length - 1 - k) := by
  have h2 : p.length - 1 - k < p.length := by omega
  unfold wayAt lenAt mirS
  simp only [List.getD_eq_getElem?_getD]
  rw [List.getElem?_reverse (by simpa using h), List.getElem?_map, List.length_map, List.getElem?_eq_getElem h2]
  exact ⟨rfl, rfl⟩
theorem expand_mir (p : List Stp) : expand (mirS p) = ((expand p).map negW).reverse := by
  induction p with
  | nil => rfl
  | cons s p ih =>
    have : mirS (s :: p) = mirS p ++ [(negW s.1, s.2)] := by simp [mirS]
    rw [this, expand_append, ih, expand_one]
    have h2 : expand (s :: p) = List.replicate s.2.toNat s.1 ++ expand p := by simp [expand]
    rw [h2]
    simp
theorem normal_mir {p : List Stp} (h : Normal p) : Normal (mirS p) := by
  refine ⟨?_, by simp [List.pairwise_iff_forall_sublist], fun k hk => ?_⟩
  · intro s hs
    simp only [mirS, List.mem_reverse, List.mem_map] at hs
    obtain ⟨t, ht, rfl⟩ := hs
    exact h.1 t ht
  · rw [mirS_length] at hk
    rw [(mirS_get p k (by omega)).1, (mirS_get p (k + 1) hk).1]
    intro e
    have := negW_inj e
    have h2 := h.2.2 (p.length - 1 - (k + 1)) (by omega)
    rw [show p.length - 1 - (k + 1) + 1 = p.length - 1 - k by omega] at h2
    exact h2 this.symm
theorem join_mir {p : List Stp} (hp : ∀ s ∈ p, 0 ≤ s.2) : joinS (mirS p) = mirS (joinS p) := by
  obtain ⟨h1, h2⟩ := join_normal hp
  refine join_unique ?_ (normal_mir h1) (by rw [expand_mir, expand_mir, h2])
  intro s hs
  simp only [mirS, List.mem_reverse, List.mem_map] at hs
  obtain ⟨t, ht, rfl⟩ := hs
  exact hp t ht
theorem negW_length (w : List Int) : (negW w).length = w.length := by simp [negW]
theorem negW_getD (w : List Int) (j : Nat) : (negW w).getD j 0 = - w.getD j 0 := by
  simp only [negW, List.getD_eq_getElem?_getD, List.getElem?_map]
  cases w[j]? <;> simp
theorem timeAt_mir (p : List Stp) : ∀ k, k ≤ p.length → timeAt (mirS p) k = timeAt p p.length - timeAt p (p.length - k)
  | 0, _ => by simp [timeAt]
  | k + 1, h => by
    rw [timeAt, timeAt_mir p k (by omega), (mirS_get p k (by omega)).2]
    have : p.length - k = (p.length - (k + 1)) + 1 := by omega
    rw [this, timeAt, show p.length - 1 - k = p.length - (k + 1) by omega]
    omega
theorem htAt_mir (i : Nat) (p : List Stp) : ∀ k, k ≤ p.length → htAt i (mirS p) k = htAt i p (p.length - k) - htAt i p p.length
  | 0, _ => by simp [htAt]
  | k + 1, h => by
    rw [htAt, htAt_mir i p k (by omega), (mirS_get p k (by omega)).2, (mirS_get p k (by omega)).1, negW_getD, Int.mul_neg]
    have : p.length - k = (p.length - (k + 1)) + 1 := by omega
    rw [this, htAt, show p.length - 1 - k = p.length - (k + 1) by omega]
    omega
theorem path_mir {r : Nat} {p : List Stp} (h : PathP r p) : PathP r (mirS p) := by
  refine ⟨by rw [mirS_length]; exact h.len, fun k hk => ?_, fun k hk => ?_, fun k hk => ?_, ?_, ?_⟩
  · rw [mirS_length] at hk
    obtain ⟨h1, h2⟩ := h.way (p.length - 1 - k) (by omega)
    rw [(mirS_get p k hk).1, negW_length]
    refine ⟨h1, fun j hj => ?_⟩
    rw [negW_getD]
    have := h2 j hj
    omega
  · rw [mirS_length] at hk
    rw [(mirS_get p k hk).2]
    exact h.dur _ (by omega)
  · rw [mirS_length] at hk
    rw [(mirS_get p k (by omega)).1, (mirS_get p (k + 1) hk).1]
    intro e
    have := negW_inj e
    have h2 := h.ne (p.length - 1 - (k + 1)) (by omega)
    rw [show p.length - 1 - (k + 1) + 1 = p.length - 1 - k by omega] at h2
    exact h2 this.symm
  · rw [mirS_length, timeAt_mir p _ (Nat.le_refl _)]
    simpa [timeAt] using h.tot
  · rw [mirS_length, timeAt_mir p _ (Nat.le_refl _)]
    simpa [timeAt] using h.tle
theorem pathB_mir (r : Nat) (p : List Stp) : pathB r (mirS p) = pathB r p := by
  rw [Bool.eq_iff_iff, pathB_iff, pathB_iff]
  refine ⟨fun h => ?_, path_mir⟩
  have := path_mir h
  rwa [mirS_mirS] at this
theorem check_mir {r : Nat} {p : List Stp} (hp : ∀ s ∈ p, 0 ≤ s.2) : checkS r (mirS p) = (checkS r p).map mirS := by
  unfold checkS
  rw [join_mir hp, pathB_mir]
  split <;> rfl
end Go.Proofs.YtnfbfdamlnjblaaGreatDoor
