/-
  Regions that draw their order: a walk in one order serves all orders. The operations that only read are taken first, in every world of a class; the others follow one by one, each of them the only one that may come up; a tail of operations that wait for all others is free to leave the class.
-/
import Derived.Test.YtnfbfdamlnjblaaGreatDoorMem
import Derived.OrdersHeld
import Derived.StillTail
namespace Go.Proofs.YtnfbfdamlnjblaaGreatDoor
open Go.RowKit

section
variable {P : Program} {ops : Array Oper} {Q : Exit → Act → World → Prop} {C C' : World → Prop} {n : Nat}

/-- whatever order is picked from here on; behind each operation ahead of place n the world is of the class -/
def anyC (P : Program) (ops : Array Oper) (Q : Exit → Act → World → Prop) (n : Nat) (C : World → Prop) : Nat → Array Bool → Act → World → Prop
  | 0, listed, a, w => Region.ready .any ops listed = [] ∧ Q .normal a w
  | f + 1, listed, a, w => (Region.ready .any ops listed = [] → Q .normal a w) ∧
      ∀ i ∈ Region.ready .any ops listed, wpOp P ops Q i (fun a' w' => (i < n → C w') ∧ anyC P ops Q n C f (listed.setIfInBounds i true) a' w') a w

theorem anyC.out : ∀ (f : Nat) (listed : Array Bool) (a : Act) (w : World), anyC P ops Q n C f listed a w → wpAny P .any ops Q f listed a w
  | 0, _, _, _, h => h
  | f + 1, _, _, _, h => ⟨h.1, fun i hi => wpOp_mono (fun a' w' h' => anyC.out f _ a' w' h'.2) (h.2 i hi)⟩

theorem anyC.imp (hC : ∀ w, C' w → C w) : ∀ (f : Nat) (listed : Array Bool) (a : Act) (w : World), anyC P ops Q n C' f listed a w → anyC P ops Q n C f listed a w
  | 0, _, _, _, h => h
  | f + 1, _, _, _, h => ⟨h.1, fun i hi => wpOp_mono (fun a' w' h' => ⟨fun hn => hC _ (h'.1 hn), anyC.imp hC f _ a' w' h'.2⟩) (h.2 i hi)⟩

/-- no operation of the tail may come up while one of the head has not -/
def TailLast (ops : Array Oper) (n : Nat) : Prop := ∀ (listed : Array Bool), HeadInv .any ops n listed → ∀ i, i < n → listed.getD i true = false → ∀ t, n ≤ t → t ∉ Region.ready .any ops listed

def tailB (ops : Array Oper) (n : Nat) : Bool := decide (n = ops.size) || (decide (n < ops.size) && Region.sinkB .any ops n && Region.chainB .any ops n)
theorem tailB.last (h : tailB ops n = true) : TailLast ops n := by
  intro listed inv i hi hun t ht hr
  simp only [tailB, Bool.or_eq_true, decide_eq_true_eq, Bool.and_eq_true] at h
  rcases h with h | ⟨⟨h1, h2⟩, h3⟩
  · obtain ⟨_, ot, hot, _⟩ := mem_ready.1 hr
    have := (Array.getElem?_eq_some_iff.1 hot).1
    omega
  · exact tail_waits h2 h3 h1 inv _ i rfl hi hun t ht hr

theorem anyC.still_any {i : Nat} {oi : Oper} {v : Value} (hi : ops[i]? = some oi) (hsel : ∀ (j : Nat) (o : Oper) cs b, ops[j]? = some o → o.op ≠ .select cs b)
    (hQ : ∀ c a w, Q (.panic c) (a.put oi.dst v) w → Q (.panic c) a w) (hT : TailLast ops n) (hin : i < n) :
    ∀ (f : Nat) (listed : Array Bool) (a : Act) (w : World), HeadInv .any ops n listed →
      (∀ j oj, ops[j]? = some oj → j ≠ i → listed.getD j true = false → (∀ e ∈ oj.after, Region.binds .any e = true → e.on ≠ i) → oi.apart ops oj = true) →
      i ∈ Region.ready .any ops listed → YieldsIf P ops C oi v a → C w →
      anyC P ops Q n C f (listed.setIfInBounds i true) (a.put oi.dst v) w → anyC P ops Q n C (f + 1) listed a w := by
  intro f
  induction f with
  | zero =>
    intro listed a w inv _ hr hy hS H
    refine ⟨fun h => (by rw [h] at hr; cases hr), fun j hj => ?_⟩
    by_cases hji : j = i
    · subst hji; exact hy.wpOp hi hS ⟨fun _ => hS, H⟩
    · have := ready_mono hj hji
      rw [H.1] at this
      cases this
  | succ f ih =>
    intro listed a w inv hfree hr hy hS H
    have hun := (mem_ready.1 hr).1
    refine ⟨fun h => (by rw [h] at hr; cases hr), fun j hj => ?_⟩
    by_cases hji : j = i
    · subst hji; exact hy.wpOp hi hS ⟨fun _ => hS, H⟩
    · have hjn : j < n := by
        rcases Nat.lt_or_ge j n with h | h
        · exact h
        · exact absurd hj (hT listed inv i hin hun j h)
      have h1 := H.2 j (ready_mono hj hji)
      obtain ⟨hjun, oj, hoj, hall⟩ := mem_ready.1 hj
      have hnot : ∀ e ∈ oj.after, Region.binds .any e = true → e.on ≠ i := fun e he hb heq => by
        have h1 := hall e he hb
        rw [heq, getD_both hun] at h1
        cases h1
      have h2 := wpOp_putIf hoj (hfree j oj hoj hji hjun hnot) (fun cs b => hsel i oi cs b hi) (fun cs b => hsel j oj cs b hoj) hQ hy h1
      have hfree' : ∀ k ok, ops[k]? = some ok → k ≠ i → (listed.setIfInBounds j true).getD k true = false →
          (∀ e ∈ ok.after, Region.binds .any e = true → e.on ≠ i) → oi.apart ops ok = true := fun k ok hk hki hun hno => by
        refine hfree k ok hk hki ?_ hno
        by_cases hjk : j = k
        · subst hjk; exact hjun
        · rw [getD_set_ne true hjk] at hun; exact hun
      refine wpOp_mono (fun a' w' h3 => ⟨fun _ => h3.2.1 hjn, ih (listed.setIfInBounds j true) a' w' (inv.set hj hjn) hfree' (ready_mono hr (Ne.symm hji)) h3.1 (h3.2.1 hjn) ?_⟩) h2
      rw [Array.setIfInBounds_comm _ _ hji]
      exact h3.2.2

/-- the state of a walk: what has come up is closed under the edges, the tail has not come up -/
def WalkC (P : Program) (ops : Array Oper) (Q : Exit → Act → World → Prop) (n : Nat) (C : World → Prop) (f : Nat) (listed : Array Bool) (a : Act) (w : World) : Prop :=
  HeadInv .any ops n listed → anyC P ops Q n C f listed a w

theorem walkC_start {id : Nat} {a : Act} {w : World} (C : World → Prop) (n : Nat) (hm : P.follows .mixedOrders = true)
    (h : WalkC P ops Q n C ops.size (Array.replicate ops.size false) a w.drew) : (Code.region id ops true).wp P Q a w := by
  refine wp_region_any hm (anyC.out (C := C) (n := n) _ _ _ _ (h ⟨by simp, fun j oj _ hl => (by rw [getD_replicate_false] at hl; cases hl), fun t _ ht => getD_in (by simpa using ht) (getD_replicate_false _ _)⟩))

/-- an operation that only reads -/
theorem walkC_still {i : Nat} {oi : Oper} {v : Value} {f : Nat} {listed : Array Bool} {a : Act} {w : World} (hi : ops[i]? = some oi)
    (hb : (Region.noSelect ops && Region.free .any ops listed i && (Region.ready .any ops listed).contains i && tailB ops n && decide (i < n)) = true)
    (hQ : ∀ c a w, Q (.panic c) (a.put oi.dst v) w → Q (.panic c) a w) (hS : C w) (hy : YieldsIf P ops C oi v a)
    (h : WalkC P ops Q n C f (listed.setIfInBounds i true) (a.put oi.dst v) w) : WalkC P ops Q n C (f + 1) listed a w := by
  intro inv
  simp only [Bool.and_eq_true, decide_eq_true_eq] at hb
  obtain ⟨⟨⟨⟨h1, h2⟩, h3⟩, h4⟩, h5⟩ := hb
  exact anyC.still_any hi (Region.noSelect_spec h1) hQ (tailB.last h4) h5 f listed a w inv (Region.free_spec hi h2) (by simpa using h3) hy hS (h (inv.set (by simpa using h3) h5))

/-- the one operation that may come up; the class may become another, narrower one -/
theorem walkC_only {i : Nat} {oi : Oper} (C' : World → Prop) {f : Nat} {listed : Array Bool} {a : Act} {w : World} (hi : ops[i]? = some oi)
    (hb : (decide (Region.ready .any ops listed = [i]) && decide (i < n)) = true) (hw : Region.wanted oi (yielded ops a.tmps) = true) (hC : ∀ w, C' w → C w)
    (h : ∀ K : Act → World → Prop, (∀ a' w', C' w' → WalkC P ops Q n C' f (listed.setIfInBounds i true) a' w' → K a' w') → oi.wp P a w K Q) : WalkC P ops Q n C (f + 1) listed a w := by
  intro inv
  simp only [Bool.and_eq_true, decide_eq_true_eq] at hb
  have hr : i ∈ Region.ready .any ops listed := by rw [hb.1]; simp
  refine ⟨fun h0 => (by rw [hb.1] at h0; cases h0), fun j hj => ?_⟩
  rw [hb.1] at hj
  obtain rfl : j = i := by simpa using hj
  unfold wpOp
  simp only [hi, hw, if_true]
  refine .inl (h _ fun a' w' hc hk => ⟨fun _ => hC _ hc, anyC.imp hC _ _ _ _ (hk (inv.set hr hb.2))⟩)

theorem anyC.of_seq {Q : Exit → Act → World → Prop} : ∀ (l : List Oper) (k : Nat) (listed : Array Bool) (a : Act) (w : World), n ≤ k → (∀ j, l[j]? = ops[k + j]?) →
    Region.seqB .any ops l.length k listed = true → wpList P ops Q l a w → anyC P ops Q n C l.length listed a w
  | [], _, _, _, _, _, _, hB, h => ⟨by simpa [Region.seqB] using hB, h⟩
  | o :: l, k, listed, a, w, hn, hl, hB, h => by
    have h0 : ops[k]? = some o := by simpa using (hl 0).symm
    simp only [List.length_cons, Region.seqB, Bool.and_eq_true, decide_eq_true_eq] at hB
    refine ⟨fun h1 => (by rw [hB.1] at h1; cases h1), fun i hi => ?_⟩
    rw [hB.1] at hi
    have hik : i = k := by simpa using hi
    subst hik
    have hw : wpOp P ops Q i (wpList P ops Q l) a w := by unfold wpOp; simp only [h0]; exact h
    exact wpOp_mono (fun a' w' h' => ⟨fun hlt => by omega, anyC.of_seq l (i + 1) _ a' w' (by omega) (fun j => by have := hl (j + 1); simpa [Nat.add_assoc, Nat.add_comm 1 j] using this) hB.2 h'⟩) hw

/-- the tail, in the text's order -/
theorem walkC_tail {l : List Oper} {f : Nat} {listed : Array Bool} {a : Act} {w : World} (hf : f = (l.drop n).length) (hB : Region.seqB .any l.toArray (l.drop n).length n listed = true)
    (h : wpList P l.toArray Q (l.drop n) a w) : WalkC P l.toArray Q n C f listed a w := by
  intro _
  rw [hf]
  exact anyC.of_seq (l.drop n) n listed a w (Nat.le_refl _) (fun j => by simp [List.getElem?_drop]) hB h

theorem walkC_done {listed : Array Bool} {a : Act} {w : World} {f : Nat} (hr : (Region.ready .any ops listed).isEmpty = true) (h : Q .normal a w) : WalkC P ops Q n C f listed a w := by
  intro _
  have hr' : Region.ready .any ops listed = [] := by simpa using hr
  cases f with
  | zero => exact ⟨hr', h⟩
  | succ f => exact ⟨fun _ => h, by rw [hr']; simp⟩

/-- The same walk with a list of what is still to come, for reading the next operation off; the list itself says nothing. -/
def WalkR (P : Program) (ops : Array Oper) (Q : Exit → Act → World → Prop) (n : Nat) (C : World → Prop) (_rem : List (Nat × Oper)) (f : Nat) (listed : Array Bool) (a : Act) (w : World) : Prop :=
  WalkC P ops Q n C f listed a w

def numbered : Nat → List Oper → List (Nat × Oper)
  | _, [] => []
  | k, o :: l => (k, o) :: numbered (k + 1) l

theorem walkR_start {id : Nat} {l : List Oper} {a : Act} {w : World} (C : World → Prop) (n : Nat) (hm : P.follows .mixedOrders = true)
    (h : WalkR P l.toArray Q n C (numbered 0 (l.take n)) l.length (Array.replicate l.length false) a w.drew) : (Code.region id l.toArray true).wp P Q a w :=
  walkC_start C n hm (by simpa [WalkR] using h)

theorem walkR_later {x : Nat × Oper} {rem : List (Nat × Oper)} {f : Nat} {listed : Array Bool} {a : Act} {w : World} (h : WalkR P ops Q n C (rem ++ [x]) f listed a w) : WalkR P ops Q n C (x :: rem) f listed a w := h

theorem walkR_still {i : Nat} {oi : Oper} {v : Value} {rem : List (Nat × Oper)} {f : Nat} {listed : Array Bool} {a : Act} {w : World} (hi : ops[i]? = some oi)
    (hb : (Region.noSelect ops && Region.free .any ops listed i && (Region.ready .any ops listed).contains i && tailB ops n && decide (i < n)) = true)
    (hw : Region.wanted oi (yielded ops a.tmps) = true)
    (hQ : ∀ c a w, Q (.panic c) (a.put oi.dst v) w → Q (.panic c) a w) (hS : C w) (hy : ∀ w', C w' → (execOp a.eval oi).run P w' = .ok (.value v) w')
    (h : WalkR P ops Q n C rem f (listed.setIfInBounds i true) (a.put oi.dst v) w) : WalkR P ops Q n C ((i, oi) :: rem) (f + 1) listed a w :=
  walkC_still hi hb hQ hS (.inl ⟨hw, hy⟩) h

theorem walkR_skip {i : Nat} {oi : Oper} {rem : List (Nat × Oper)} {f : Nat} {listed : Array Bool} {a : Act} {w : World} (hi : ops[i]? = some oi)
    (hb : (Region.noSelect ops && Region.free .any ops listed i && (Region.ready .any ops listed).contains i && tailB ops n && decide (i < n)) = true)
    (hw : Region.wanted oi (yielded ops a.tmps) = false)
    (hQ : ∀ c a w, Q (.panic c) (a.put oi.dst undef) w → Q (.panic c) a w) (hS : C w)
    (h : WalkR P ops Q n C rem f (listed.setIfInBounds i true) (a.put oi.dst undef) w) : WalkR P ops Q n C ((i, oi) :: rem) (f + 1) listed a w :=
  walkC_still hi hb hQ hS (.inr ⟨hw, rfl⟩) h

theorem walkR_only {i : Nat} {oi : Oper} (C' : World → Prop) {rem : List (Nat × Oper)} {f : Nat} {listed : Array Bool} {a : Act} {w : World} (hi : ops[i]? = some oi)
    (hb : (decide (Region.ready .any ops listed = [i]) && decide (i < n)) = true) (hw : Region.wanted oi (yielded ops a.tmps) = true) (hC : ∀ w, C' w → C w)
    (h : ∀ K : Act → World → Prop, (∀ a' w', C' w' → WalkR P ops Q n C' rem f (listed.setIfInBounds i true) a' w' → K a' w') → oi.wp P a w K Q) : WalkR P ops Q n C ((i, oi) :: rem) (f + 1) listed a w :=
  walkC_only C' hi hb hw hC h

/-- two operations may come up: whichever is first -/
theorem walkC_split {i j : Nat} {oi oj : Oper} {f : Nat} {listed : Array Bool} {a : Act} {w : World} (hi : ops[i]? = some oi) (hj : ops[j]? = some oj)
    (hb : (decide (Region.ready .any ops listed = [i, j]) && decide (i < n) && decide (j < n)) = true) (hwi : Region.wanted oi (yielded ops a.tmps) = true) (hwj : Region.wanted oj (yielded ops a.tmps) = true)
    (h1 : ∀ K : Act → World → Prop, (∀ a' w', C w' → WalkC P ops Q n C f (listed.setIfInBounds i true) a' w' → K a' w') → oi.wp P a w K Q)
    (h2 : ∀ K : Act → World → Prop, (∀ a' w', C w' → WalkC P ops Q n C f (listed.setIfInBounds j true) a' w' → K a' w') → oj.wp P a w K Q) : WalkC P ops Q n C (f + 1) listed a w := by
  intro inv
  simp only [Bool.and_eq_true, decide_eq_true_eq] at hb
  obtain ⟨⟨hr, hin⟩, hjn⟩ := hb
  have hri : i ∈ Region.ready .any ops listed := by rw [hr]; simp
  have hrj : j ∈ Region.ready .any ops listed := by rw [hr]; simp
  refine ⟨fun h0 => (by rw [hr] at h0; cases h0), fun k hk => ?_⟩
  rw [hr] at hk
  simp only [List.mem_cons, List.not_mem_nil, or_false] at hk
  rcases hk with rfl | rfl
  · unfold wpOp
    simp only [hi, hwi, if_true]
    exact .inl (h1 _ fun a' w' hc hk => ⟨fun _ => hc, hk (inv.set hri hin)⟩)
  · unfold wpOp
    simp only [hj, hwj, if_true]
    exact .inl (h2 _ fun a' w' hc hk => ⟨fun _ => hc, hk (inv.set hrj hjn)⟩)
theorem Act.put_comm (a : Act) {x y : Nat} (h : x ≠ y) (v u : Value) : (a.put (some y) u).put (some x) v = (a.put (some x) v).put (some y) u := by
  simp only [Act.put]
  rw [Array.setIfInBounds_comm _ _ (Ne.symm h)]
/-- two operations in either order, both behind the same facts -/
theorem walkR_two {i j di dj : Nat} {oi oj : Oper} (R : Value → Value → World → Prop) (P1 P2 : Value → World → Prop) {rem : List (Nat × Oper)} {f : Nat} {listed : Array Bool} {a : Act} {w : World} (hi : ops[i]? = some oi) (hj : ops[j]? = some oj)
    (hb : (decide (Region.ready .any ops listed = [i, j]) && decide (i < n) && decide (j < n) && decide (Region.ready .any ops (listed.setIfInBounds i true) = [j]) && decide (Region.ready .any ops (listed.setIfInBounds j true) = [i]) && decide (i ≠ j)) = true)
    (_hdi : oi.dst = some di) (_hdj : oj.dst = some dj) (hd : di ≠ dj)
    (hwi : Region.wanted oi (yielded ops a.tmps) = true) (hwj : Region.wanted oj (yielded ops a.tmps) = true)
    (hwi2 : ∀ u, Region.wanted oi (yielded ops (a.put (some dj) u).tmps) = true) (hwj2 : ∀ v, Region.wanted oj (yielded ops (a.put (some di) v).tmps) = true)
    (h1 : ∀ K : Act → World → Prop, (∀ v w', C w' → P1 v w' → K (a.put (some di) v) w') → oi.wp P a w K Q)
    (h12 : ∀ v w', C w' → P1 v w' → ∀ K : Act → World → Prop, (∀ u w'', C w'' → R v u w'' → K ((a.put (some di) v).put (some dj) u) w'') → oj.wp P (a.put (some di) v) w' K Q)
    (h2 : ∀ K : Act → World → Prop, (∀ u w', C w' → P2 u w' → K (a.put (some dj) u) w') → oj.wp P a w K Q)
    (h21 : ∀ u w', C w' → P2 u w' → ∀ K : Act → World → Prop, (∀ v w'', C w'' → R v u w'' → K ((a.put (some dj) u).put (some di) v) w'') → oi.wp P (a.put (some dj) u) w' K Q)
    (h : ∀ v u w'', C w'' → R v u w'' → WalkR P ops Q n C rem f ((listed.setIfInBounds i true).setIfInBounds j true) ((a.put (some di) v).put (some dj) u) w'') : WalkR P ops Q n C ((i, oi) :: (j, oj) :: rem) (f + 2) listed a w := by
  simp only [Bool.and_eq_true, decide_eq_true_eq] at hb
  obtain ⟨⟨⟨⟨⟨hr, hin⟩, hjn⟩, hr1⟩, hr2⟩, hne⟩ := hb
  refine walkC_split (f := f + 1) hi hj (by simp [hr, hin, hjn]) hwi hwj ?_ ?_
  · intro K hK
    refine h1 K fun v w' hc hp => hK _ _ hc ?_
    refine walkC_only C hj (by simp [hr1, hjn]) (hwj2 v) (fun _ h => h) fun K' hK' => ?_
    exact h12 v w' hc hp K' fun u w'' hc' hr' => hK' _ _ hc' (h v u w'' hc' hr')
  · intro K hK
    refine h2 K fun u w' hc hp => hK _ _ hc ?_
    refine walkC_only C hi (by simp [hr2, hin]) (hwi2 u) (fun _ h => h) fun K' hK' => ?_
    refine h21 u w' hc hp K' fun v w'' hc' hr' => hK' _ _ hc' ?_
    have := h v u w'' hc' hr'
    rw [Act.put_comm a hd]
    rw [Array.setIfInBounds_comm _ _ (Ne.symm hne)]
    exact this

theorem walkR_tail {l : List Oper} {f : Nat} {listed : Array Bool} {a : Act} {w : World} (hf : f = (l.drop n).length) (hB : Region.seqB .any l.toArray (l.drop n).length n listed = true)
    (h : wpList P l.toArray Q (l.drop n) a w) : WalkR P l.toArray Q n C [] f listed a w := walkC_tail hf hB h

theorem walkR_done {listed : Array Bool} {a : Act} {w : World} {f : Nat} (hr : (Region.ready .any ops listed).isEmpty = true) (h : Q .normal a w) : WalkR P ops Q n C [] f listed a w :=
  walkC_done hr h
end
end Go.Proofs.YtnfbfdamlnjblaaGreatDoor
