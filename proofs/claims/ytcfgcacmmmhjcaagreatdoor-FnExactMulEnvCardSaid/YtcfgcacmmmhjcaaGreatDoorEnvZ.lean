/-
  Sums of words with numbers modulo p, plain: ordered lists of words, shorter ones first; insertion; products put into order. No program in sight.
  What the functions of enveloping elements give, plain. No program in sight.
  The program's sums of words that are collected (env): newEnv, add.
  The program's terms of a collected sum: the words with their numbers, in order. Printed by gen/envT.py.
  The program's sums of enveloping elements: addAll, checked, GeneratorOf, AddEnv.
  The program's GeneratorOf and AddEnv.
-/
import Derived.Test.YtcfgcacmmmhjcaaGreatDoorCntZ
import Derived.Test.YtcfgcacmmmhjcaaGreatDoorTrm2
import Derived.Test.YtcfgcacmmmhjcaaGreatDoorPth
import Derived.Test.YtcfgcacmmmhjcaaGreatDoorLie2
import Derived.Test.YtcfgcacmmmhjcaaGreatDoorSrt
import Derived.Test.YtcfgcacmmmhjcaaGreatDoorSrtS
import Derived.Test.YtcfgcacmmmhjcaaGreatDoorEnv1
import Derived.Test.YtcfgcacmmmhjcaaGreatDoorPthC
namespace Go.Proofs.YtcfgcacmmmhjcaaGreatDoor
open Go.RowKit

/-! ### sums of numbers by word -/
def cntSum : List Tm → List Int → Int
  | [], _ => 0
  | p :: us, x => (if p.1 = x then p.2 else 0) + cntSum us x
theorem cntSum_append (us vs : List Tm) (x : List Int) : cntSum (us ++ vs) x = cntSum us x + cntSum vs x := by
  induction us with
  | nil => simp [cntSum]
  | cons p us ih => simp only [List.cons_append, cntSum, ih]; omega
theorem cntSum_reverse (us : List Tm) (x : List Int) : cntSum us.reverse x = cntSum us x := by
  induction us with
  | nil => rfl
  | cons p us ih => simp only [List.reverse_cons, cntSum_append, cntSum, ih]; omega
theorem cntSum_none {us : List Tm} {x : List Int} (h : ∀ p ∈ us, p.1 ≠ x) : cntSum us x = 0 := by
  induction us with
  | nil => rfl
  | cons p us ih =>
    rw [cntSum, if_neg (h p (by simp)), ih (fun q hq => h q (by simp [hq]))]
    rfl
theorem cntSum_snoc (us : List Tm) (p : Tm) : cntSum (us ++ [p]) = addG (cntSum us) p.1 p.2 := by
  funext x
  rw [cntSum_append]
  unfold addG
  by_cases h : x = p.1
  · subst h; simp [cntSum]
  · rw [if_neg h]; simp [cntSum, Ne.symm h]
theorem cntSum_nil : cntSum [] = fun _ => 0 := rfl
theorem tells_of {R : List Int → List Int → Prop} (O : Ord R) : ∀ {us : List Tm}, Ordered R us → (∀ p ∈ us, p.2 ≠ 0) → Tells (cntSum us) us
  | [], _, _ => fun x c => ⟨fun h => by simp at h, fun ⟨h, hc⟩ => absurd h.symm hc⟩
  | p :: us, h, hz => fun x c => by
    obtain ⟨h1, h2⟩ := List.pairwise_cons.1 h
    have ih := tells_of O h2 (fun q hq => hz q (by simp [hq])) x c
    have hne : ∀ q ∈ us, q.1 ≠ p.1 := fun q hq e => O.irr p.1 (by have := h1 q hq; rwa [e] at this)
    by_cases e : p.1 = x
    · subst e
      rw [cntSum, if_pos rfl, cntSum_none hne, Int.add_zero]
      constructor
      · intro hm
        rcases List.mem_cons.1 hm with e2 | hm
        · rw [← e2]
          exact ⟨rfl, hz (p.1, c) (by rw [e2]; simp)⟩
        · exact absurd rfl (hne (p.1, c) hm)
      · rintro ⟨rfl, _⟩
        exact List.mem_cons_self
    · rw [cntSum, if_neg e, Int.zero_add, ← ih]
      constructor
      · intro hm
        rcases List.mem_cons.1 hm with e2 | hm
        · exact absurd (by rw [← e2]) e
        · exact hm
      · exact fun hm => List.mem_cons_of_mem _ hm

/-! ### words, shorter ones first -/
def Before (x y : List Int) : Prop := cmpW x y < 0
theorem cmpI_neg {a b : Int} : cmpI a b < 0 ↔ a < b := by unfold cmpI; split; omega; split <;> omega
theorem before_iff {x y : List Int} : Before x y ↔ x.length < y.length ∨ (x.length = y.length ∧ x < y) := by
  unfold Before cmpW
  by_cases h : cmpI x.length y.length = 0
  · have := cmpI_zero h
    rw [if_neg (by simpa using h), lexC_less]
    exact ⟨fun hl => .inr ⟨by omega, hl⟩, fun hl => hl.elim (fun h3 => absurd h3 (by omega)) (·.2)⟩
  · rw [if_pos (by simpa using h), cmpI_neg]
    have hne : (x.length : Int) ≠ y.length := fun e => h (by rw [e]; exact cmpI_self _)
    omega
theorem before_ord : Ord Before where
  irr x h := by
    rw [before_iff] at h
    rcases h with h | ⟨_, h⟩
    · omega
    · exact List.lt_irrefl x h
  tr {x y z} h1 h2 := by
    rw [before_iff] at *
    rcases h1 with h1 | ⟨e1, h1⟩ <;> rcases h2 with h2 | ⟨e2, h2⟩
    · exact .inl (by omega)
    · exact .inl (by omega)
    · exact .inl (by omega)
    · exact .inr ⟨by omega, List.lt_trans h1 h2⟩
  tot {x y} hne := by
    rw [before_iff, before_iff]
    rcases Nat.lt_trichotomy x.length y.length with h | h | h
    · exact .inl (.inl h)
    · by_cases hl : x < y
      · exact .inl (.inr ⟨h, hl⟩)
      · rcases List.le_iff_lt_or_eq.1 (List.not_lt.1 hl) with h2 | h2
        · exact .inr (.inr ⟨h.symm, h2⟩)
        · exact absurd h2.symm hne
    · exact .inr (.inl h)

/-! ### insertion modulo p -/
def putM (p : Int) : List Tm → List Int → Int → List Tm
  | [], w, n => if n % p = 0 then [] else [(w, n % p)]
  | t :: l, w, n => if cmpW t.1 w < 0 then t :: putM p l w n else if t.1 = w then (if (t.2 + n) % p = 0 then l else (w, (t.2 + n) % p) :: l) else if n % p = 0 then t :: l else (w, n % p) :: t :: l
theorem mod_add_eq {p a b c : Int} (h : a % p = b % p) : (c + a) % p = (c + b) % p := by rw [Int.add_emod, h, ← Int.add_emod]
theorem putM_sum (p : Int) (l : List Tm) (w : List Int) (n : Int) (x : List Int) : cntSum (putM p l w n) x % p = addG (cntSum l) w n x % p := by
  induction l with
  | nil =>
    unfold putM addG
    split
    · rename_i h
      by_cases hx : x = w
      · rw [if_pos hx]; simp [cntSum, h]
      · rw [if_neg hx]
    · by_cases hx : x = w
      · subst hx; simp [cntSum]
      · rw [if_neg hx]; simp [cntSum, Ne.symm hx]
  | cons t l ih =>
    unfold putM
    split
    · rw [cntSum, mod_add_eq ih]
      unfold addG
      by_cases hx : x = w
      · subst hx
        rw [if_pos rfl, if_pos rfl, cntSum]
        congr 1; omega
      · rw [if_neg hx, if_neg hx, cntSum]
    · split
      · rename_i h
        split
        · rename_i hz
          unfold addG
          by_cases hx : x = w
          · subst hx
            rw [if_pos rfl, cntSum, if_pos h]
            have : (t.2 + cntSum l x + n) = cntSum l x + (t.2 + n) := by omega
            rw [this, mod_add_eq (b := 0) (by simpa using hz), Int.add_zero]
          · rw [if_neg hx, cntSum, if_neg (by rw [h]; exact Ne.symm hx), Int.zero_add]
        · unfold addG
          by_cases hx : x = w
          · subst hx
            rw [if_pos rfl, cntSum, cntSum, if_pos rfl, if_pos h]
            have : (t.2 + cntSum l x + n) = cntSum l x + (t.2 + n) := by omega
            rw [this, Int.add_comm _ (cntSum l x), mod_add_eq (Int.emod_emod _ _)]
          · rw [if_neg hx, cntSum, cntSum, if_neg (Ne.symm hx), if_neg (by rw [h]; exact Ne.symm hx)]
      · split
        · rename_i hz
          unfold addG
          by_cases hx : x = w
          · subst hx; rw [if_pos rfl, mod_add_eq (b := 0) (by simpa using hz), Int.add_zero]
          · rw [if_neg hx]
        · unfold addG
          by_cases hx : x = w
          · subst hx
            rw [if_pos rfl, cntSum, if_pos rfl, Int.add_comm (n % p), mod_add_eq (Int.emod_emod _ _)]
          · rw [if_neg hx, cntSum, if_neg (Ne.symm hx), Int.zero_add]
theorem mem_putM {p : Int} {l : List Tm} {w : List Int} {n : Int} {q : Tm} (h : q ∈ putM p l w n) : q ∈ l ∨ q.1 = w := by
  induction l with
  | nil =>
    unfold putM at h
    split at h
    · simp at h
    · simp only [List.mem_singleton] at h
      exact .inr (by rw [h])
  | cons t l ih =>
    unfold putM at h
    split at h
    · rcases List.mem_cons.1 h with rfl | h
      · exact .inl (by simp)
      · rcases ih h with h | h
        · exact .inl (by simp [h])
        · exact .inr h
    · split at h
      · split at h
        · exact .inl (by simp [h])
        · rcases List.mem_cons.1 h with rfl | h
          · exact .inr rfl
          · exact .inl (by simp [h])
      · split at h
        · exact .inl h
        · rcases List.mem_cons.1 h with rfl | h
          · exact .inr rfl
          · exact .inl h
structure NormM (p : Int) (l : List Tm) : Prop where
  ord : Ordered Before l
  num : ∀ q ∈ l, 0 < q.2 ∧ q.2 < p
theorem NormM.nil (p : Int) : NormM p [] := ⟨List.Pairwise.nil, fun q h => by simp at h⟩
theorem mod_pos {p n : Int} (hp : 0 < p) (h : ¬ n % p = 0) : 0 < n % p ∧ n % p < p := ⟨by have := Int.emod_nonneg n (show p ≠ 0 by omega); omega, Int.emod_lt_of_pos n hp⟩
theorem NormM.put {p : Int} (hp : 0 < p) {l : List Tm} (h : NormM p l) (w : List Int) (n : Int) : NormM p (putM p l w n) := by
  induction l with
  | nil =>
    unfold putM
    split
    · exact h
    · rename_i hz
      exact ⟨List.pairwise_singleton _ _, fun q hq => by rw [List.mem_singleton.1 hq]; exact mod_pos hp hz⟩
  | cons t l ih =>
    obtain ⟨h1, h2⟩ := List.pairwise_cons.1 h.ord
    have hl : NormM p l := ⟨h2, fun q hq => h.num q (by simp [hq])⟩
    have ht := h.num t (by simp)
    unfold putM
    split
    · rename_i hb
      refine ⟨List.pairwise_cons.2 ⟨fun q hq => ?_, (ih hl).ord⟩, fun q hq => ?_⟩
      · rcases mem_putM hq with hq | hq
        · exact h1 q hq
        · rw [hq]; exact hb
      · rcases List.mem_cons.1 hq with rfl | hq
        · exact ht
        · exact (ih hl).num q hq
    · rename_i hb
      split
      · rename_i he
        split
        · exact hl
        · rename_i hz
          refine ⟨List.pairwise_cons.2 ⟨fun q hq => by rw [← he]; exact h1 q hq, h2⟩, fun q hq => ?_⟩
          rcases List.mem_cons.1 hq with rfl | hq
          · exact mod_pos hp hz
          · exact hl.num q hq
      · rename_i he
        have hw : Before w t.1 := by
          rcases before_ord.tot he with h3 | h3
          · exact absurd h3 hb
          · exact h3
        split
        · exact h
        · rename_i hz
          refine ⟨List.pairwise_cons.2 ⟨fun q hq => ?_, h.ord⟩, fun q hq => ?_⟩
          · rcases List.mem_cons.1 hq with rfl | hq
            · exact hw
            · exact before_ord.tr hw (h1 q hq)
          · rcases List.mem_cons.1 hq with rfl | hq
            · exact mod_pos hp hz
            · exact h.num q hq
def putsM (p : Int) (o : List Tm) (b : List Tm) : List Tm := b.foldl (fun o t => putM p o t.1 t.2) o
theorem putsM_append (p : Int) (o b c : List Tm) : putsM p o (b ++ c) = putsM p (putsM p o b) c := by unfold putsM; rw [List.foldl_append]
theorem putsM_one (p : Int) (o : List Tm) (w : List Int) (n : Int) : putsM p o [(w, n)] = putM p o w n := rfl
theorem NormM.puts {p : Int} (hp : 0 < p) : ∀ (b : List Tm) {o : List Tm}, NormM p o → NormM p (putsM p o b)
  | [], _, h => h
  | t :: b, o, h => NormM.puts hp b (o := putM p o t.1 t.2) (h.put hp t.1 t.2)
theorem putsM_sum (p : Int) : ∀ (b o : List Tm) (x : List Int), cntSum (putsM p o b) x % p = cntSum (o ++ b) x % p
  | [], o, x => by simp [putsM]
  | t :: b, o, x => by
    have ih := putsM_sum p b (putM p o t.1 t.2) x
    unfold putsM at ih ⊢
    rw [List.foldl_cons, ih, cntSum_append, Int.add_comm, mod_add_eq (putM_sum p o t.1 t.2 x), cntSum_append]
    unfold addG
    rw [cntSum]
    by_cases h : x = t.1
    · subst h; rw [if_pos rfl, if_pos rfl]; congr 1; omega
    · rw [if_neg h, if_neg (Ne.symm h)]; congr 1; omega
theorem mem_putsM {p : Int} {q : Tm} : ∀ (b : List Tm) {o : List Tm}, q ∈ putsM p o b → (∃ t ∈ o, t.1 = q.1) ∨ ∃ t ∈ b, t.1 = q.1
  | [], o, h => .inl ⟨q, h, rfl⟩
  | t :: b, o, h => by
    rcases mem_putsM b (o := putM p o t.1 t.2) h with ⟨s, hs, e⟩ | ⟨s, hs, e⟩
    · rcases mem_putM hs with hs | hs
      · exact .inl ⟨s, hs, e⟩
      · exact .inr ⟨t, by simp, by rw [← e, hs]⟩
    · exact .inr ⟨s, by simp [hs], e⟩
theorem putM_length (p : Int) (l : List Tm) (w : List Int) (n : Int) : (putM p l w n).length ≤ l.length + 1 := by
  induction l with
  | nil => unfold putM; split <;> simp
  | cons t l ih =>
    unfold putM
    split
    · simp only [List.length_cons]; omega
    · split
      · split <;> simp only [List.length_cons] <;> omega
      · split <;> simp only [List.length_cons] <;> omega
theorem putsM_length (p : Int) : ∀ (b o : List Tm), (putsM p o b).length ≤ o.length + b.length
  | [], o => by simp [putsM]
  | t :: b, o => by
    have h1 := putsM_length p b (putM p o t.1 t.2)
    have h2 := putM_length p o t.1 t.2
    unfold putsM at h1 ⊢
    rw [List.foldl_cons]
    simp only [List.length_cons]
    omega
theorem putsM_take (p : Int) (o b : List Tm) {k : Nat} (hk : k < b.length) : putsM p o (b.take (k + 1)) = putM p (putsM p o (b.take k)) (wayAt b k) (lenAt b k) := by
  unfold putsM
  rw [List.take_succ_eq_append_getElem hk, List.foldl_append]
  simp [wayAt, lenAt, List.getD_eq_getElem?_getD, hk]
/-! ### what such a list tells -/
def gM (p : Int) (L : List Tm) : List Int → Int := fun x => cntSum L x % p
theorem norm_val {p : Int} {l : List Tm} (h : NormM p l) (x : List Int) (hp : 0 < p) : cntSum l x % p = cntSum l x := by
  have key : 0 ≤ cntSum l x ∧ cntSum l x < p := by
    obtain ⟨ho, hn⟩ := h
    induction l with
    | nil => exact ⟨Int.le_refl _, hp⟩
    | cons t l ih =>
      obtain ⟨h1, h2⟩ := List.pairwise_cons.1 ho
      have ih := ih h2 (fun q hq => hn q (by simp [hq]))
      by_cases e : t.1 = x
      · rw [cntSum, if_pos e, cntSum_none (fun q hq e' => before_ord.irr t.1 (by have := h1 q hq; rwa [e', ← e] at this))]
        have := hn t (by simp)
        omega
      · rw [cntSum, if_neg e]
        omega
  exact Int.emod_eq_of_lt key.1 key.2
theorem puts_tells {p : Int} (hp : 0 < p) (L : List Tm) : Ordered Before (putsM p [] L) ∧ Tells (gM p L) (putsM p [] L) := by
  have hn := (NormM.nil p).puts hp L
  have ht := tells_of before_ord hn.ord fun q hq => by have := hn.num q hq; omega
  refine ⟨hn.ord, ?_⟩
  have e : cntSum (putsM p [] L) = gM p L := by
    funext x
    rw [← norm_val hn x hp, putsM_sum]
    rfl
  rwa [e] at ht
theorem gM_snoc {p : Int} (L : List Tm) (w : List Int) (n : Int) : gM p (L ++ [(w, n)]) = fun y => if y = w then (gM p L w + n) % p else gM p L y := by
  funext y
  unfold gM
  rw [cntSum_snoc]
  unfold addG
  split
  · rw [Int.add_comm, mod_add_eq (Int.emod_emod _ _).symm, Int.add_comm]
  · rfl
theorem gM_range {p : Int} (hp : 0 < p) (L : List Tm) (x : List Int) : 0 ≤ gM p L x ∧ gM p L x < p := ⟨Int.emod_nonneg _ (by omega), Int.emod_lt_of_pos _ hp⟩
theorem gM_append_congr {p : Int} {L A B : List Tm} (h : ∀ x, cntSum A x % p = cntSum B x % p) : gM p (L ++ A) = gM p (L ++ B) := by
  funext x
  unfold gM
  rw [cntSum_append, cntSum_append, mod_add_eq (h x)]
theorem cntSum_zero {L : List Tm} (h : ∀ q ∈ L, q.2 = 0) (x : List Int) : cntSum L x = 0 := by
  induction L with
  | nil => rfl
  | cons t l ih =>
    rw [cntSum, ih (fun q hq => h q (by simp [hq])), h t (by simp)]
    simp
/-! ### the insertion at its place -/
theorem getTm {us : List Tm} {i : Nat} (h : i < us.length) : us.getD i ([], 0) = us[i] := by simp [h]
theorem drop_atM {l : List Tm} {k : Nat} (hk : k < l.length) : l.drop k = (wayAt l k, lenAt l k) :: l.drop (k + 1) := by
  have e : (wayAt l k, lenAt l k) = l[k] := by unfold wayAt lenAt; rw [getTm hk]
  rw [e]
  exact List.drop_eq_getElem_cons hk
theorem putM_split {p : Int} {l : List Tm} {w : List Int} {n : Int} : ∀ {k : Nat}, k ≤ l.length → (∀ j, j < k → cmpW (wayAt l j) w < 0) → putM p l w n = l.take k ++ putM p (l.drop k) w n := by
  induction l with
  | nil => intro k hk _; simp at hk; subst hk; rfl
  | cons t l ih =>
    intro k hk h
    cases k with
    | zero => rfl
    | succ k =>
      have h0 : cmpW t.1 w < 0 := by simpa [wayAt] using h 0 (by omega)
      rw [putM, if_pos h0, List.take_succ_cons, List.drop_succ_cons, List.cons_append]
      rw [ih (by simpa using hk) (fun j hj => by simpa [wayAt] using h (j + 1) (by omega))]
theorem putM_end {p : Int} {l : List Tm} {w : List Int} {n : Int} (h : ∀ j, j < l.length → cmpW (wayAt l j) w < 0) (hz : ¬ n % p = 0) : putM p l w n = l.take l.length ++ [(w, n % p)] ++ l.drop l.length := by
  rw [putM_split (Nat.le_refl _) h]
  simp [putM, hz]
theorem putM_end0 {p : Int} {l : List Tm} {w : List Int} {n : Int} (h : ∀ j, j < l.length → cmpW (wayAt l j) w < 0) (hz : n % p = 0) : putM p l w n = l := by
  rw [putM_split (Nat.le_refl _) h]
  simp [putM, hz]
theorem cmpW_same (w : List Int) : ¬ cmpW w w < 0 := before_ord.irr w
theorem putM_same {p : Int} {l : List Tm} {w : List Int} {n : Int} {k : Nat} (hk : k < l.length) (h : ∀ j, j < k → cmpW (wayAt l j) w < 0) (he : wayAt l k = w) (hz : ¬ (lenAt l k + n) % p = 0) : putM p l w n = l.set k (w, (lenAt l k + n) % p) := by
  rw [putM_split (Nat.le_of_lt hk) h, drop_atM hk]
  rw [he, putM, if_neg (cmpW_same w), if_pos rfl, if_neg hz]
  rw [List.set_eq_take_append_cons_drop, if_pos hk]
theorem putM_gone {p : Int} {l : List Tm} {w : List Int} {n : Int} {k : Nat} (hk : k < l.length) (h : ∀ j, j < k → cmpW (wayAt l j) w < 0) (he : wayAt l k = w) (hz : (lenAt l k + n) % p = 0) : putM p l w n = l.take k ++ l.drop (k + 1) := by
  rw [putM_split (Nat.le_of_lt hk) h, drop_atM hk]
  rw [he, putM, if_neg (cmpW_same w), if_pos rfl, if_pos hz]
theorem putM_new {p : Int} {l : List Tm} {w : List Int} {n : Int} {k : Nat} (hk : k < l.length) (h : ∀ j, j < k → cmpW (wayAt l j) w < 0) (ha : ¬ cmpW (wayAt l k) w < 0) (he : wayAt l k ≠ w) (hz : ¬ n % p = 0) : putM p l w n = l.take k ++ [(w, n % p)] ++ l.drop k := by
  rw [putM_split (Nat.le_of_lt hk) h, drop_atM hk, putM, if_neg ha, if_neg he, if_neg hz]
  simp
theorem putM_new0 {p : Int} {l : List Tm} {w : List Int} {n : Int} {k : Nat} (hk : k < l.length) (h : ∀ j, j < k → cmpW (wayAt l j) w < 0) (ha : ¬ cmpW (wayAt l k) w < 0) (he : wayAt l k ≠ w) (hz : n % p = 0) : putM p l w n = l := by
  rw [putM_split (Nat.le_of_lt hk) h, drop_atM hk, putM, if_neg ha, if_neg he, if_pos hz, ← drop_atM hk, List.take_append_drop]

/-! ### products put into order -/
def invs : List Int → Nat
  | [] => 0
  | x :: l => (l.filter fun y => decide (y < x)).length + invs l
/-- the first descent -/
def descA : List Int → Option Nat
  | [] => none
  | x :: l => match l with
    | [] => none
    | y :: _ => if x > y then some 0 else (descA l).map (· + 1)
def swapA (w : List Int) (i : Nat) : List Int := w.take i ++ w.getD (i + 1) 0 :: w.getD i 0 :: w.drop (i + 2)
def cutA (w : List Int) (i : Nat) (k : Int) : List Int := w.take i ++ k :: w.drop (i + 2)
structure DescAt (w : List Int) (i : Nat) : Prop where
  lt : i + 1 < w.length
  gt : w.getD (i + 1) 0 < w.getD i 0
  first : ∀ j, j < i → w.getD j 0 ≤ w.getD (j + 1) 0
theorem descA_some : ∀ {w : List Int} {i : Nat}, descA w = some i → DescAt w i
  | [], _, h => by cases h
  | [x], _, h => by cases h
  | x :: y :: l, i, h => by
    rw [descA] at h
    split at h
    · rename_i hg
      cases h
      exact ⟨by simp, by simpa using hg, fun j hj => absurd hj (Nat.not_lt_zero _)⟩
    · rename_i hg
      rw [Option.map_eq_some_iff] at h
      obtain ⟨j, hj, rfl⟩ := h
      have := descA_some hj
      refine ⟨by have := this.lt; simpa using this, by simpa using this.gt, fun q hq => ?_⟩
      cases q with
      | zero => simp; omega
      | succ q => simpa using this.first q (by omega)
theorem descA_none : ∀ {w : List Int}, descA w = none → ∀ j, j + 1 < w.length → w.getD j 0 ≤ w.getD (j + 1) 0
  | [], _, j, h => by simp at h
  | [x], _, j, h => by simp at h
  | x :: y :: l, h, j, hj => by
    rw [descA] at h
    split at h
    · cases h
    · rename_i hg
      rw [Option.map_eq_none_iff] at h
      cases j with
      | zero => simp; omega
      | succ j => simpa using descA_none h j (by simpa using hj)
theorem descA_of {w : List Int} {i : Nat} (h : DescAt w i) : descA w = some i := by
  cases hd : descA w with
  | none => exact absurd h.gt (by have := descA_none hd i h.lt; omega)
  | some j =>
    have h2 := descA_some hd
    rcases Nat.lt_trichotomy i j with hlt | rfl | hlt
    · exact absurd h.gt (by have := h2.first i hlt; omega)
    · rfl
    · exact absurd h2.gt (by have := h.first j hlt; omega)
theorem descA_no {w : List Int} (h : ∀ j, j + 1 < w.length → w.getD j 0 ≤ w.getD (j + 1) 0) : descA w = none := by
  cases hd : descA w with
  | none => rfl
  | some i =>
    have h2 := descA_some hd
    exact absurd h2.gt (by have := h i h2.lt; omega)
theorem swapA_length {w : List Int} {i : Nat} (h : i + 1 < w.length) : (swapA w i).length = w.length := by
  unfold swapA; simp; omega
theorem cutA_length {w : List Int} {i : Nat} {k : Int} (h : i + 1 < w.length) : (cutA w i k).length + 1 = w.length := by
  unfold cutA; simp; omega
theorem split_at {w : List Int} {i : Nat} (h : i + 1 < w.length) : w = w.take i ++ w.getD i 0 :: w.getD (i + 1) 0 :: w.drop (i + 2) := by
  have e1 : w.getD i 0 = w[i] := by simp [show i < w.length by omega]
  have e2 : w.getD (i + 1) 0 = w[i + 1] := by simp [h]
  rw [e1, e2, ← List.drop_eq_getElem_cons h, ← List.drop_eq_getElem_cons (show i < w.length by omega), List.take_append_drop]
theorem invs_swap (x y : Int) (h : y < x) (b : List Int) : ∀ a : List Int, invs (a ++ y :: x :: b) + 1 = invs (a ++ x :: y :: b)
  | [] => by
    have h1 : ¬ x < y := by omega
    simp [invs, h, h1]; omega
  | z :: a => by
    have ih := invs_swap x y h b a
    simp only [List.cons_append, invs, List.filter_append, List.length_append, List.filter_cons]
    have e : (if decide (y < z) = true then y :: (if decide (x < z) = true then x :: b.filter (fun q => decide (q < z)) else b.filter (fun q => decide (q < z))) else if decide (x < z) = true then x :: b.filter (fun q => decide (q < z)) else b.filter (fun q => decide (q < z))).length = (if decide (x < z) = true then x :: (if decide (y < z) = true then y :: b.filter (fun q => decide (q < z)) else b.filter (fun q => decide (q < z))) else if decide (y < z) = true then y :: b.filter (fun q => decide (q < z)) else b.filter (fun q => decide (q < z))).length := by
      split <;> split <;> rfl
    omega
theorem DescAt.invs {w : List Int} {i : Nat} (h : DescAt w i) : invs (swapA w i) + 1 = invs w := by
  have := invs_swap (w.getD i 0) (w.getD (i + 1) 0) h.gt (w.drop (i + 2)) (w.take i)
  rw [← split_at h.lt] at this
  exact this
def tri : Nat → Nat
  | 0 => 0
  | n + 1 => n + tri n
theorem invs_le : ∀ w : List Int, invs w ≤ tri w.length
  | [] => Nat.le_refl _
  | x :: l => by
    have := invs_le l
    have h2 : (l.filter fun y => decide (y < x)).length ≤ l.length := List.length_filter_le _ _
    simp only [invs, List.length_cons, tri]
    omega
theorem tri_mono : ∀ {a b : Nat}, a ≤ b → tri a ≤ tri b
  | a, 0, h => by rw [Nat.le_zero.1 h]; exact Nat.le_refl _
  | a, b + 1, h => by
    rcases Nat.le_or_eq_of_le_succ h with h | h
    · exact Nat.le_trans (tri_mono h) (by simp [tri])
    · rw [h]; exact Nat.le_refl _
/-- the steps that are left -/
def fuelA (w : List Int) : Nat := 16 * w.length + invs w
variable (d : Nat) (row : Int → Int → Int → Int) (p : Int)
/-- n times a product in any order, as words in order with their numbers; row x y k: the number of k in the bracket of x and y -/
def strT : Nat → List Int → Int → List Tm
  | 0, _, _ => []
  | f + 1, w, n => match descA w with
    | none => [(w, n)]
    | some i => strT f (swapA w i) n ++ (List.range d).flatMap fun (k : Nat) => if row (w.getD i 0) (w.getD (i + 1) 0) k = 0 then [] else strT f (cutA w i k) (n * row (w.getD i 0) (w.getD (i + 1) 0) k % p)
theorem strT_zero : ∀ (f : Nat) (w : List Int), ∀ q ∈ strT d row p f w 0, q.2 = 0
  | 0, _, q, h => by simp [strT] at h
  | f + 1, w, q, h => by
    rw [strT] at h
    split at h
    · simp only [List.mem_singleton] at h
      rw [h]
    · rw [List.mem_append, List.mem_flatMap] at h
      rcases h with h | ⟨k, _, h⟩
      · exact strT_zero f _ q h
      · split at h
        · simp at h
        · rw [Int.zero_mul, Int.zero_emod] at h
          exact strT_zero f _ q h
/-- a word in order of letters below d -/
structure WordA (d : Nat) (w : List Int) : Prop where
  all : ∀ x ∈ w, 0 ≤ x ∧ x < d
theorem WordA.swap {d : Nat} {w : List Int} (h : WordA d w) {i : Nat} (hi : i + 1 < w.length) : WordA d (swapA w i) := ⟨fun x hx => by
  refine h.all x ?_
  rw [split_at hi]
  unfold swapA at hx
  simp only [List.mem_append, List.mem_cons] at hx ⊢
  rcases hx with h | h | h | h
  · exact .inl h
  · exact .inr (.inr (.inl h))
  · exact .inr (.inl h)
  · exact .inr (.inr (.inr h))⟩
theorem WordA.cut {d : Nat} {w : List Int} (h : WordA d w) {i : Nat} (hi : i + 1 < w.length) {k : Nat} (hk : k < d) : WordA d (cutA w i k) := ⟨fun x hx => by
  unfold cutA at hx
  simp only [List.mem_append, List.mem_cons] at hx
  rcases hx with h2 | rfl | h2
  · exact h.all x (by rw [split_at hi]; simp [h2])
  · omega
  · exact h.all x (by rw [split_at hi]; simp [h2])⟩
theorem fuel_swap {w : List Int} {i : Nat} (h : DescAt w i) : fuelA (swapA w i) + 1 = fuelA w := by
  unfold fuelA
  have := h.invs
  rw [swapA_length h.lt]
  omega
theorem fuel_cut {w : List Int} {i : Nat} (h : DescAt w i) (hl : w.length ≤ 6) (k : Int) : fuelA (cutA w i k) < fuelA w := by
  unfold fuelA
  have h1 := cutA_length (k := k) h.lt
  have h2 := invs_le (cutA w i k)
  have h3 := tri_mono (show (cutA w i k).length ≤ 5 by omega)
  have h4 : tri 5 = 10 := rfl
  omega
theorem strT_mem (hp : 0 < p) : ∀ (f : Nat) (w : List Int) (n : Int), WordA d w → w.length ≤ 6 → 0 ≤ n → n < p → ∀ q ∈ strT d row p f w n, WordA d q.1 ∧ q.1.length ≤ w.length ∧ (∀ j, j + 1 < q.1.length → q.1.getD j 0 ≤ q.1.getD (j + 1) 0) ∧ 0 ≤ q.2 ∧ q.2 < p
  | 0, _, _, _, _, _, _, q, h => by simp [strT] at h
  | f + 1, w, n, hw, hl, h0, h1, q, h => by
    rw [strT] at h
    split at h
    · rename_i hd
      simp only [List.mem_singleton] at h
      subst h
      exact ⟨hw, Nat.le_refl _, descA_none hd, h0, h1⟩
    · rename_i i hd
      have hi := descA_some hd
      rw [List.mem_append, List.mem_flatMap] at h
      rcases h with h | ⟨k, hk, h⟩
      · have := strT_mem hp f (swapA w i) n (hw.swap hi.lt) (by rw [swapA_length hi.lt]; exact hl) h0 h1 q h
        rw [swapA_length hi.lt] at this
        exact this
      · split at h
        · simp at h
        · have hc := cutA_length (k := (k : Int)) hi.lt
          have := strT_mem hp f (cutA w i k) _ (hw.cut hi.lt (List.mem_range.1 hk)) (by omega) (Int.emod_nonneg _ (by omega)) (Int.emod_lt_of_pos _ hp) q h
          exact ⟨this.1, by omega, this.2.2⟩
def leafC : Nat → Nat
  | 0 => 1
  | l + 1 => (1 + 28 * tri (l + 1)) * leafC l
theorem leafC_pos : ∀ l, 1 ≤ leafC l
  | 0 => Nat.le_refl _
  | l + 1 => by
    have := leafC_pos l
    show 1 ≤ (1 + 28 * tri (l + 1)) * leafC l
    exact Nat.le_trans this (Nat.le_mul_of_pos_left _ (by omega))
theorem flatMap_length_le {α β : Type} (F : α → List β) (M : Nat) : ∀ (l : List α), (∀ x ∈ l, (F x).length ≤ M) → (l.flatMap F).length ≤ l.length * M
  | [], _ => by simp
  | x :: l, h => by
    have ih := flatMap_length_le F M l fun y hy => h y (by simp [hy])
    have hx := h x (by simp)
    rw [List.flatMap_cons, List.length_append, List.length_cons, Nat.succ_mul]
    omega
theorem strT_length (hd : d ≤ 28) : ∀ (f : Nat) (w : List Int) (n : Int), (strT d row p f w n).length ≤ (1 + 28 * invs w) * leafC (w.length - 1)
  | 0, _, _ => by simp [strT]
  | f + 1, w, n => by
    rw [strT]
    split
    · have := leafC_pos (w.length - 1)
      exact Nat.le_trans this (Nat.le_mul_of_pos_left _ (by omega))
    · rename_i i hdi
      have hi := descA_some hdi
      have h1 := strT_length hd f (swapA w i) n
      rw [swapA_length hi.lt] at h1
      have hlt := hi.lt
      obtain ⟨l, hl⟩ : ∃ l, w.length = l + 2 := ⟨w.length - 2, by omega⟩
      have h2 := flatMap_length_le (fun k : Nat => if row (w.getD i 0) (w.getD (i + 1) 0) k = 0 then [] else strT d row p f (cutA w i k) (n * row (w.getD i 0) (w.getD (i + 1) 0) k % p)) (leafC (l + 1)) (List.range d) fun k hk => by
        split
        · simp
        · have hc := cutA_length (k := (k : Int)) hi.lt
          have h3 := strT_length hd f (cutA w i k) (n * row (w.getD i 0) (w.getD (i + 1) 0) k % p)
          have h4 := invs_le (cutA w i k)
          have e : (cutA w i k).length = l + 1 := by omega
          rw [e] at h3 h4
          refine Nat.le_trans h3 ?_
          show _ ≤ (1 + 28 * tri (l + 1)) * leafC l
          exact Nat.mul_le_mul_right _ (by omega)
      rw [List.length_append]
      rw [List.length_range] at h2
      rw [hl] at h1 ⊢
      have h5 : d * leafC (l + 1) ≤ 28 * leafC (l + 1) := Nat.mul_le_mul_right _ hd
      have h6 := hi.invs
      have h7 : (1 + 28 * invs w) * leafC (l + 1) = (1 + 28 * invs (swapA w i)) * leafC (l + 1) + 28 * leafC (l + 1) := by
        rw [← h6, ← Nat.add_mul]; congr 1
      show _ ≤ (1 + 28 * invs w) * leafC (l + 1)
      have h1 : (strT d row p f (swapA w i) n).length ≤ (1 + 28 * invs (swapA w i)) * leafC (l + 1) := h1
      omega
theorem leafC_mono : ∀ {a b : Nat}, a ≤ b → leafC a ≤ leafC b
  | a, 0, h => by rw [Nat.le_zero.1 h]; exact Nat.le_refl _
  | a, b + 1, h => by
    rcases Nat.le_or_eq_of_le_succ h with h | h
    · refine Nat.le_trans (leafC_mono h) ?_
      show leafC b ≤ (1 + 28 * tri (b + 1)) * leafC b
      exact Nat.le_mul_of_pos_left _ (by omega)
    · rw [h]; exact Nat.le_refl _
theorem strT_leaves (hd : d ≤ 28) (f : Nat) (w : List Int) (n : Int) (hw : w.length ≤ 6) : (strT d row p f w n).length ≤ 50000000000 := by
  refine Nat.le_trans (strT_length d row p hd f w n) ?_
  have h1 := leafC_mono (show w.length - 1 ≤ 5 by omega)
  have h2 := Nat.le_trans (invs_le w) (tri_mono hw)
  have e1 : tri 6 = 15 := rfl
  have e2 : leafC 5 = 117060385 := rfl
  have := Nat.mul_le_mul (show 1 + 28 * invs w ≤ 421 by omega) h1
  omega
end Go.Proofs.YtcfgcacmmmhjcaaGreatDoor

namespace Go.Proofs.YtcfgcacmmmhjcaaGreatDoor
open Go.RowKit

theorem ordered_of_nextB {R : List Int → List Int → Prop} (O : Ord R) : ∀ (us : List Tm), (∀ i, i + 1 < us.length → R (us.getD i ([], 0)).1 (us.getD (i + 1) ([], 0)).1) → Ordered R us
  | [], _ => List.Pairwise.nil
  | [p], _ => List.pairwise_singleton _ _
  | p :: q :: us, h => by
    have ih := ordered_of_nextB O (q :: us) (fun i hi => by have := h (i + 1) (by simpa using hi); simpa using this)
    have hpq : R p.1 q.1 := by have := h 0 (by simp); simpa using this
    refine List.pairwise_cons.2 ⟨fun s hs => ?_, ih⟩
    rcases List.mem_cons.1 hs with rfl | hs
    · exact hpq
    · exact O.tr hpq ((List.pairwise_cons.1 ih).1 s hs)
/-- a checked list of terms -/
structure EnvP (p : Int) (d : Nat) (us : List Tm) : Prop where
  len : us.length ≤ 300
  norm : NormM p us
  word : ∀ q ∈ us, wordB d q.1 = true
theorem envB_iff {p : Int} {d : Nat} {us : List Tm} : envB p d us = true ↔ EnvP p d us := by
  rw [envB_true]
  have key : ∀ i, termB p d us i = (wordB d (us.getD i ([], 0)).1 && insB (us.getD i ([], 0)).2 1 (p - 1) && (decide (i = 0) || decide (cmpW (us.getD (i - 1) ([], 0)).1 (us.getD i ([], 0)).1 < 0))) := fun i => rfl
  constructor
  · rintro ⟨h1, h2⟩
    have h3 : ∀ i, i < us.length → wordB d (us.getD i ([], 0)).1 = true ∧ (1 ≤ (us.getD i ([], 0)).2 ∧ (us.getD i ([], 0)).2 ≤ p - 1) ∧ (i = 0 ∨ Before (us.getD (i - 1) ([], 0)).1 (us.getD i ([], 0)).1) := fun i hi => by
      have := h2 i hi
      rw [key] at this
      simp only [Bool.and_eq_true, Bool.or_eq_true, decide_eq_true_eq] at this
      exact ⟨this.1.1, insB_true.1 this.1.2, this.2⟩
    refine ⟨h1, ⟨?_, fun q hq => ?_⟩, fun q hq => ?_⟩
    · refine ordered_of_nextB before_ord us fun i hi => ?_
      rcases (h3 (i + 1) hi).2.2 with h4 | h4
      · omega
      · exact h4
    · obtain ⟨i, hi, rfl⟩ := List.mem_iff_getElem.1 hq
      have := (h3 i hi).2.1
      rw [getTm hi] at this
      omega
    · obtain ⟨i, hi, rfl⟩ := List.mem_iff_getElem.1 hq
      have := (h3 i hi).1
      rwa [getTm hi] at this
  · intro h
    refine ⟨h.len, fun i hi => ?_⟩
    rw [key]
    have hm : us.getD i ([], 0) ∈ us := by rw [getTm hi]; exact List.getElem_mem hi
    simp only [Bool.and_eq_true, Bool.or_eq_true, decide_eq_true_eq]
    have hn := h.norm.num _ hm
    refine ⟨⟨h.word _ hm, insB_true.2 (by omega)⟩, ?_⟩
    cases i with
    | zero => exact .inl rfl
    | succ i =>
      refine .inr ?_
      have := List.pairwise_iff_getElem.1 h.norm.ord i (i + 1) (by omega) hi (by omega)
      rw [getTm hi, show i + 1 - 1 = i from rfl, getTm (show i < us.length by omega)]
      exact this
theorem EnvP.at {p : Int} {d : Nat} {us : List Tm} (h : EnvP p d us) {k : Nat} (hk : k < us.length) : wordB d (wayAt us k) = true ∧ 0 < lenAt us k ∧ lenAt us k < p := by
  have hm : us.getD k ([], 0) ∈ us := by rw [getTm hk]; exact List.getElem_mem hk
  exact ⟨h.word _ hm, h.norm.num _ hm⟩
theorem wordB_parts {d : Nat} {w : List Int} : wordB d w = true ↔ w.length ≤ 6 ∧ WordA d w ∧ (∀ j, j + 1 < w.length → w.getD j 0 ≤ w.getD (j + 1) 0) := by
  rw [wordB_true]
  have key : ∀ i, wordK d w i = (insB (w.getD i 0) 0 (d - 1) && (decide (i = 0) || decide (w.getD (i - 1) 0 ≤ w.getD i 0))) := fun i => rfl
  constructor
  · rintro ⟨h1, h2⟩
    have h3 : ∀ i, i < w.length → (0 ≤ w.getD i 0 ∧ w.getD i 0 ≤ d - 1) ∧ (i = 0 ∨ w.getD (i - 1) 0 ≤ w.getD i 0) := fun i hi => by
      have := h2 i hi
      rw [key] at this
      simp only [Bool.and_eq_true, Bool.or_eq_true, decide_eq_true_eq] at this
      exact ⟨insB_true.1 this.1, this.2⟩
    refine ⟨h1, ⟨fun x hx => ?_⟩, fun j hj => ?_⟩
    · obtain ⟨i, hi, rfl⟩ := List.mem_iff_getElem.1 hx
      have := (h3 i hi).1
      simp only [List.getD_eq_getElem?_getD, List.getElem?_eq_getElem hi, Option.getD_some] at this
      omega
    · rcases (h3 (j + 1) hj).2 with h4 | h4
      · omega
      · exact h4
  · rintro ⟨h1, h2, h3⟩
    refine ⟨h1, fun i hi => ?_⟩
    rw [key]
    have hm := h2.all (w.getD i 0) (by simp [List.getD_eq_getElem?_getD, hi])
    simp only [Bool.and_eq_true, Bool.or_eq_true, decide_eq_true_eq]
    refine ⟨insB_true.2 (by omega), ?_⟩
    cases i with
    | zero => exact .inl rfl
    | succ i => exact .inr (h3 i hi)
/-- the sums that come out are right but for their number -/
theorem envB_puts {p : Int} {d : Nat} (hp : 0 < p) {L : List Tm} (h : ∀ q ∈ L, wordB d q.1 = true) : envB p d (putsM p [] L) = decide ((putsM p [] L).length ≤ 300) := by
  by_cases hl : (putsM p [] L).length ≤ 300
  · rw [decide_eq_true hl, envB_iff]
    refine ⟨hl, (NormM.nil p).puts hp L, fun q hq => ?_⟩
    rcases mem_putsM L hq with ⟨s, hs, _⟩ | ⟨s, hs, e⟩
    · simp at hs
    · rw [← e]; exact h s hs
  · rw [decide_eq_false hl]
    exact envB_long (by omega)
/-! ### how many words there are -/
def codeW : List Int → Nat
  | [] => 0
  | x :: l => x.toNat + 1 + 29 * codeW l
theorem codeW_inj {d : Nat} (hd : d ≤ 28) : ∀ {v w : List Int}, WordA d v → WordA d w → codeW v = codeW w → v = w
  | [], [], _, _, _ => rfl
  | [], y :: w, _, _, h => by simp only [codeW] at h; omega
  | x :: v, [], _, _, h => by simp only [codeW] at h; omega
  | x :: v, y :: w, hv, hw, h => by
    have hx := hv.all x (by simp)
    have hy := hw.all y (by simp)
    simp only [codeW] at h
    have e1 : x = y := by omega
    have e2 : codeW v = codeW w := by omega
    rw [e1, codeW_inj hd ⟨fun z hz => hv.all z (by simp [hz])⟩ ⟨fun z hz => hw.all z (by simp [hz])⟩ e2]
theorem codeW_lt {d : Nat} (hd : d ≤ 28) : ∀ {w : List Int}, WordA d w → codeW w < 29 ^ w.length
  | [], _ => by simp [codeW]
  | x :: w, h => by
    have hx := h.all x (by simp)
    have ih := codeW_lt hd (w := w) ⟨fun z hz => h.all z (by simp [hz])⟩
    simp only [codeW, List.length_cons, Nat.pow_succ]
    omega
theorem nodup_le : ∀ (N : Nat) (l : List Nat), l.Pairwise (· ≠ ·) → (∀ x ∈ l, x < N) → l.length ≤ N
  | 0, l, _, h => by
    cases l with
    | nil => simp
    | cons x l => exact absurd (h x (by simp)) (by omega)
  | N + 1, l, hn, h => by
    have h1 : (l.filter (· ≠ N)).length ≤ N := nodup_le N _ (List.Pairwise.filter _ hn) fun x hx => by
      have h2 := h x (List.mem_filter.1 hx).1
      have h3 : x ≠ N := by simpa using (List.mem_filter.1 hx).2
      omega
    have h2 : l.length ≤ (l.filter (· ≠ N)).length + 1 := by
      clear h1 h
      induction l with
      | nil => simp
      | cons x l ih =>
        obtain ⟨h3, h4⟩ := List.pairwise_cons.1 hn
        rw [List.filter_cons]
        split
        · have := ih h4
          simp only [List.length_cons]
          omega
        · rename_i hx
          have hx : x = N := by simpa using hx
          have : l.filter (· ≠ N) = l := List.filter_eq_self.2 fun y hy => by
            have := h3 y hy
            rw [hx] at this
            simpa using Ne.symm this
          rw [this]
          simp
    omega
theorem norm_count {p : Int} {d : Nat} (hd : d ≤ 28) {l : List Tm} (h : NormM p l) (hw : ∀ q ∈ l, wordB d q.1 = true) : l.length ≤ 594823321 := by
  have h1 := nodup_le (29 ^ 6) (l.map fun q => codeW q.1) (by
    rw [List.pairwise_map]
    refine h.ord.imp_of_mem (fun {x y} hx hy hxy e => ?_)
    have := codeW_inj hd (wordB_parts.1 (hw x hx)).2.1 (wordB_parts.1 (hw y hy)).2.1 e
    rw [this] at hxy
    exact before_ord.irr _ hxy) (fun c hc => by
    rw [List.mem_map] at hc
    obtain ⟨q, hq, rfl⟩ := hc
    obtain ⟨h2, h3, _⟩ := wordB_parts.1 (hw q hq)
    exact Nat.lt_of_lt_of_le (codeW_lt hd h3) (Nat.pow_le_pow_right (by omega) h2))
  rw [List.length_map] at h1
  exact h1
def giveR (l : List Tm) : Bool × List Tm := if l.length ≤ 300 then (true, l) else (false, [])

/-! ### the functions -/
def genT (xs : List Int) : List Tm := (List.range xs.length).map fun (i : Nat) => ([(i : Int)], xs.getD i 0)
theorem genT_length (xs : List Int) : (genT xs).length = xs.length := by simp [genT]
theorem genT_at (xs : List Int) {k : Nat} (hk : k < xs.length) : wayAt (genT xs) k = [(k : Int)] ∧ lenAt (genT xs) k = xs.getD k 0 := by
  unfold wayAt lenAt genT
  simp [List.getD_eq_getElem?_getD, hk]
theorem genT_take (xs : List Int) {k : Nat} (hk : k < xs.length) : (genT xs).take (k + 1) = (genT xs).take k ++ [([(k : Int)], xs.getD k 0)] := by
  have h := genT_at xs hk
  rw [List.take_succ_eq_append_getElem (by rw [genT_length]; exact hk)]
  congr 1
  rw [← getTm]
  exact congrArg (fun q => [q]) (Prod.ext h.1 h.2)
def elB (p : Int) (d : Int) (xs : List Int) : Bool := decide ((xs.length : Int) = d) && resB p xs
def genR (p d : Int) (t xs : List Int) : List Tm := if algB p d t && elB p d xs then putsM p [] (genT xs) else []
/-- k times a list behind another one -/
def joinE (p k : Int) (us vs : List Tm) : List Tm := us ++ vs.map fun q => (q.1, k % p * q.2)
def addRE (p d : Int) (t : List Int) (k : Int) (us vs : List Tm) : Bool × List Tm := if algB p d t && envB p d us then (if envB p d vs then giveR (putsM p [] (joinE p k us vs)) else (false, [])) else (false, [])
theorem joinE_word {p k : Int} {d : Nat} {us vs : List Tm} (h : EnvP p d us) (h' : EnvP p d vs) : ∀ q ∈ joinE p k us vs, wordB d q.1 = true := fun q hq => by
  unfold joinE at hq
  rw [List.mem_append, List.mem_map] at hq
  rcases hq with hq | ⟨s, hs, rfl⟩
  · exact h.word q hq
  · exact h'.word s hs
/-- the numbers taken modulo p -/
def redM (p : Int) (L : List Tm) : List Tm := L.map fun q => (q.1, q.2 % p)
theorem cntSum_red (p : Int) (L : List Tm) (x : List Int) : cntSum (redM p L) x % p = cntSum L x % p := by
  induction L with
  | nil => rfl
  | cons t l ih =>
    unfold redM at ih ⊢
    rw [List.map_cons, cntSum, cntSum, mod_add_eq ih]
    split
    · rw [Int.add_comm, mod_add_eq (Int.emod_emod _ _), Int.add_comm]
    · rfl
theorem gM_red (p : Int) (A L : List Tm) : gM p (A ++ redM p L) = gM p (A ++ L) := gM_append_congr (cntSum_red p L)
def rowE (d : Nat) (t : List Int) (x y k : Int) : Int := t.getD ((x.toNat * d + y.toNat) * d + k.toNat) 0
abbrev strE (p : Int) (d : Nat) (t : List Int) (w : List Int) (n : Int) : List Tm := strT d (rowE d t) p 112 w n
theorem fuel_ok {w : List Int} (h : w.length ≤ 6) : fuelA w < 112 := by
  unfold fuelA
  have h2 := Nat.le_trans (invs_le w) (tri_mono h)
  have e1 : tri 6 = 15 := rfl
  omega
def antN (p : Int) (q : Tm) : Int := if q.1.length % 2 = 1 then p - q.2 else q.2
def antT (p : Int) (d : Nat) (t : List Int) (us : List Tm) : List Tm := us.flatMap fun q => strE p d t q.1.reverse (antN p q)
def antR (p d : Int) (t : List Int) (us : List Tm) : Bool × List Tm := if algB p d t && envB p d us then giveR (putsM p [] (antT p d.toNat t us)) else (false, [])
def degE (us : List Tm) : Nat := us.foldl (fun n q => max n q.1.length) 0
def mulRow (p : Int) (d : Nat) (t : List Int) (s : Tm) (vs : List Tm) : List Tm := vs.flatMap fun q => strE p d t (s.1 ++ q.1) (s.2 * q.2 % p)
def mulE (p : Int) (d : Nat) (t : List Int) (us vs : List Tm) : List Tm := us.flatMap fun s => mulRow p d t s vs
def mulRE (p d : Int) (t : List Int) (us vs : List Tm) : Bool × List Tm := if algB p d t && envB p d us then (if envB p d vs then (if degE us + degE vs ≤ 6 then giveR (putsM p [] (mulE p d.toNat t us vs)) else (false, [])) else (false, [])) else (false, [])
theorem degE_snoc (us : List Tm) (q : Tm) : degE (us ++ [q]) = max (degE us) q.1.length := by unfold degE; rw [List.foldl_append]; rfl
theorem degE_le : ∀ (us : List Tm) (m : Nat), m ≤ us.foldl (fun n q => max n q.1.length) m ∧ ∀ q ∈ us, q.1.length ≤ us.foldl (fun n q => max n q.1.length) m
  | [], m => ⟨Nat.le_refl _, fun q h => by simp at h⟩
  | t :: us, m => by
    have ih := degE_le us (max m t.1.length)
    rw [List.foldl_cons]
    refine ⟨by have := ih.1; omega, fun q hq => ?_⟩
    rcases List.mem_cons.1 hq with rfl | hq
    · have := ih.1; omega
    · exact ih.2 q hq
theorem degE_mem {us : List Tm} {q : Tm} (h : q ∈ us) : q.1.length ≤ degE us := (degE_le us 0).2 q h
theorem strE_word {p : Int} {d : Nat} {t : List Int} (hp : 0 < p) {w : List Int} {n : Int} (hw : WordA d w) (hl : w.length ≤ 6) (h0 : 0 ≤ n) (h1 : n < p) : ∀ q ∈ strE p d t w n, wordB d q.1 = true := fun q hq => by
  obtain ⟨a1, a2, a3, _⟩ := strT_mem d (rowE d t) p hp 112 w n hw hl h0 h1 q hq
  exact wordB_parts.2 ⟨by omega, a1, a3⟩
theorem antN_range {p : Int} {q : Tm} (h : 0 < q.2 ∧ q.2 < p) : 0 ≤ antN p q ∧ antN p q < p := by unfold antN; split <;> omega
theorem WordA.rev {d : Nat} {w : List Int} (h : WordA d w) : WordA d w.reverse := ⟨fun x hx => h.all x (by simpa using hx)⟩
theorem WordA.app {d : Nat} {v w : List Int} (h : WordA d v) (h' : WordA d w) : WordA d (v ++ w) := ⟨fun x hx => by
  rcases List.mem_append.1 hx with hx | hx
  · exact h.all x hx
  · exact h'.all x hx⟩
theorem antT_word {p : Int} {d : Nat} {t : List Int} {us : List Tm} (hp : 0 < p) (h : EnvP p d us) : ∀ q ∈ antT p d t us, wordB d q.1 = true := fun q hq => by
  unfold antT at hq
  rw [List.mem_flatMap] at hq
  obtain ⟨s, hs, hq⟩ := hq
  obtain ⟨h1, h2, h3⟩ := wordB_parts.1 (h.word s hs)
  have hr := antN_range (h.norm.num s hs)
  exact strE_word hp h2.rev (by simpa using h1) hr.1 hr.2 q hq
theorem mulE_word {p : Int} {d : Nat} {t : List Int} {us vs : List Tm} (hp : 0 < p) (h : EnvP p d us) (h' : EnvP p d vs) (hd : degE us + degE vs ≤ 6) : ∀ q ∈ mulE p d t us vs, wordB d q.1 = true := fun q hq => by
  unfold mulE mulRow at hq
  rw [List.mem_flatMap] at hq
  obtain ⟨s, hs, hq⟩ := hq
  rw [List.mem_flatMap] at hq
  obtain ⟨r, hr, hq⟩ := hq
  have h1 := (wordB_parts.1 (h.word s hs)).2.1
  have h2 := (wordB_parts.1 (h'.word r hr)).2.1
  have h3 := degE_mem hs
  have h4 := degE_mem hr
  exact strE_word hp (h1.app h2) (by rw [List.length_append]; omega) (Int.emod_nonneg _ (by omega)) (Int.emod_lt_of_pos _ hp) q hq
theorem antT_take (p : Int) (d : Nat) (t : List Int) (us : List Tm) {k : Nat} (hk : k < us.length) : antT p d t (us.take (k + 1)) = antT p d t (us.take k) ++ strE p d t (wayAt us k).reverse (antN p (wayAt us k, lenAt us k)) := by
  unfold antT
  rw [List.take_succ_eq_append_getElem hk, List.flatMap_append]
  congr 1
  rw [← getTm hk]
  simp [wayAt, lenAt]
theorem mulRow_take (p : Int) (d : Nat) (t : List Int) (s : Tm) (vs : List Tm) {k : Nat} (hk : k < vs.length) : mulRow p d t s (vs.take (k + 1)) = mulRow p d t s (vs.take k) ++ strE p d t (s.1 ++ wayAt vs k) (s.2 * lenAt vs k % p) := by
  unfold mulRow
  rw [List.take_succ_eq_append_getElem hk, List.flatMap_append]
  congr 1
  rw [← getTm hk]
  simp [wayAt, lenAt]
theorem mulE_take (p : Int) (d : Nat) (t : List Int) (us vs : List Tm) {k : Nat} (hk : k < us.length) : mulE p d t (us.take (k + 1)) vs = mulE p d t (us.take k) vs ++ mulRow p d t (wayAt us k, lenAt us k) vs := by
  unfold mulE
  rw [List.take_succ_eq_append_getElem hk, List.flatMap_append]
  congr 1
  rw [← getTm hk]
  simp [wayAt, lenAt]
end Go.Proofs.YtcfgcacmmmhjcaaGreatDoor

namespace Go.Proofs.YtcfgcacmmmhjcaaGreatDoor
open Go.RowKit

abbrev envV (p d : Int) (a : Option Addr) (n c b1 b2 : Nat) : Value := .agg #[.int .i64 p, .int .i64 d, .slice a n c, .map (some b1), .map (some b2)]
structure EnvAt (w : World) (b : Nat) (p d : Int) (a : Option Addr) (n c b1 b2 : Nat) : Prop where
  c0 : w.cell? ⟨b, 0, none⟩ = some (.int .i64 p)
  c1 : w.cell? ⟨b, 1, none⟩ = some (.int .i64 d)
  c2 : w.cell? ⟨b, 2, none⟩ = some (.slice a n c)
  c3 : w.cell? ⟨b, 3, none⟩ = some (.map (some b1))
  c4 : w.cell? ⟨b, 4, none⟩ = some (.map (some b2))
theorem EnvAt.new (w : World) (b : Nat) (hb : b = w.heap.size) (p d : Int) (a : Option Addr) (n c b1 b2 : Nat) (E : TypeId) : EnvAt (w.alloc (.cells #[.int .i64 p, .int .i64 d, .slice a n c, .map (some b1), .map (some b2)] E)) b p d a n c b1 b2 :=
  ⟨(cell_top _ _ _ _ _ hb).trans rfl, (cell_top _ _ _ _ _ hb).trans rfl, (cell_top _ _ _ _ _ hb).trans rfl, (cell_top _ _ _ _ _ hb).trans rfl, (cell_top _ _ _ _ _ hb).trans rfl⟩
theorem EnvAt.below {w w' : World} {b : Nat} {p d : Int} {a : Option Addr} {n c b1 b2 : Nat} (h : EnvAt w b p d a n c b1 b2) (hb : Ext w w') : EnvAt w' b p d a n c b1 b2 :=
  have hl := World.block_lt_of_cell? w _ h.c0
  ⟨(hb.cell (p := ⟨b, 0, none⟩) hl).trans h.c0, (hb.cell (p := ⟨b, 1, none⟩) hl).trans h.c1, (hb.cell (p := ⟨b, 2, none⟩) hl).trans h.c2, (hb.cell (p := ⟨b, 3, none⟩) hl).trans h.c3, (hb.cell (p := ⟨b, 4, none⟩) hl).trans h.c4⟩
theorem EnvAt.extM {w w' : World} {b : Nat} {p d : Int} {a : Option Addr} {n c b1 b2 : Nat} (h : EnvAt w b p d a n c b1 b2) (hx : ExtM b1 b2 w w') (m1 : IsMapAt w b1) (m2 : IsMapAt w b2) : EnvAt w' b p d a n c b1 b2 :=
  ⟨hx.cell m1 m2 h.c0, hx.cell m1 m2 h.c1, hx.cell m1 m2 h.c2, hx.cell m1 m2 h.c3, hx.cell m1 m2 h.c4⟩

theorem grown_set (w : World) (b i : Nat) (v : Value) : w.grownBy (w.setCell ⟨b, i, none⟩ v) (some b) :=
  ⟨rfl, rfl, rfl, by simp [World.setCell], fun k _ hk => Below.heap_setCell _ _ _ _ (fun e => hk (by rw [e]))⟩
theorem grown_trans {u v w : World} {b : Nat} (h : u.grownBy v (some b)) (k : v.grownBy w (some b)) : u.grownBy w (some b) :=
  ⟨k.os.trans h.os, k.tape.trans h.tape, k.output.trans h.output, Nat.le_trans h.size k.size, fun i hi hb => (k.block i (Nat.lt_of_lt_of_le hi h.size) hb).trans (h.block i hi hb)⟩
theorem res5 {W w1 : World} {v0 v1 v2 v3 v4 : Value} {E : TypeId} (hx : Ext (W.alloc (.cells #[v0, v1, v2, v3, v4] E)) w1) (b : Nat) (hb : b = W.heap.size) :
    (w1.cell? ⟨b, 0, none⟩ = some v0 ∧ w1.cell? ⟨b, 1, none⟩ = some v1 ∧ w1.cell? ⟨b, 2, none⟩ = some v2 ∧ w1.cell? ⟨b, 3, none⟩ = some v3 ∧ w1.cell? ⟨b, 4, none⟩ = some v4) ∧
    w1.frozen? ⟨b, 0, none⟩ = false ∧ w1.frozen? ⟨b, 1, none⟩ = false ∧ w1.frozen? ⟨b, 2, none⟩ = false ∧ w1.frozen? ⟨b, 3, none⟩ = false ∧ w1.frozen? ⟨b, 4, none⟩ = false := by
  subst hb
  have hc : ∀ j, w1.cell? ⟨W.heap.size, j, none⟩ = #[v0, v1, v2, v3, v4][j]? := fun j => (hx.cell (p := ⟨W.heap.size, j, none⟩) (by simp)).trans (cell_top _ _ _ _ _ rfl)
  have hf : ∀ j, w1.frozen? ⟨W.heap.size, j, none⟩ = false := fun j => by
    rw [hx.frozen (p := ⟨W.heap.size, j, none⟩) (by simp)]
    exact frozen_top _ _ _ _ _ rfl
  exact ⟨⟨hc 0, hc 1, hc 2, hc 3, hc 4⟩, hf 0, hf 1, hf 2, hf 3, hf 4⟩
theorem Counts.made_kept {w w' : World} {b : Nat} (hg : ((w.alloc (.map #[] 0)).alloc (.map #[] 0)).grownBy w' (some b)) (hb : b < w.heap.size) : Counts w' w.heap.size (w.heap.size + 1) 0 (fun _ => 0) (fun _ => none) (fun _ => none) := by
  have h := Counts.made w
  exact ⟨h.ne, h.m1.kept hg (by simp; omega), h.m2.kept hg (by simp; omega), fun x _ => rfl, fun s hs => by simp at hs, fun x hx => absurd rfl hx⟩

set_option maxHeartbeats 1000000 in
theorem newEnv_any (p d : Int) (a : Option Addr) (n c : Nat) (w : World) : Calls Tryz.prog 33 #[algV p d a n c] w fun e w' => ∃ b, e = .returned (envV p d a n c b (b + 1)) ∧ Counts w' b (b + 1) 0 (fun _ => 0) (fun _ => none) (fun _ => none) ∧ w.heap.size ≤ b ∧ Ext w w' := by
  have hmm := @run_makeMap Tryz.prog
  have HNL := hidP (fun w' => newLie_any p d a n c w')
  go_enter Tryz.func33, Tryz.ntmps33
  go_wp2_with fail
  refine (HNL.out _).mono ?_
  rintro e w1 ⟨rfl, hx1⟩
  have hx2 := hx1.trans ((Ext.alloc w1 (.map #[] 0)).trans (Ext.alloc _ (.map #[] 0)))
  have HX2 := hidP (((Ext.alloc w (.cells #[.int .i64 p, .int .i64 d, .slice a n c] 28)).trans (Ext.alloc _ (.cells #[.int .i64 0, .int .i64 0, .slice none 0 0, .map none, .map none] 56))).trans hx2)
  have HZ : Hid (w.heap.size + 1 < w1.heap.size) := by have := hx1.size; simp at this; show _ < _; omega
  obtain ⟨⟨c0, c1, c2, c3, c4⟩, z0, z1, z2, z3, z4⟩ := res5 hx2 (w.heap.size + 1) (by simp)
  clear hx1 hx2
  go_wp2
  refine bodyPost_ret (v := envV p d a n c w1.heap.size (w1.heap.size + 1)) (by simp [results, Tryz.results33, go_sem, c0, c1, c2, c3, c4]) rfl ⟨w1.heap.size, rfl, ?_, ?_, ?_⟩
  · exact Counts.made_kept (grown_trans (grown_trans (grown_trans (grown_trans (grown_set _ _ _ _) (grown_set _ _ _ _)) (grown_set _ _ _ _)) (grown_set _ _ _ _)) (grown_set _ _ _ _)) HZ.out
  · have := HZ.out; omega
  · have hb : w.heap.size ≤ w.heap.size + 1 := Nat.le_succ _
    exact ((((HX2.out.setNew _ 0 hb _).setNew _ 1 hb _).setNew _ 2 hb _).setNew _ 3 hb _).setNew _ 4 hb _
set_option maxRecDepth 100000 in
set_option maxHeartbeats 2000000 in
theorem envAdd_any (p d : Int) (ta : Option Addr) (tn tc b1 b2 n : Nat) (L : List Tm) (f1 f2 : ByteArray → Option Value) (a : Option Addr) (m c : Nat) (x : List Int) (v : Int) (w : World) (hC : Counts w b1 b2 n (gM p L) f1 f2) (hk : KeyOk x) (hi : IntsAt w a m x) (ha : a = none → c = 0)
    (hn : n ≤ 9000000000000000000) (hp : 2 ≤ p) (hp2 : p ≤ 10007) (hv : 0 ≤ v) (hv2 : v < p) (ht : Tab w) :
    Calls Tryz.prog 34 #[envV p d ta tn tc b1 b2, .slice a m c, .int .i64 v] w fun e w' => e = .returned (.tuple #[]) ∧ (∃ f1' f2', Counts w' b1 b2 (n + 1) (gM p (L ++ [(x, v)])) f1' f2') ∧ ExtM b1 b2 w w' := by
  obtain rfl : m = x.length := hi.len.symm
  have hxa := Ext.alloc w (.cells #[.int .i64 p, .int .i64 d, .slice ta tn tc, .map (some b1), .map (some b2)] 56)
  have HC := hidP (hC.below hxa)
  have HI := hidP (hi.below hxa)
  have HA := hidP (EnvAt.new w _ rfl p d ta tn tc b1 b2 56)
  have HK := hidP hk
  have HN := hidP ha
  have HF := hidP (formatInts_any a x.length c x _ (hi.below hxa) hk.1 (by have := hk.2; omega) (ht.below hxa))
  have HX := hidP hxa
  have hgr := gM_range (show 0 < p by omega) L x
  have HSn : Hid ((fun y => if y = x then (gM p L x + v) % p else gM p L y) = gM p (L ++ [(x, v)])) := (gM_snoc L x v).symm
  obtain ⟨G, hG⟩ : ∃ G, G = gM p L := ⟨_, rfl⟩
  rw [← hG] at HC hgr HSn
  obtain ⟨gx, hgx⟩ : ∃ gx, gx = G x := ⟨_, rfl⟩
  have HGx := hidP hgx
  rw [← hgx] at hgr HSn
  have hw1 : IntKind.i64.wrap (gx + v) = gx + v := wrap_in (by omega) (by omega)
  have hpz : ¬ (p = 0) := by omega
  have htm : (gx + v).tmod p = (gx + v) % p := Int.tmod_eq_emod_of_nonneg (by omega)
  clear hxa hC hi hk ha ht hG hgx
  go_enter Tryz.func34, Tryz.ntmps34
  go_wp2_with fail
  refine HF.out.mono ?_
  rintro e w1 ⟨rfl, hx1⟩
  have HX1 := hidP hx1
  have HC1 := hidP (HC.out.below hx1)
  have HI1 := hidP (HI.out.below hx1)
  have HA1 := hidP (HA.out.below hx1)
  obtain ⟨f0, f1', f2', f3, f4⟩ := HA1.out
  clear hx1 HF
  have hks := HK.out.size
  have HW := hidP (HC1.out.num x HK.out)
  rw [← HGx.out] at HW
  go_wp2_with (first | (at_mapUpdate; refine wpList_updateS _ rfl _ _ _ 53 9 22 rfl Tryz.underlying9 Tryz.underlying53 b1 n f1 rfl HC1.out.m1 (by unfold maxLen; omega) (keyI x) rfl hks (.slice a x.length c) rfl ?_; intro w2 hm2 hg2; have hA2 := hidP (HA1.out.extM (ExtM.of_left (b2 := b2) hg2) HC1.out.m1.is HC1.out.m2.is); have HM2 := hidP hm2; have HG2 := hidP hg2; have HL2 := hidP (HC1.out.m2.kept hg2 (by simpa using HC1.out.ne.symm)); clear hm2 hg2) | fail)
  clear f0 f1' f2' f3 f4
  have hE : Ext w2 w2.drew := Ext.drew w2
  have HLk : Hid (∀ w', Ext w2 w' → (Instr.lookup 54 (.map (some b2)) (.string (keyI x)) false).run Tryz.prog w' = .ok (.int .i64 gx) w') := fun w' hx => by
    have h := (HL2.out.below hx).lookup (T := 54) (E := 3) (z := .int .i64 0) Tryz.underlying9 Tryz.underlying54 (zero_int w') hks
    rw [HW.out] at h
    exact h
  (refine walkR_start (fun w' => Ext w2 w') 13 (by kernel_rfl) ?_; simp only [numbered, List.take_succ_cons, List.take_zero, Nat.zero_add, Nat.reduceAdd, List.length_cons, List.length_nil])
  (repeat (first | (refine walkR_still (v := ?_) rfl (by decide +kernel) rfl (fun _ _ _ h => h) hE ?_ ?_; rotate_left; (focus (intro w' hw'; obtain ⟨f0, f1, f2, f3, f4⟩ := hA2.out.below hw'; have hlk := HLk.out w' hw'; unfold keyI at hlk; go_simp; all_goals (with_reducible rfl))); simp only [Act.put, List.setIfInBounds_toArray, List.set_cons_zero, List.set_cons_succ]) | (refine walkR_skip rfl (by decide +kernel) rfl (fun _ _ _ h => h) hE ?_; simp only [Act.put, List.setIfInBounds_toArray, List.set_cons_zero, List.set_cons_succ])))
  have hL2 := HL2.out.below hE
  have hX2 := ExtM.of_ext (b1 := b1) (b2 := b2) hE
  have hM2 := HL2.out.below hE
  clear hE HLk
  (refine walkR_tail (by rfl) (by kernel_rfl) ?_; simp only [List.drop_succ_cons, List.drop_zero])
  go_wp2_with (first | (at_mapUpdate; refine wpList_updateS _ rfl _ _ _ 54 9 3 rfl Tryz.underlying9 Tryz.underlying54 b2 n f2 rfl hM2 (by unfold maxLen; omega) (keyI x) rfl hks (.int .i64 ((gx + v) % p)) rfl ?_; intro w3 hm3 hg3; have HM3 := hidP hm3; have HG3 := hidP hg3; clear hm3 hg3) | fail)
  go_end0
  have hG3 : w2.grownBy w3 (some b2) := ⟨HG3.out.os, HG3.out.tape, HG3.out.output, HG3.out.size, HG3.out.block⟩
  have hst := HC1.out.stored HK.out HI1.out HN.out HM2.out HG2.out HM3.out hG3
  rw [HGx.out] at hst
  rw [HGx.out] at HSn
  rw [HSn.out] at hst
  exact ⟨rfl, ⟨_, _, hst⟩, ((ExtM.of_ext HX.out).trans (ExtM.of_ext HX1.out)).trans ((ExtM.of_left HG2.out).trans (ExtM.of_right hG3))⟩
end Go.Proofs.YtcfgcacmmmhjcaaGreatDoor

namespace Go.Proofs.YtcfgcacmmmhjcaaGreatDoor
open Go.RowKit Go.Sort

instance (x y : List Int) : Decidable (Before x y) := inferInstanceAs (Decidable (cmpW x y < 0))
def cfT (x y : Tm) : Int := cmpW x.1 y.1
theorem ltT (x y : Tm) : ltOf cfT x y = decide (Before x.1 y.1) := rfl
theorem swoT : SWO (ltOf cfT) where
  irrefl x := by rw [ltT]; exact decide_eq_false (before_ord.irr x.1)
  trans x y z h1 h2 := by rw [ltT] at *; exact decide_eq_true (before_ord.tr (of_decide_eq_true h1) (of_decide_eq_true h2))
  ntrans x y z h1 h2 := by
    rw [ltT] at *
    have h1 := of_decide_eq_false h1
    have h2 := of_decide_eq_false h2
    refine decide_eq_false fun h => ?_
    by_cases e : x.1 = y.1
    · rw [e] at h; exact h2 h
    · rcases before_ord.tot e with h3 | h3
      · exact h1 h3
      · exact h2 (before_ord.tr h3 h)

set_option maxHeartbeats 1000000 in
theorem compareWords_grow (a a' : Option Addr) (n n' c c' : Nat) (xs ys : List Int) (w : World) (h : IntsAt w a n xs) (h' : IntsAt w a' n' ys) (hn : n ≤ 9223372036854775807) (hn' : n' ≤ 9223372036854775807) :
    Calls Tryz.prog 78 #[.slice a n c, .slice a' n' c'] w fun e w' => e = .returned (.int .i64 (cmpW xs ys)) ∧ w' = w.alloc (.cells #[.int .i64 (cmpI n n'), .int .i64 (lexC xs ys)] 3) := by
  have HC := hidP (compareInts_any a a' n n' c c' xs ys w h h' hn hn')
  have HE : Hid (firstNZ [cmpI n n', lexC xs ys] = cmpW xs ys) := by
    show _ = _
    unfold cmpW
    rw [h.len, h'.len]
    simp only [firstNZ]
    split
    · rfl
    · split
      · rfl
      · rename_i h; simpa using Eq.symm (by simpa using h)
  have HP := hidP (pair_ints w (cmpI n n') (lexC xs ys) 3)
  clear h h'
  go_enter Tryz.func78, Tryz.ntmps78
  go_wp2_with (first | (go_at_call 95; refine (compareInt_any _ _ _).mono ?_; rintro e w' ⟨rfl, rfl⟩) | (go_at_call 96; refine HC.out.mono ?_; rintro e w' ⟨rfl, rfl⟩) | (go_at_call 94; refine (or_any _ _ _ _ _ HP.out (by omega)).mono ?_; rintro e w' ⟨rfl, rfl⟩))
  go_ret
  exact ⟨ret_int HE.out, rfl⟩
set_option maxHeartbeats 1000000 in
theorem terms1_any (a a' : Option Addr) (c c' : Nat) (x y : List Int) (m m' : Int) (w : World) (h : IntsAt w a x.length x) (h' : IntsAt w a' y.length y) (hx : x.length ≤ 9223372036854775807) (hy : y.length ≤ 9223372036854775807) :
    Calls Tryz.prog 77 #[.agg #[.slice a x.length c, .int .i64 m], .agg #[.slice a' y.length c', .int .i64 m']] w fun e w' => e = .returned (.int .i64 (cmpW x y)) ∧ ∃ q os', w' = grow (w.drewN q) os' := by
  have hx1 := Ext.alloc w (.cells #[.slice a x.length c, .int .i64 m] 62)
  have hx2 := Ext.alloc (w.alloc (.cells #[.slice a x.length c, .int .i64 m] 62)) (.cells #[.slice a' y.length c', .int .i64 m'] 62)
  have HC := hidP (compareWords_grow a a' x.length y.length c c' x y _ ((h.below hx1).below hx2) ((h'.below hx1).below hx2) hx hy)
  generalize cmpW x y = r at HC ⊢
  clear h h' hx1 hx2
  go_enter Tryz.func77, Tryz.ntmps77
  go_wp2_with fail
  refine HC.out.mono ?_
  rintro e w' ⟨rfl, rfl⟩
  go_wp2
  go_ret
  exact ⟨rfl, 0, _, by rw [alloc_eq_grow, alloc_eq_grow, alloc_eq_grow, grow_grow, grow_grow]; rfl⟩

/-! ### what a range over the words has met -/
structure Vis (g : List Int → Int) (f1 : ByteArray → Option Value) (left : ByteArray → Bool) (L : List Tm) : Prop where
  mem : ∀ x c, (x, c) ∈ L ↔ left (keyI x) = false ∧ (f1 (keyI x)).isSome = true ∧ g x = c ∧ c ≠ 0
  nd : L.Pairwise fun p q => p.1 ≠ q.1
theorem Vis.start (g : List Int → Int) (f1 : ByteArray → Option Value) : Vis g f1 (fun s => (f1 s).isSome) [] :=
  ⟨fun x c => ⟨fun h => by simp at h, fun ⟨h1, h2, _⟩ => by rw [h2] at h1; cases h1⟩, List.Pairwise.nil⟩
theorem Vis.pass {g : List Int → Int} {f1 : ByteArray → Option Value} {left : ByteArray → Bool} {L : List Tm} (h : Vis g f1 left L) (x : List Int) (hz : g x = 0) : Vis g f1 (fun t => left t && !decide (t = keyI x)) L := by
  refine ⟨fun y c => ?_, h.nd⟩
  rw [h.mem]
  by_cases e : y = x
  · subst e
    constructor
    · rintro ⟨_, _, h3, h4⟩
      exact absurd (h3.symm.trans hz) h4
    · rintro ⟨_, _, h3, h4⟩
      exact absurd (h3.symm.trans hz) h4
  · have hk : keyI y ≠ keyI x := fun e' => e (keyI_inj e')
    simp [hk]
theorem Vis.take {g : List Int → Int} {f1 : ByteArray → Option Value} {left : ByteArray → Bool} {L : List Tm} (h : Vis g f1 left L) (x : List Int) (hz : g x ≠ 0) (hl : left (keyI x) = true) (hf : (f1 (keyI x)).isSome = true) :
    Vis g f1 (fun t => left t && !decide (t = keyI x)) (L ++ [(x, g x)]) := by
  have hnot : ∀ c, (x, c) ∉ L := fun c hm => by
    have := ((h.mem x c).1 hm).1
    rw [hl] at this
    cases this
  refine ⟨fun y c => ?_, ?_⟩
  · rw [List.mem_append, h.mem]
    by_cases e : y = x
    · subst e
      constructor
      · rintro (⟨h1, _⟩ | hm)
        · rw [hl] at h1; cases h1
        · simp only [List.mem_singleton, Prod.mk.injEq, true_and] at hm
          subst hm
          exact ⟨by simp, hf, rfl, hz⟩
      · rintro ⟨_, _, h3, _⟩
        exact .inr (by simp [h3])
    · have hk : keyI y ≠ keyI x := fun e' => e (keyI_inj e')
      simp [hk, e]
  · rw [List.pairwise_append]
    refine ⟨h.nd, List.pairwise_singleton _ _, fun p hp q hq => ?_⟩
    simp only [List.mem_singleton] at hq
    subst hq
    intro e
    exact hnot p.2 (by
      have e2 : p = (x, p.2) := by rw [← (show p.1 = x from e)]
      rwa [e2] at hp)
theorem length_le_of_mem : ∀ {L T : List Tm}, (L.Pairwise fun p q => p.1 ≠ q.1) → (∀ p ∈ L, p ∈ T) → L.length ≤ T.length
  | [], _, _, _ => Nat.zero_le _
  | p :: L, T, hn, hm => by
    obtain ⟨h1, h2⟩ := List.pairwise_cons.1 hn
    have hp := hm p (by simp)
    have ih := length_le_of_mem (L := L) (T := T.erase p) h2 fun q hq => by
      have hne : q ≠ p := fun e => h1 q hq (by rw [e])
      exact (List.mem_erase_of_ne hne).2 (hm q (by simp [hq]))
    rw [List.length_erase_of_mem hp] at ih
    have : 0 < T.length := List.length_pos_of_mem hp
    simp only [List.length_cons]
    omega
theorem Vis.length {g : List Int → Int} {f1 : ByteArray → Option Value} {left : ByteArray → Bool} {L T : List Tm} (h : Vis g f1 left L) (hT : Tells g T) : L.length ≤ T.length :=
  length_le_of_mem h.nd fun p hp => (hT p.1 p.2).2 ((h.mem p.1 p.2).1 hp).2.2
theorem Vis.all {w : World} {b1 b2 n : Nat} {g : List Int → Int} {f1 f2 : ByteArray → Option Value} {left : ByteArray → Bool} {L T xs : List Tm} (h : Vis g f1 left L) (hC : Counts w b1 b2 n g f1 f2) (hl : ∀ s, s.size ≤ maxLen → left s = false)
    (hT : Tells g T) (hO : Ordered Before T) (hp : xs.Perm L) (hs : xs.Pairwise fun x y => ltOf cfT y x = false) : xs = T := by
  have hnd : xs.Pairwise fun p q => p.1 ≠ q.1 := (hp.pairwise_iff (fun {a b} (hab : a.1 ≠ b.1) => hab.symm)).2 h.nd
  have ho : Ordered Before xs := by
    refine List.Pairwise.imp (fun {x y} hxy => ?_) (hnd.and hs)
    obtain ⟨h1, h2⟩ := hxy
    rw [ltT] at h2
    have h2 := of_decide_eq_false h2
    rcases before_ord.tot h1 with h3 | h3
    · exact h3
    · exact absurd h3 h2
  refine ordered_unique before_ord ho hO fun p => ?_
  rw [hp.mem_iff]
  obtain ⟨x, c⟩ := p
  rw [h.mem, hT]
  constructor
  · rintro ⟨_, _, h3⟩
    exact h3
  · rintro ⟨h3, h4⟩
    have hs := hC.has x (by rw [h3]; exact h4)
    obtain ⟨y, _, _, hk, e, _⟩ := (hC.word _ hs).ex
    exact ⟨hl _ (by rw [e]; exact hk.size), hs, h3, h4⟩

theorem OwnK.off_cell {α : Type} {K : Knd α} {w : World} {B U g n c : Nat} {hs : List Hdr} {xs : List α} (h : OwnK K w B U (some ⟨g, 0, none⟩) n c hs xs) : ∃ cur, w.heap[g]? = some (.cells cur K.E (0, 0)) := by
  rcases h.form with ⟨e, _⟩ | ⟨g', cur, e, _, _, hg, _⟩
  · cases e
  · simp only [Option.some.injEq, Addr.mk.injEq, and_true] at e
    subst e
    exact ⟨cur, hg⟩
theorem OwnK.past_iter {α : Type} {K : Knd α} {w w' : World} {B U R n c : Nat} {a : Option Addr} {hs : List Hdr} {xs : List α} (h : OwnK K w B U a n c hs xs) (hi : ∃ m s seen c, w.heap[R]? = some (.mapIter m s seen c)) (hg : w.grownBy w' (some R)) : OwnK K w' B U a n c hs xs := by
  obtain ⟨m, s, seen, c0, hR⟩ := hi
  refine h.kept hg (fun b o e e2 => ?_) (fun i hi b o e e2 => ?_)
  · simp only [Option.some.injEq] at e2
    subst e2
    rcases h.form with ⟨e3, _⟩ | ⟨g', cur, e3, _, _, hg', _⟩
    · rw [e] at e3; cases e3
    · rw [e] at e3
      simp only [Option.some.injEq, Addr.mk.injEq, and_true] at e3
      rw [← e3.1, hR] at hg'
      cases hg'
  · simp only [Option.some.injEq] at e2
    subst e2
    obtain ⟨cur, hc⟩ := (h.each i hi).block e
    rw [hR] at hc
    cases hc
theorem callFunc_terms1 (args : Array Value) (w : World) : Sem.run Tryz.prog (callFunc 77 args) w = .ok (.enter 77 args) w := by
  kernel_rfl
theorem isAggT (w : World) : (isAgg 62).run Tryz.prog w = .ok true w := by kernel_rfl
theorem sizeOfT (w : World) : (Go.sizeOf 62).run Tryz.prog w = .ok 2 w := by kernel_rfl
theorem sortT_any {w : World} {B U g n c : Nat} {hs : List Hdr} {xs : List Tm} (h : OwnK stepK w B U (some ⟨g, 0, none⟩) n c hs xs) (hn : n < 4611686018427387904) :
    Calls Tryz.prog 76 #[.slice (some ⟨g, 0, none⟩) n c, .func (.func 77) #[] #[]] w fun e w' => e = .returned (.tuple #[]) ∧
      ∃ hs' xs', OwnK stepK w' B U (some ⟨g, 0, none⟩) n c hs' xs' ∧ xs'.Perm xs ∧ (xs'.Pairwise fun x y => ltOf cfT y x = false) ∧ w.grownBy w' (some g) :=
  sort_owned Tryz.sortEnvTerm stepK ([], 0) rfl isAggT sizeOfT cfT swoT 77 callFunc_terms1 (fun w' x y hx hy lx ly => terms1_any x.1.1 y.1.1 x.1.2 y.1.2 x.2.1 y.2.1 x.2.2 y.2.2 w' hx hy lx ly) h hn
theorem Below.past_block {B : Nat} {w0 w w' : World} {k : Nat} (hb : Below B w0 w) (hg : w.grownBy w' (some k)) (hB : B ≤ w.heap.size) (hk : B ≤ k) : Below B w0 w' :=
  Below.grown hb hg hB fun j hj => by cases hj; exact hk
set_option maxRecDepth 100000 in
set_option maxHeartbeats 4000000 in
theorem envTerms_any (p d : Int) (ta : Option Addr) (tn tc b1 b2 n : Nat) (g : List Int → Int) (f1 f2 : ByteArray → Option Value) (T : List Tm) (w : World) (hC : Counts w b1 b2 n g f1 f2) (hT : Tells g T) (hO : Ordered Before T) (hTl : T.length ≤ 900000000) :
    Calls Tryz.prog 35 #[envV p d ta tn tc b1 b2] w fun e w' => ∃ a c hs, e = .returned (.slice (some ⟨a, 0, none⟩) T.length c) ∧ OwnK stepK w' w.heap.size w'.heap.size (some ⟨a, 0, none⟩) T.length c hs T ∧ Ext w w' := by
  have hxa := Ext.alloc w (.cells #[.int .i64 p, .int .i64 d, .slice ta tn tc, .map (some b1), .map (some b2)] 56)
  have hxb := Ext.alloc (w.alloc (.cells #[.int .i64 p, .int .i64 d, .slice ta tn tc, .map (some b1), .map (some b2)] 56)) (.cells #[] 62)
  have HC := hidP hC
  have HA := hidP ((EnvAt.new w _ rfl p d ta tn tc b1 b2 56).below hxb)
  have HO0 : Hid (OwnK stepK ((w.alloc (.cells #[.int .i64 p, .int .i64 d, .slice ta tn tc, .map (some b1), .map (some b2)] 56)).alloc (.cells #[] 62)) (w.heap.size + 1) ((w.alloc (.cells #[.int .i64 p, .int .i64 d, .slice ta tn tc, .map (some b1), .map (some b2)] 56)).alloc (.cells #[] 62)).heap.size (some ⟨(w.alloc (.cells #[.int .i64 p, .int .i64 d, .slice ta tn tc, .map (some b1), .map (some b2)] 56)).heap.size, 0, none⟩) 0 0 [] []) := (OwnK.made0 stepK (w.alloc (.cells #[.int .i64 p, .int .i64 d, .slice ta tn tc, .map (some b1), .map (some b2)] 56))).weaken (B' := w.heap.size + 1) (by simp) (Nat.le_refl _)
  have HX0 := hidP (hxa.trans hxb)
  have HTl := hidP hT
  have HOr := hidP hO
  have HV0 := hidP (Vis.start g f1)
  clear hC hxa hxb hT hO
  go_enter Tryz.func35, Tryz.ntmps35
  obtain ⟨f0, f1', f2', f3, f4⟩ := HA.out
  go_wp2_with (first | (at_range; refine wpList_rangeS _ rfl _ 53 9 22 rfl Tryz.underlying9 Tryz.underlying53 b1 n f1 rfl (HC.out.m1.below HX0.out) ?_; intro w0 cnt0 hrg0 hx0 hs0; have HR0 := hidP hrg0; have HXr := hidP hx0; clear hrg0 hx0 hs0) | fail)
  go_frame
  have hE0 : Ext w w0 := HX0.out.trans HXr.out
  have HE0 := hidP hE0
  have HB0 := hidP (HX0.out.size)
  obtain ⟨wB, hwB⟩ : ∃ wB, wB = (w.alloc (.cells #[.int .i64 p, .int .i64 d, .slice ta tn tc, .map (some b1), .map (some b2)] 56)).alloc (.cells #[] 62) := ⟨_, rfl⟩
  have hsB : w.heap.size + 1 = (w.alloc (.cells #[.int .i64 p, .int .i64 d, .slice ta tn tc, .map (some b1), .map (some b2)] 56)).heap.size := by simp
  rw [← hwB] at HA HO0 HX0 f0 f1' f2' f3 f4 HR0 HXr HB0
  rw [← hsB] at HO0
  obtain ⟨R, hR⟩ : ∃ R, R = w.heap.size + 1 + 1 := ⟨_, rfl⟩
  have hRB : wB.heap.size = R := by rw [hwB, hR]; simp
  rw [hRB] at HR0
  have HRB : Hid (w.heap.size + 1 + 1 = R) := hidP hR.symm
  rw [← hwB, hRB]
  have HO1 := hidP ((HO0.out.below HXr.out).weaken (Nat.le_refl _) HXr.out.size)
  have HA1 := hidP (HA.out.below HXr.out)
  have HX1 := hidP (HX0.out.trans HXr.out)
  clear hwB hsB HO0 hRB hE0 f0 f1' f2' f3 f4 HA HXr HB0 HX0 HE0
  clear hR
  go_loopw [3] (fun s wr => ∃ (left : ByteArray → Bool) (cnt j ga co : Nat) (hs : List Hdr) (L : List Tm), s = .slice (some ⟨ga, 0, none⟩) j co ∧ Hid (RangeS wr Tryz.prog 9 b1 R n f1 left cnt) ∧ Hid (OwnK stepK wr (w.heap.size + 1) wr.heap.size (some ⟨ga, 0, none⟩) j co hs L) ∧ Hid (Vis g f1 left L) ∧ Hid (EnvAt wr w.heap.size p d ta tn tc b1 b2) ∧ Hid (Ext w wr)) (fun _ wr => wr.rangeLeft b1 R)
  case atStart => exact ⟨_, _, 0, _, 0, [], [], rfl, HR0, HO1, HV0, HA1, HX1⟩
  case round =>
    obtain ⟨left, cnt, j, ga, co, hs, L, rfl, HR, HO, HV, HA, HX⟩ := hrel
    clear HR0 HO1 HV0 HA1 HX1
    have hjl : Hid (j ≤ T.length) := by
      have h1 := HV.out.length HTl.out
      have h2 := HO.out.xl
      show _ ≤ _
      omega
    go_wp2_with (first | (at_next; refine wpList_nextS _ rfl _ rfl 9 Tryz.underlying9 b1 R n f1 left cnt rfl HR.out ?_ ?_) | fail)
    · intro hc0 hl0
      have HS := hidP (sortT_any HO.out (by have := hjl.out; omega))
      go_wp2_with fail
      refine HS.out.mono ?_
      rintro e w2 ⟨rfl, hs', xs', ho, hp, hsrt, hg⟩
      obtain rfl := HV.out.all HC.out hl0 HTl.out HOr.out hp hsrt
      have hxl := ho.xl
      have hga := HO.out.base_lt ga 0 rfl
      have hX2 : Ext w w2 := Below.past_block HX.out hg HX.out.size (by have := hga.1; omega)
      have HO2 := hidP (ho.weaken (Nat.le_succ w.heap.size) hg.size)
      have HX2 := hidP hX2
      subst hxl
      clear hp hsrt hg ho hga hX2
      go_wp2
      go_ret
      exact ⟨ga, co, hs', rfl, HO2.out, HX2.out⟩
    · intro s v w1 cnt1 hss hls hfs hrg1 hlt hg1 hs1 hen
      obtain ⟨x, ax, cx, hkx, rfl, hfx, hix, hax⟩ := (HC.out.word s (by rw [hfs]; rfl)).ex
      obtain rfl : v = .slice ax x.length cx := Option.some.inj (hfs.symm.trans hfx)
      have hX1 : Ext w w1 := Below.past_block HX.out hg1 HX.out.size (by have := HRB.out; omega)
      have HX1 := hidP hX1
      have HR1 := hidP hrg1
      have HO1 := hidP ((HO.out.past_iter HR.out.isIter hg1).weaken (Nat.le_refl _) hg1.size)
      have HK := hidP hkx
      have HIx := hidP hix
      have HAx := hidP hax
      have hks := hkx.size
      have HNum := hidP (HC.out.num x hkx)
      have HLt := hidP (show cnt1 < cnt ∧ wr.rangeLeft b1 R = cnt from ⟨hlt, HR.out.left_eq⟩)
      have HA1 : Hid (EnvAt w1 w.heap.size p d ta tn tc b1 b2) := by
        have hb : w1.heap[w.heap.size]? = wr.heap[w.heap.size]? := hg1.block _ (World.block_lt_of_cell? wr _ HA.out.c0) (by have := HRB.out; simp; omega)
        exact ⟨(World.cell?_of_block hb).trans HA.out.c0, (World.cell?_of_block hb).trans HA.out.c1, (World.cell?_of_block hb).trans HA.out.c2, (World.cell?_of_block hb).trans HA.out.c3, (World.cell?_of_block hb).trans HA.out.c4⟩
      have q1 := HA1.out.c4
      have HLs := hidP hls
      have HFs : Hid ((f1 (keyI x)).isSome = true) := by show _ = _; rw [hfs]; rfl
      clear hfs hfx hix hax hkx hX1 hrg1 hlt hg1 hs1 hls HO HR
      cases hz : decide (g x = 0)
      · have hz := of_decide_eq_false hz
        have hgb : (g x != 0) = true := by simpa using hz
        have HV1 := hidP (HV.out.take x hz HLs.out HFs.out)
        have HCl := hidP (fun w' (hx : Ext w1 w') => clone_any ax x.length cx x w' (HIx.out.below (HX1.out.trans hx)) HAx.out (by have := HK.out.2; omega))
        have HLk : Hid (∀ w', Ext w1 w' → (Instr.lookup 54 (.map (some b2)) (.string (keyI x)) false).run Tryz.prog w' = .ok (.int .i64 (g x)) w') := fun w' hx => by
          have h := (HC.out.m2.below (HX1.out.trans hx)).lookup (T := 54) (E := 3) (z := .int .i64 0) Tryz.underlying9 Tryz.underlying54 (zero_int w') hks
          rw [HNum.out] at h
          exact h
        have HAl := hidP (fun w' (hx : Ext w1 w') => HA1.out.below hx)
        have HZ := hidP hz
        clear hz
        go_wp2_with (first | (at_lookup; refine wpList_lookupS _ rfl _ _ 54 9 3 rfl Tryz.underlying9 Tryz.underlying54 (.int .i64 0) (zero_int _) b2 n f2 rfl (HC.out.m2.below HX1.out) (keyI x) rfl hks ?_; rw [HNum.out]) | fail)
        have hE : Ext w1 w1.drew := Ext.drew w1
        (refine walkR_start (fun w' => Ext w1 w') 9 (by kernel_rfl) ?_; simp only [numbered, List.take_succ_cons, List.take_zero, Nat.zero_add, Nat.reduceAdd, List.length_cons, List.length_nil])
        (repeat (first | (refine walkR_still (v := ?_) rfl (by decide +kernel) rfl (fun _ _ _ h => h) hE ?_ ?_; rotate_left; (focus (intro w' hw'; skip; go_simp; all_goals (with_reducible rfl))); simp only [Act.put, List.setIfInBounds_toArray, List.set_cons_zero, List.set_cons_succ]) | (refine walkR_skip rfl (by decide +kernel) rfl (fun _ _ _ h => h) hE ?_; simp only [Act.put, List.setIfInBounds_toArray, List.set_cons_zero, List.set_cons_succ])))
        (refine walkR_later ?_; simp only [List.cons_append, List.nil_append])
        (repeat (first | (refine walkR_still (v := ?_) rfl (by decide +kernel) rfl (fun _ _ _ h => h) hE ?_ ?_; rotate_left; (focus (intro w' hw'; obtain ⟨f0, f1, f2', f3, f4⟩ := HAl.out w' hw'; have hlk := HLk.out w' hw'; go_simp; all_goals (with_reducible rfl))); simp only [Act.put, List.setIfInBounds_toArray, List.set_cons_zero, List.set_cons_succ]) | (refine walkR_skip rfl (by decide +kernel) rfl (fun _ _ _ h => h) hE ?_; simp only [Act.put, List.setIfInBounds_toArray, List.set_cons_zero, List.set_cons_succ])))
        (refine walkR_later ?_; simp only [List.cons_append, List.nil_append]); (refine walkR_later ?_; simp only [List.cons_append, List.nil_append])
        (refine walkR_only (fun w' => Ext w1 w') rfl (by decide +kernel) rfl (fun _ h => h) ?_; intro K hK; go_simp; refine (HCl.out _ hE).mono ?_; rintro e w3 ⟨a1, c1, rfl, ho1, hx1⟩; refine hK _ _ (hE.trans hx1) ?_; clear hK K; (try simp only [Act.put, List.setIfInBounds_toArray, List.set_cons_zero, List.set_cons_succ]))
        have HE3 := hidP ((hE.trans hx1).trans (Ext.alloc w3 (.cells #[.slice a1 x.length c1, .int .i64 (g x)] 62)))
        have HO3 := hidP (HO1.out.below HE3.out)
        have HI3 := hidP (ho1.below (Ext.alloc w3 (.cells #[.slice a1 x.length c1, .int .i64 (g x)] 62)))
        have HAp := hidP (HO1.out.new_apart ho1 hE.size)
        have HB3 : Hid (w.heap.size + 1 ≤ w1.drew.heap.size) := Nat.le_trans (World.block_lt_of_cell? w1 _ HA1.out.c0) hE.size
        have HB4 : Hid (w.heap.size + 1 < (w3.alloc (.cells #[.slice a1 x.length c1, .int .i64 (g x)] 62)).heap.size) := Nat.lt_of_le_of_lt (Nat.le_trans HB3.out hx1.size) (by simp)
        have HCe : Hid (∀ j, j < stepK.size → (w3.alloc (.cells #[.slice a1 x.length c1, .int .i64 (g x)] 62)).cell? ⟨w3.heap.size, j, none⟩ = (stepK.cells a1 c1 (x, g x))[j]?) := fun j _ => (cell_top _ _ _ _ _ rfl).trans (by simp [stepK])
        have hE3 := hE.trans hx1
        clear ho1 hx1 hE
        (repeat (first | (refine walkR_still (v := ?_) rfl (by decide +kernel) rfl (fun _ _ _ h => h) hE3 ?_ ?_; rotate_left; (focus (intro w' hw'; skip; go_simp; all_goals (with_reducible rfl))); simp only [Act.put, List.setIfInBounds_toArray, List.set_cons_zero, List.set_cons_succ]) | (refine walkR_skip rfl (by decide +kernel) rfl (fun _ _ _ h => h) hE3 ?_; simp only [Act.put, List.setIfInBounds_toArray, List.set_cons_zero, List.set_cons_succ])))
        (refine walkR_only (fun w' => Ext w1 w') rfl (by decide +kernel) rfl ?_ ?_)
        · exact fun _ h => h
        intro K hK
        go_simp
        refine hK _ _ (hE3.trans (Ext.alloc w3 (.cells #[.slice a1 x.length c1, .int .i64 (g x)] 62))) ?_
        clear hK K
        (try simp only [Act.put, List.setIfInBounds_toArray, List.set_cons_zero, List.set_cons_succ])
        (refine walkR_tail (by rfl) (by kernel_rfl) ?_; simp only [List.drop_succ_cons, List.drop_zero])
        have hjn := hjl.out
        go_wp2_with (at_builtin; refine wpList_append_elem2 stepK 26 (.agg #[.slice none 0 0, .int .i64 0]) 32 rfl (.tmp 20) (.tmp 28) rfl Tryz.underlying26 Tryz.info62 rfl (by omega) (w.heap.size + 1) _ (some ⟨ga, 0, none⟩) j co hs _ rfl HO3.out w3.heap.size 1 (a1, c1) (x, g x) rfl HCe.out (HI3.out.base HB3.out) HAp.out.1 HAp.out.2 (by omega) (Nat.le_of_lt HB4.out) ?_; intro a4 c4 w4 ho4 hg4 hn4; have HX4 := hidP ((HO3.out.weaken (Nat.le_succ w.heap.size) (Nat.le_refl _)).below_grown hg4 (HX1.out.trans HE3.out) (HX1.out.trans HE3.out).size); have HG4 := hidP hg4; have HO4 := hidP ho4; clear ho4 hg4 hn4)
        obtain ⟨g4, rfl⟩ : ∃ g4, a4 = some ⟨g4, 0, none⟩ := by
          rcases HO4.out.form with ⟨_, h0, _⟩ | ⟨g4, _, e4, _⟩
          · omega
          · exact ⟨g4, e4⟩
        have hga := HO3.out.base_lt ga 0 rfl
        obtain ⟨cur, hcur⟩ := HO3.out.off_cell
        have hR3 := HR1.out.below HE3.out
        have hR4 := hR3.kept HG4.out (by
          obtain ⟨es, clock, hm⟩ := hR3.mapS.isMap
          intro e
          simp only [Value.ownBlock, Option.some.injEq] at e
          rw [e, hcur] at hm
          cases hm) (by
          obtain ⟨m, s0, seen, c0, hm⟩ := hR3.isIter
          intro e
          simp only [Value.ownBlock, Option.some.injEq] at e
          rw [e, hcur] at hm
          cases hm)
        have hA3 := HA1.out.below HE3.out
        have hA4 : EnvAt w4 w.heap.size p d ta tn tc b1 b2 := by
          have hb := HG4.out.block w.heap.size (World.block_lt_of_cell? _ _ hA3.c0) (by simp only [Value.ownBlock, ne_eq, Option.some.injEq]; omega)
          exact ⟨(World.cell?_of_block hb).trans hA3.c0, (World.cell?_of_block hb).trans hA3.c1, (World.cell?_of_block hb).trans hA3.c2, (World.cell?_of_block hb).trans hA3.c3, (World.cell?_of_block hb).trans hA3.c4⟩
        have HR4 := hidP hR4
        have HA4 := hidP hA4
        clear hR3 hR4 hA3 hA4 hcur hga
        go_roundw
        case rel => exact ⟨_, cnt1, j + 1, g4, c4, hs ++ [(a1, c1)], L ++ [(x, g x)], rfl, HR4, HO4, HV1, HA4, HX4⟩
        case measure => rw [HR4.out.left_eq, HLt.out.2]; exact HLt.out.1
      · have hz := of_decide_eq_true hz
        have hgb : (g x != 0) = false := by simpa using hz
        have HV1 := hidP (HV.out.pass x hz)
        clear hz
        go_wp2_with (first | (at_lookup; refine wpList_lookupS _ rfl _ _ 54 9 3 rfl Tryz.underlying9 Tryz.underlying54 (.int .i64 0) (zero_int _) b2 n f2 rfl (HC.out.m2.below HX1.out) (keyI x) rfl hks ?_; rw [HNum.out]) | fail)
        go_roundw
        case rel => exact ⟨_, cnt1, j, ga, co, hs, L, rfl, HR1, HO1, HV1, HA1, HX1⟩
        case measure => rw [HR1.out.left_eq, HLt.out.2]; exact HLt.out.1
end Go.Proofs.YtcfgcacmmmhjcaaGreatDoor

namespace Go.Proofs.YtcfgcacmmmhjcaaGreatDoor
open Go.RowKit

/-- internal/bytealg.MaxLen holds some number -/
def MaxL (w : World) : Prop := ∃ m, w.cell? ⟨0, 0, none⟩ = some (.int .i64 m)
theorem MaxL.below {w w' : World} (h : MaxL w) (hx : Ext w w') : MaxL w' := by
  obtain ⟨m, hm⟩ := h
  exact ⟨m, (hx.cell (p := ⟨0, 0, none⟩) (World.block_lt_of_cell? w _ hm)).trans hm⟩
/-- a slice of terms in memory of its own, and a truth -/
def EnvRes (f : FuncId) (args : Array Value) (w : World) (res : Bool × List Tm) : Prop :=
  Calls Tryz.prog f args w fun e w' => ∃ a n c hs, e = .returned (.tuple #[.slice a n c, .bool res.1]) ∧ OwnK stepK w' w.heap.size w'.heap.size a n c hs res.2 ∧ Ext w w'
def EnvResL (f : FuncId) (args : Array Value) (w : World) (res : List Tm) : Prop :=
  Calls Tryz.prog f args w fun e w' => ∃ a n c hs, e = .returned (.slice a n c) ∧ OwnK stepK w' w.heap.size w'.heap.size a n c hs res ∧ Ext w w'
theorem StepsAt.extM {b1 b2 : Nat} {w w' : World} {a : Option Addr} {n : Nat} {xs : List Stp} (h : StepsAt w a n xs) (hx : ExtM b1 b2 w w') (m1 : IsMapAt w b1) (m2 : IsMapAt w b2) : StepsAt w' a n xs := by
  refine ⟨h.len, fun i hi => ?_⟩
  obtain ⟨b, o, aw, cw, e, h1, h2, h3, h4, h5⟩ := h.get i hi
  exact ⟨b, o, aw, cw, e, hx.cell m1 m2 h1, hx.cell m1 m2 h2, h3.extM hx m1 m2, h4, h5⟩
theorem ExtM.isMap_left {b1 b2 : Nat} {w w' : World} {n : Nat} {g : List Int → Int} {f1 f2 : ByteArray → Option Value} (h : Counts w' b1 b2 n g f1 f2) : IsMapAt w' b1 ∧ IsMapAt w' b2 := ⟨h.m1.is, h.m2.is⟩
theorem Tab.extM {b1 b2 : Nat} {w w' : World} (h : Tab w) (hx : ExtM b1 b2 w w') (m1 : IsMapAt w b1) (m2 : IsMapAt w b2) : Tab w' := by
  unfold Tab Lib.TabIs World.var? at *
  cases hg : Tryz.prog.globalNamed "internal/strconv.uint64pow10" with
  | none => rw [hg] at h; cases h
  | some g =>
    rw [hg] at h
    simp only [Option.bind_some] at h ⊢
    cases ho : w.heap[g]? with
    | none => rw [ho] at h; cases h
    | some o =>
      have hlt := (Array.getElem?_eq_some_iff.1 ho).1
      have hne : ∀ b, IsMapAt w b → g ≠ b := by
        rintro b ⟨es, clock, e⟩ rfl
        rw [e] at h
        cases h
      rw [hx.block g hlt (hne _ m1) (hne _ m2)]
      exact h
/-- a term in a variable -/
structure StpAt (w : World) (b : Nat) (a : Option Addr) (n c : Nat) (l : Int) : Prop where
  c0 : w.cell? ⟨b, 0, none⟩ = some (.slice a n c)
  c1 : w.cell? ⟨b, 1, none⟩ = some (.int .i64 l)
theorem StpAt.below {w w' : World} {b : Nat} {l : Int} {a : Option Addr} {n c : Nat} (h : StpAt w b a n c l) (hb : Ext w w') : StpAt w' b a n c l :=
  have hl := World.block_lt_of_cell? w _ h.c0
  ⟨(hb.cell (p := ⟨b, 0, none⟩) hl).trans h.c0, (hb.cell (p := ⟨b, 1, none⟩) hl).trans h.c1⟩
theorem StpAt.new (w : World) (b : Nat) (hb : b = w.heap.size) (a : Option Addr) (n c : Nat) (l : Int) (E : TypeId) : StpAt (w.alloc (.cells #[.slice a n c, .int .i64 l] E)) b a n c l :=
  ⟨(cell_top _ _ _ _ _ hb).trans rfl, (cell_top _ _ _ _ _ hb).trans rfl⟩
/-- m times a list, modulo p -/
def scaleM (p m : Int) (us : List Tm) : List Tm := us.map fun q => (q.1, m * q.2 % p)
theorem scaleM_take (p m : Int) (us : List Tm) {k : Nat} (hk : k < us.length) : scaleM p m (us.take (k + 1)) = scaleM p m (us.take k) ++ [(wayAt us k, m * lenAt us k % p)] := by
  unfold scaleM
  rw [List.take_succ_eq_append_getElem hk, List.map_append]
  congr 1
  rw [← getTm hk]
  rfl

set_option maxRecDepth 100000 in
set_option maxHeartbeats 4000000 in
theorem envAddAll_any (p d : Int) (ta : Option Addr) (tn tc b1 b2 n0 : Nat) (L0 : List Tm) (f1 f2 : ByteArray → Option Value) (a : Option Addr) (n c : Nat) (us : List Tm) (m : Int) (w : World) (hC : Counts w b1 b2 n0 (gM p L0) f1 f2) (h : StepsAt w a n us) (hn : n ≤ 1000) (hn0 : n0 ≤ 1000000)
    (hp : 2 ≤ p) (hp2 : p ≤ 10007) (hm : 0 ≤ m) (hm2 : m < p) (hk : ∀ k, k < n → KeyOk (wayAt us k) ∧ 0 ≤ lenAt us k ∧ lenAt us k < p) (ht : Tab w) :
    Calls Tryz.prog 45 #[envV p d ta tn tc b1 b2, .slice a n c, .int .i64 m] w fun e w' => e = .returned (.tuple #[]) ∧ (∃ f1' f2', Counts w' b1 b2 (n0 + n) (gM p (L0 ++ scaleM p m us)) f1' f2') ∧ ExtM b1 b2 w w' := by
  have hxa := Ext.alloc w (.cells #[.int .i64 p, .int .i64 d, .slice ta tn tc, .map (some b1), .map (some b2)] 56)
  have H := hidP h
  have HT := hidP ht
  have HK := hidP hk
  have M1 := hidP hC.m1.is
  have M2 := hidP hC.m2.is
  have hnl := h.len
  have HA0 := hidP (EnvAt.new w _ rfl p d ta tn tc b1 b2 56)
  have HC0 : Hid (∃ f1 f2, Counts (w.alloc (.cells #[.int .i64 p, .int .i64 d, .slice ta tn tc, .map (some b1), .map (some b2)] 56)) b1 b2 (n0 + 0) (gM p (L0 ++ scaleM p m (us.take 0))) f1 f2) := ⟨f1, f2, by rw [List.take_zero]; simpa [scaleM] using hC.below hxa⟩
  have HX0 := hidP (ExtM.of_ext (b1 := b1) (b2 := b2) hxa)
  clear hxa h ht hk hC
  go_enter Tryz.func45, Tryz.ntmps45
  go_wp2
  go_loopw [10] (fun i wr => ∃ k : Nat, k ≤ n ∧ i = .int .i64 k ∧ Hid (∃ f1 f2, Counts wr b1 b2 (n0 + k) (gM p (L0 ++ scaleM p m (us.take k))) f1 f2) ∧ Hid (EnvAt wr w.heap.size p d ta tn tc b1 b2) ∧ Hid (ExtM b1 b2 w wr)) (fun i _ => n - (intOf i).toNat)
  case atStart => exact ⟨0, Nat.zero_le _, rfl, HC0, HA0, HX0⟩
  case round =>
    clear HC0 HA0 HX0
    obtain ⟨k, hk, rfl, HCn, HA, HX⟩ := hrel
    by_cases hlt : k < n
    · obtain ⟨bu, o, aw, cw, W, Ln, rfl, HW, HL, hwl, HNl, hq⟩ := (H.out.extM HX.out M1.out M2.out).way k hlt
      have HQ := hidP hq
      obtain ⟨q1, q2, _⟩ := hq wr (Ext.refl wr)
      have hkk := HK.out k hlt
      rw [HW.out, HL.out] at hkk
      have HKo := hidP hkk.1
      obtain ⟨hL0, hL1⟩ := hkk.2
      have hmL : 0 ≤ m * Ln := Int.mul_nonneg hm hL0
      have hmL2 : m * Ln ≤ 10007 * 10007 := Int.mul_le_mul (by omega) (by omega) hL0 (by omega)
      have hmw : IntKind.i64.wrap (m * Ln) = m * Ln := wrap_in (by omega) (by omega)
      have hpz : ¬ (p = 0) := by omega
      have HSn : Hid (gM p (L0 ++ scaleM p m (us.take k) ++ [(W, m * Ln % p)]) = gM p (L0 ++ scaleM p m (us.take (k + 1)))) := by
        show _ = _
        rw [scaleM_take p m us (by omega), HW.out, HL.out, List.append_assoc]
      have htm : (m * Ln).tmod p = m * Ln % p := Int.tmod_eq_emod_of_nonneg hmL
      have hv0 := Int.emod_nonneg (m * Ln) hpz
      have hv1 := Int.emod_lt_of_pos (m * Ln) (show 0 < p by omega)
      obtain ⟨v, hv⟩ : ∃ v, v = m * Ln % p := ⟨_, rfl⟩
      rw [← hv] at HSn htm hv0 hv1
      have HV := hidP hv
      have HA2 := hidP (Ext.alloc wr (.cells #[.slice aw W.length cw, .int .i64 Ln] 62))
      have HS2 := hidP (StpAt.new wr _ rfl aw W.length cw Ln 62)
      have HE2 := hidP (HA.out.below (Ext.alloc wr (.cells #[.slice aw W.length cw, .int .i64 Ln] 62)))
      obtain ⟨f1', f2', hCn⟩ := HCn.out
      obtain ⟨G, hG⟩ : ∃ G, G = L0 ++ scaleM p m (us.take k) := ⟨_, rfl⟩
      rw [← hG] at hCn HSn
      have HAd := hidP (fun w' (hx : Ext (wr.alloc (.cells #[.slice aw W.length cw, .int .i64 Ln] 62)) w') => envAdd_any p d ta tn tc b1 b2 (n0 + k) G f1' f2' aw W.length cw W v w' ((hCn.below HA2.out).below hx) HKo.out (HQ.out _ (HA2.out.trans hx)).2.2 HNl.out (by omega) hp hp2 hv0 hv1 (((HT.out.extM HX.out M1.out M2.out).below HA2.out).below hx))
      have HM1 := hidP (fun w' (hx : Ext (wr.alloc (.cells #[.slice aw W.length cw, .int .i64 Ln] 62)) w') => ((hCn.below HA2.out).below hx).m1.is)
      have HM2 := hidP (fun w' (hx : Ext (wr.alloc (.cells #[.slice aw W.length cw, .int .i64 Ln] 62)) w') => ((hCn.below HA2.out).below hx).m2.is)
      have HX3 := hidP (HX.out.trans (ExtM.of_ext HA2.out))
      clear hq hG hkk hCn HCn hmL hmL2 hv
      go_wp2
      obtain ⟨w2, hw2⟩ : ∃ w2, w2 = wr.alloc (.cells #[.slice aw W.length cw, .int .i64 Ln] 62) := ⟨_, rfl⟩
      rw [← hw2] at HA2 HS2 HE2 HAd HM1 HM2 HX3
      first | rw [← hw2] | skip
      clear hw2 q1 q2
      have hE : Ext w2 w2.drew := Ext.drew w2
      (refine walkR_start (fun w' => Ext w2 w') 11 (by kernel_rfl) ?_; simp only [numbered, List.take_succ_cons, List.take_zero, Nat.zero_add, Nat.reduceAdd, List.length_cons, List.length_nil])
      (repeat (first | (refine walkR_still (v := ?_) rfl (by decide +kernel) rfl (fun _ _ _ h => h) hE ?_ ?_; rotate_left; (focus (intro w' hw'; obtain ⟨f0, f1, f2, f3, f4⟩ := HE2.out.below hw'; obtain ⟨q1, q2⟩ := HS2.out.below hw'; go_simp; all_goals (with_reducible rfl))); simp only [Act.put, List.setIfInBounds_toArray, List.set_cons_zero, List.set_cons_succ]) | (refine walkR_skip rfl (by decide +kernel) rfl (fun _ _ _ h => h) hE ?_; simp only [Act.put, List.setIfInBounds_toArray, List.set_cons_zero, List.set_cons_succ])))
      have HAd2 := hidP (HAd.out _ hE)
      have HM12 := hidP (HM1.out _ hE)
      have HM22 := hidP (HM2.out _ hE)
      have HE3 := hidP (HE2.out.below hE)
      have HX4 := hidP (HX3.out.trans (ExtM.of_ext hE))
      clear hE HAd HM1 HM2
      (refine walkR_tail (by rfl) (by kernel_rfl) ?_; simp only [List.drop_succ_cons, List.drop_zero])
      go_wp2_with fail
      refine HAd2.out.mono ?_
      rintro e w7 ⟨rfl, hC7, hx7⟩
      rw [HSn.out] at hC7
      have HC7 := hidP hC7
      have HA7 := hidP (HE3.out.extM hx7 HM12.out HM22.out)
      have HX7 := hidP (HX4.out.trans hx7)
      clear hC7 hx7
      go_wp2
      go_roundw
      case rel => exact ⟨k + 1, by omega, by go_num, HC7, HA7, HX7⟩
      case measure => simp [intOf]; omega
    · obtain rfl : n = k := by omega
      have HTk : Hid (us.take n = us) := List.take_of_length_le (by omega)
      rw [HTk.out] at HCn
      go_wp2
      go_end0
      exact ⟨rfl, HCn.out, HX.out⟩
set_option maxHeartbeats 4000000 in
theorem envChecked_any (p d : Int) (ta : Option Addr) (tn tc b1 b2 n : Nat) (L0 : List Tm) (f1 f2 : ByteArray → Option Value) (w : World) (hC : Counts w b1 b2 n (gM p L0) f1 f2) (hp : 0 < p) (hl : (putsM p [] L0).length ≤ 900000000) :
    EnvRes 47 #[envV p d ta tn tc b1 b2] w (giveR (putsM p [] L0)) := by
  unfold EnvRes
  obtain ⟨hO, hT⟩ := puts_tells hp L0
  obtain ⟨T, hTT⟩ : ∃ T, T = putsM p [] L0 := ⟨_, rfl⟩
  rw [← hTT] at hO hT hl ⊢
  have hxa := Ext.alloc w (.cells #[.int .i64 p, .int .i64 d, .slice ta tn tc, .map (some b1), .map (some b2)] 56)
  have HA := hidP (EnvAt.new w _ rfl p d ta tn tc b1 b2 56)
  have HTm := hidP (envTerms_any p d ta tn tc b1 b2 n _ f1 f2 T _ (hC.below hxa) hT hO hl)
  have HX := hidP hxa
  clear hC hO hT hTT hxa
  go_enter Tryz.func47, Tryz.ntmps47
  obtain ⟨f0, f1, f2, f3, f4⟩ := HA.out
  go_wp2_with fail
  refine HTm.out.mono ?_
  rintro e w1 ⟨a, c, hs, rfl, ho, hx⟩
  have HO := hidP (ho.weaken HX.out.size (Nat.le_refl _))
  have HX1 := hidP (HX.out.trans hx)
  clear ho hx
  by_cases h3 : T.length ≤ 300
  · have HG : Hid (giveR T = (true, T)) := if_pos h3
    have h3' : ¬ (300 < (T.length : Int)) := by omega
    go_wp2
    refine bodyPost_ret (v := .tuple #[.slice (some ⟨a, 0, none⟩) T.length c, .bool true]) (by simp [results, Tryz.results47, go_sem]) rfl ?_
    refine ⟨some ⟨a, 0, none⟩, T.length, c, hs, by rw [HG.out], ?_, HX1.out⟩
    rw [HG.out]
    exact HO.out
  · have HG : Hid (giveR T = (false, [])) := if_neg h3
    have h3' : 300 < (T.length : Int) := by omega
    go_wp2
    refine bodyPost_ret (v := .tuple #[.slice none 0 0, .bool false]) (by simp [results, Tryz.results47, go_sem]) rfl ?_
    refine ⟨none, 0, 0, [], by rw [HG.out], ?_, HX1.out⟩
    rw [HG.out]
    exact OwnK.nil stepK _ _ _
set_option maxHeartbeats 2000000 in
theorem isElement_any (p d : Int) (ta : Option Addr) (tn tc : Nat) (a : Option Addr) (n c : Nat) (xs : List Int) (w : World) (h : IntsAt w a n xs) (hn : n ≤ 1000000000000) (hp : -1000000 ≤ p) (hp2 : p ≤ 1000000000000) :
    Calls Tryz.prog 32 #[algV p d ta tn tc, .slice a n c] w fun e w' => e = .returned (.bool (elB p d xs)) ∧ Ext w w' := by
  have hx0 := Ext.alloc w (.cells #[.int .i64 p, .int .i64 d, .slice ta tn tc] 28)
  have HAL := hidP (AlgAt.new w _ rfl p d ta tn tc 28)
  have HR := hidP (residues_any a n c xs p _ (h.below hx0) hn hp hp2)
  have HX := hidP hx0
  obtain rfl : xs.length = n := h.len
  clear h hx0
  obtain ⟨f0, f1, f2⟩ := HAL.out
  by_cases hd : (xs.length : Int) = d
  · have HE : Hid (elB p d xs = resB p xs) := by show _ = _; unfold elB; rw [decide_eq_true hd, Bool.true_and]
    rw [HE.out]
    go_enter Tryz.func32, Tryz.ntmps32
    go_wp2_with fail
    refine HR.out.mono ?_
    rintro e w1 ⟨rfl, hx1⟩
    go_wp2
    go_ret
    exact ⟨rfl, HX.out.trans hx1⟩
  · have HE : Hid (elB p d xs = false) := by show _ = _; unfold elB; rw [decide_eq_false hd, Bool.false_and]
    rw [HE.out]
    go_enter Tryz.func32, Tryz.ntmps32
    go_wp2
    go_ret
    exact ⟨rfl, HX.out⟩
end Go.Proofs.YtcfgcacmmmhjcaaGreatDoor

namespace Go.Proofs.YtcfgcacmmmhjcaaGreatDoor
open Go.RowKit

theorem puts_unique {p : Int} (hp : 0 < p) {A B : List Tm} (h : gM p A = gM p B) : putsM p [] A = putsM p [] B := by
  obtain ⟨h1, h2⟩ := puts_tells hp A
  obtain ⟨h3, h4⟩ := puts_tells hp B
  rw [← h] at h4
  exact ordered_unique before_ord h1 h3 fun q => (h2 q.1 q.2).trans (h4 q.1 q.2).symm
theorem scaleM_red (p m : Int) (us : List Tm) : scaleM p m us = redM p (us.map fun q => (q.1, m * q.2)) := by
  unfold scaleM redM
  rw [List.map_map]
  rfl
theorem gM_join (p k : Int) (us vs : List Tm) : gM p (scaleM p 1 us ++ scaleM p (k % p) vs) = gM p (joinE p k us vs) := by
  rw [scaleM_red, scaleM_red, show us.map (fun q : Tm => (q.1, 1 * q.2)) = us by rw [show (fun q : Tm => (q.1, 1 * q.2)) = id from funext fun q => by simp]; simp]
  have e : redM p us ++ redM p (vs.map fun q => (q.1, k % p * q.2)) = [] ++ redM p (us ++ vs.map fun q => (q.1, k % p * q.2)) := by
    unfold redM
    rw [List.map_append, List.nil_append]
  rw [e, gM_red]
  rfl
theorem keyOk_one {k : Nat} (hk : k ≤ 1000000000) : KeyOk [(k : Int)] := ⟨fun i hi => by
  have : i = 0 := by simpa using hi
  subst this
  simp
  omega, by simp⟩
theorem one_ints (w : World) (k : Int) (E : TypeId) : IntsAt (w.alloc (.cells #[.int .i64 k] E)) (some ⟨w.heap.size, 0, none⟩) 1 [k] := by
  have := ints_alloc w [k] E
  simpa [ivs] using this
theorem wordB_key {d : Nat} {w : List Int} (hd : d ≤ 28) (h : WordA d w) (hl : w.length ≤ 6) : KeyOk w := ⟨fun i hi => by
  have := h.all (w.getD i 0) (by simp [List.getD_eq_getElem?_getD, hi])
  omega, by omega⟩
set_option maxRecDepth 100000 in
set_option maxHeartbeats 4000000 in
theorem generatorOf_any (p d : Int) (ta : Option Addr) (tn tc : Nat) (ts : List Int) (a : Option Addr) (n c : Nat) (xs : List Int) (w : World) (hc : IntsAt w ta tn ts) (h : IntsAt w a n xs) (htc : tn ≤ tc) (htc2 : tc ≤ 1000000000000) (hn : n ≤ 1000000000000) (_hm : MaxL w) (ht : Tab w) :
    EnvResL 11 #[algV p d ta tn tc, .slice a n c] w (genR p d ts xs) := by
  unfold EnvResL
  have hx1 := Ext.alloc w (.cells #[.int .i64 p, .int .i64 d, .slice ta tn tc] 28)
  have HC := hidP (fun w' (hx : Ext (w.alloc (.cells #[.int .i64 p, .int .i64 d, .slice ta tn tc] 28)) w') => (AlgAt.new w _ rfl p d ta tn tc 28).below hx)
  have HX1 := hidP hx1
  have H := hidP (h.below hx1)
  have HAk := hidP (algebraOk_any p d ta tn tc ts _ (hc.below hx1) htc htc2)
  have HTb := hidP (ht.below hx1)
  have hs1 : w.heap.size ≤ (w.alloc (.cells #[.int .i64 p, .int .i64 d, .slice ta tn tc] 28)).heap.size := hx1.size
  have hxl := h.len
  clear hc h hx1 ht
  obtain ⟨w1, hw1⟩ : ∃ w1, w1 = w.alloc (.cells #[.int .i64 p, .int .i64 d, .slice ta tn tc] 28) := ⟨_, rfl⟩
  rw [← hw1] at HC HX1 H HAk HTb hs1
  have HS1 := hidP hs1
  clear hs1
  obtain ⟨f0, f1, f2⟩ := HC.out w1 (Ext.refl w1)
  cases hT : algB p d ts
  · have HR : Hid (genR p d ts xs = []) := by
      show _ = _
      unfold genR
      rw [hT]
      rfl
    rw [hT] at HAk
    clear hT
    go_enter Tryz.func11, Tryz.ntmps11
    go_wp2_with fail
    rw [← hw1]
    clear hw1
    refine HAk.out.mono ?_
    rintro e w2 ⟨rfl, hx⟩
    have HX := hidP hx
    clear hx
    go_wp2
    go_ret
    refine ⟨none, 0, 0, [], rfl, ?_, HX1.out.trans HX.out⟩
    rw [HR.out]
    exact OwnK.nil stepK _ _ _
  · obtain ⟨hh, -⟩ := algB_true.1 hT
    obtain ⟨hpp, hd0, hd1, -, -⟩ := headB_true hh
    obtain ⟨p2, p7⟩ := prime_bounds hpp
    have HEl := hidP (fun w' (hx : Ext w1 w') => isElement_any p d ta tn tc a n c xs w' (H.out.below hx) hn (by omega) (by omega))
    rw [hT] at HAk
    cases hE : elB p d xs
    · have HR : Hid (genR p d ts xs = []) := by
        show _ = _
        unfold genR
        rw [hT, hE]
        rfl
      rw [hE] at HEl
      clear hT hh hpp hE
      go_enter Tryz.func11, Tryz.ntmps11
      go_wp2_with fail
      rw [← hw1]
      clear hw1
      refine HAk.out.mono ?_
      rintro e w2 ⟨rfl, hx⟩
      obtain ⟨g0, g1, g2⟩ := HC.out w2 hx
      have HX := hidP hx
      clear hx f0 f1 f2
      go_wp2_with fail
      refine (HEl.out _ HX.out).mono ?_
      rintro e w3 ⟨rfl, hx⟩
      have HX3 := hidP (HX.out.trans hx)
      clear hx g0 g1 g2
      go_wp2
      go_ret
      refine ⟨none, 0, 0, [], rfl, ?_, HX1.out.trans HX3.out⟩
      rw [HR.out]
      exact OwnK.nil stepK _ _ _
    · have HR : Hid (genR p d ts xs = putsM p [] (genT xs)) := by
        show _ = _
        unfold genR
        rw [hT, hE]
        rfl
      rw [hE] at HEl
      have hel : (xs.length : Int) = d ∧ Res p xs := by
        unfold elB at hE
        simp only [Bool.and_eq_true, decide_eq_true_eq] at hE
        exact ⟨hE.1, resB_true.1 hE.2⟩
      have HRes := hidP hel.2
      have hn28 : n ≤ 28 := by omega
      clear hT hh hpp hE hel
      go_enter Tryz.func11, Tryz.ntmps11
      go_wp2_with fail
      rw [← hw1]
      clear hw1
      refine HAk.out.mono ?_
      rintro e w2 ⟨rfl, hx⟩
      obtain ⟨g0, g1, g2⟩ := HC.out w2 hx
      have HX := hidP hx
      clear hx f0 f1 f2
      go_wp2_with fail
      refine (HEl.out _ HX.out).mono ?_
      rintro e w3 ⟨rfl, hx⟩
      have HX3 := hidP (HX.out.trans hx)
      have HN := hidP (newEnv_any p d ta tn tc w3)
      obtain ⟨g0, g1, g2⟩ := HC.out w3 HX3.out
      clear hx
      go_wp2_with fail
      refine HN.out.mono ?_
      rintro e w4 ⟨b, rfl, hC4, hb4, hx4⟩
      have hx5 := Ext.alloc w4 (.cells #[.int .i64 p, .int .i64 d, .slice ta tn tc, .map (some b), .map (some (b + 1))] 56)
      have HX5 := hidP (HX3.out.trans (hx4.trans hx5))
      have HC5 : Hid (∃ f1 f2, Counts (w4.alloc (.cells #[.int .i64 p, .int .i64 d, .slice ta tn tc, .map (some b), .map (some (b + 1))] 56)) b (b + 1) 0 (gM p ((genT xs).take 0)) f1 f2) := ⟨_, _, by rw [List.take_zero, show gM p [] = fun _ => 0 from funext fun x => by simp [gM, cntSum]]; exact hC4.below hx5⟩
      have HA5 := hidP (EnvAt.new w4 _ rfl p d ta tn tc b (b + 1) 56)
      have HB : Hid (w1.heap.size ≤ b) := Nat.le_trans HX3.out.size hb4
      obtain ⟨w5, hw5⟩ : ∃ w5, w5 = w4.alloc (.cells #[.int .i64 p, .int .i64 d, .slice ta tn tc, .map (some b), .map (some (b + 1))] 56) := ⟨_, rfl⟩
      rw [← hw5] at HX5 HC5 HA5
      obtain ⟨bk, hbk⟩ : ∃ bk, bk = w4.heap.size := ⟨_, rfl⟩
      rw [← hbk] at HA5
      clear hC4 hb4 hx4 hx5 HN g0 g1 g2
      go_wp2
      first | rw [← hw5] | skip
      simp only [← hbk]
      clear hw5 hbk
      go_loopw [21] (fun i wr => ∃ k : Nat, k ≤ n ∧ i = .int .i64 k ∧ Hid (∃ f1 f2, Counts wr b (b + 1) k (gM p ((genT xs).take k)) f1 f2) ∧ Hid (EnvAt wr bk p d ta tn tc b (b + 1)) ∧ Hid (Ext w1 wr)) (fun i _ => n - (intOf i).toNat)
      case atStart => exact ⟨0, Nat.zero_le _, rfl, HC5, HA5, HX5⟩
      case round =>
        clear HC5 HA5 HX5
        obtain ⟨k, hk, rfl, HCn, HA, HX5⟩ := hrel
        by_cases hlt : k < n
        · obtain ⟨bx, ox, rfl, q0⟩ := (H.out.below HX5.out).get k hlt
          have hv := HRes.out k (by omega)
          have HSn : Hid (gM p ((genT xs).take k ++ [([(k : Int)], xs.getD k 0)]) = gM p ((genT xs).take (k + 1))) := by
            show _ = _
            rw [genT_take xs (by omega)]
          obtain ⟨v, hvv⟩ : ∃ v, v = xs.getD k 0 := ⟨_, rfl⟩
          rw [← hvv] at hv HSn
          have q1 : wr.cell? ⟨bx, ox + k, none⟩ = some (.int .i64 v) := by rw [hvv]; exact q0
          clear hvv q0
          obtain ⟨f1', f2', hCn⟩ := HCn.out
          have hxa := Ext.alloc wr (.cells #[.int .i64 (k : Int)] 3)
          have HOn := hidP (one_ints wr (k : Int) 3)
          have HAd := hidP (envAdd_any p d ta tn tc b (b + 1) k ((genT xs).take k) f1' f2' (some ⟨wr.heap.size, 0, none⟩) 1 1 [(k : Int)] v _ (hCn.below hxa) (keyOk_one (by omega)) HOn.out (fun e => by cases e) (by omega) (by omega) p7 hv.1 hv.2 ((HTb.out.below HX5.out).below hxa))
          have HM1 := hidP (hCn.below hxa).m1.is
          have HM2 := hidP (hCn.below hxa).m2.is
          have HA2 := hidP (HA.out.below hxa)
          have HX2 := hidP (HX5.out.trans hxa)
          obtain ⟨z0, z1, z2, z3, z4⟩ := HA.out
          clear hCn HCn hxa
          go_wp2_with fail
          refine HAd.out.mono ?_
          rintro e w7 ⟨rfl, hC7, hx7⟩
          rw [HSn.out] at hC7
          have HC7 := hidP hC7
          have HA7 := hidP (HA2.out.extM hx7 HM1.out HM2.out)
          have HX7 : Hid (Ext w1 w7) := hidP (hx7.below HX2.out HB.out (Nat.le_succ_of_le HB.out) HX2.out.size)
          clear hC7 hx7 z0 z1 z2 z3 z4 q1
          go_wp2
          go_roundw
          case rel => exact ⟨k + 1, by omega, by go_num, HC7, HA7, HX7⟩
          case measure => simp [intOf]; omega
        · obtain rfl : n = k := by omega
          have HTk : Hid ((genT xs).take n = genT xs) := List.take_of_length_le (by rw [genT_length]; omega)
          rw [HTk.out] at HCn
          obtain ⟨f1', f2', hCn⟩ := HCn.out
          obtain ⟨hO, hTl⟩ := puts_tells (show 0 < p by omega) (genT xs)
          have hln := putsM_length p (genT xs) []
          rw [genT_length] at hln
          simp only [List.length_nil] at hln
          have HTm := hidP (envTerms_any p d ta tn tc b (b + 1) n _ f1' f2' (putsM p [] (genT xs)) wr hCn hTl hO (by omega))
          obtain ⟨z0, z1, z2, z3, z4⟩ := HA.out
          clear hCn HCn hO hTl hln
          go_wp2_with fail
          refine HTm.out.mono ?_
          rintro e w7 ⟨a7, c7, hs7, rfl, ho7, hx7⟩
          have HO7 := hidP (ho7.weaken (B' := w.heap.size) (Nat.le_trans HS1.out HX5.out.size) (Nat.le_refl _))
          have HX7 := hidP (HX1.out.trans (HX5.out.trans hx7))
          clear ho7 hx7
          go_wp2
          go_ret
          refine ⟨some ⟨a7, 0, none⟩, _, c7, hs7, rfl, ?_, HX7.out⟩
          rw [HR.out]
          exact HO7.out
end Go.Proofs.YtcfgcacmmmhjcaaGreatDoor
