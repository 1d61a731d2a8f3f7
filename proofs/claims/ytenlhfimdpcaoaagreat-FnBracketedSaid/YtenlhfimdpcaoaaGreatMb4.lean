/-
  A Cartan matrix's value, and the cells of one in a variable of its own.
  Cartan matrices, plain: the matrices of types, in whatever order of rows; what the program's search and the reference's search find. No program in sight.
  Slices of strings that a call owns; numbers as decimal text, as the reference writes them.
-/
import Derived.Test.YtenlhfimdpcaoaaGreatMb3
import Derived.Lib.ItoaNum
import Derived.Lib.Join
import Derived.BigQuiet
import Derived.Deep.QuietTactic
namespace Go.Proofs.YtenlhfimdpcaoaaGreat
open Go.RowKit

/-! ### numbers as text -/
def str (l : List UInt8) : ByteArray := ⟨l.toArray⟩
end Go.Proofs.YtenlhfimdpcaoaaGreat

namespace Go.Proofs.YtenlhfimdpcaoaaGreat

/-- a search for a list of m candidates, one after the other -/
def searchB (cand : List Nat) (m : Nat) (chk : List Nat → Nat → Bool) : Nat → List Nat → Bool
  | 0, used => decide (used.length = m)
  | f + 1, used => decide (used.length = m) || cand.any fun i => !used.contains i && chk used i && searchB cand m chk f (used ++ [i])

structure Found (cand : List Nat) (m : Nat) (chk : List Nat → Nat → Bool) (used full : List Nat) : Prop where
  len : full.length = m
  pre : ∃ ext, full = used ++ ext
  nodup : used.Nodup → full.Nodup
  sub : (∀ a ∈ used, a ∈ cand) → ∀ a ∈ full, a ∈ cand
  ok : ∀ p, used.length ≤ p → p < m → chk (full.take p) (full.getD p 0) = true

theorem searchB_sound {cand : List Nat} {m : Nat} {chk : List Nat → Nat → Bool} : ∀ (f : Nat) (used : List Nat), searchB cand m chk f used = true → ∃ full, Found cand m chk used full
  | 0, used, h => by
    have h' : used.length = m := by simpa [searchB] using h
    exact ⟨used, h', ⟨[], by simp⟩, id, id, fun p h1 h2 => by omega⟩
  | f + 1, used, h => by
    simp only [searchB, Bool.or_eq_true, decide_eq_true_eq, List.any_eq_true, Bool.and_eq_true, Bool.not_eq_true', List.contains_eq_mem, decide_eq_false_iff_not] at h
    rcases h with h | ⟨i, hi, ⟨hn, hc⟩, hs⟩
    · exact ⟨used, h, ⟨[], by simp⟩, id, id, fun p h1 h2 => by omega⟩
    · obtain ⟨full, h1, ⟨ext, rfl⟩, h3, h4, h5⟩ := searchB_sound f _ hs
      refine ⟨_, h1, ⟨i :: ext, by simp⟩, fun hd => h3 ?_, fun hu => h4 ?_, fun p hp hm => ?_⟩
      · rw [List.nodup_append]
        exact ⟨hd, by simp, fun a ha b hb => by simp at hb; subst hb; rintro rfl; exact hn ha⟩
      · intro a ha
        simp only [List.mem_append, List.mem_singleton] at ha
        rcases ha with ha | rfl
        · exact hu a ha
        · exact hi
      · rcases Nat.eq_or_lt_of_le hp with rfl | hp
        · simp only [List.append_assoc, List.take_left', List.singleton_append]
          rw [show (used ++ i :: ext).getD used.length 0 = i by simp [List.getD_eq_getElem?_getD]]
          exact hc
        · exact h5 p (by simp; omega) hm

theorem searchB_complete {cand : List Nat} {m : Nat} {chk : List Nat → Nat → Bool} : ∀ (f : Nat) (used ext : List Nat), (used ++ ext).length = m → ext.length ≤ f → (used ++ ext).Nodup → (∀ a ∈ ext, a ∈ cand) →
    (∀ p, used.length ≤ p → p < m → chk ((used ++ ext).take p) ((used ++ ext).getD p 0) = true) → searchB cand m chk f used = true
  | 0, used, ext, hl, hf, _, _, _ => by
    have : ext = [] := List.eq_nil_of_length_eq_zero (by omega)
    subst this
    simpa [searchB] using hl
  | f + 1, used, [], hl, _, _, _, _ => by simp [searchB]; left; simpa using hl
  | f + 1, used, i :: ext, hl, hf, hd, hc, hk => by
    simp only [searchB, Bool.or_eq_true, decide_eq_true_eq, List.any_eq_true, Bool.and_eq_true, Bool.not_eq_true', List.contains_eq_mem, decide_eq_false_iff_not]
    right
    refine ⟨i, hc i (by simp), ⟨?_, ?_⟩, ?_⟩
    · intro hm
      rw [List.nodup_append] at hd
      exact hd.2.2 i hm i (by simp) rfl
    · have := hk used.length (Nat.le_refl _) (by rw [← hl]; simp)
      simp only [List.take_left'] at this
      rw [show (used ++ i :: ext).getD used.length 0 = i by simp [List.getD_eq_getElem?_getD]] at this
      exact this
    · refine searchB_complete f (used ++ [i]) ext (by simpa using hl) (by simp at hf; omega) (by simpa using hd) (fun a ha => hc a (by simp [ha])) fun p hp hm => ?_
      have := hk p (by simp at hp; omega) hm
      simpa using this

/-! ### types -/
def atM (xs : List Int) (r i j : Nat) : Int := xs.getD (i * r + j) 0
def pNames : List (List UInt8) := [[65, 49], [65, 50], [65, 51], [65, 52], [66, 50], [66, 51], [66, 52], [67, 51], [67, 52], [68, 52], [70, 52], [71, 50]]
def pRanks : List Nat := [1, 2, 3, 4, 2, 3, 4, 3, 4, 4, 4, 2]
def pRank (k : Nat) : Nat := pRanks.getD k 0
def pMats : List (List Int) := [
  [2],
  [2, -1, -1, 2],
  [2, -1, 0, -1, 2, -1, 0, -1, 2],
  [2, -1, 0, 0, -1, 2, -1, 0, 0, -1, 2, -1, 0, 0, -1, 2],
  [2, -1, -2, 2],
  [2, -1, 0, -1, 2, -1, 0, -2, 2],
  [2, -1, 0, 0, -1, 2, -1, 0, 0, -1, 2, -1, 0, 0, -2, 2],
  [2, -1, 0, -1, 2, -2, 0, -1, 2],
  [2, -1, 0, 0, -1, 2, -1, 0, 0, -1, 2, -2, 0, 0, -1, 2],
  [2, -1, 0, 0, -1, 2, -1, -1, 0, -1, 2, 0, 0, -1, 0, 2],
  [2, -1, 0, 0, -1, 2, -1, 0, 0, -2, 2, -1, 0, 0, -1, 2],
  [2, -3, -1, 2]]
def pMat (k : Nat) : List Int := pMats.getD k []

/-- the lists of parts in ascending order, from one on, whose ranks are together so much -/
def typesL : Nat → Nat → Nat → List (List Nat)
  | 0, _, _ => []
  | f + 1, rank, lo => if rank = 0 then [[]] else
      (List.range (12 - lo)).flatMap fun d => if rank < pRank (lo + d) then [] else (typesL f (rank - pRank (lo + d)) (lo + d)).map ((lo + d) :: ·)

/-- the number in row p and column q of the matrix with blocks one after the other -/
def blockE : List Nat → Nat → Nat → Int
  | [], _, _ => 0
  | k :: ks, p, q => if p < pRank k then (if q < pRank k then atM (pMat k) (pRank k) p q else 0) else if q < pRank k then 0 else blockE ks (p - pRank k) (q - pRank k)
def rankL (ks : List Nat) : Nat := (ks.map pRank).foldr (· + ·) 0
def blockL (ks : List Nat) : List Int := (List.range (rankL ks * rankL ks)).map fun m => blockE ks (m / rankL ks) (m % rankL ks)

/-- the program's test of one more row -/
def rowChk (xs : List Int) (r : Nat) (due : List Int) (dr : Nat) (used : List Nat) (i : Nat) : Bool :=
  (atM xs r i i == atM due dr used.length used.length) && (List.range used.length).all fun j => atM xs r i (used.getD j 0) == atM due dr used.length j && atM xs r (used.getD j 0) i == atM due dr j used.length
def reordB (xs : List Int) (r : Nat) (due : List Int) : Bool := searchB (List.range r) r (rowChk xs r due r) r []
def typeB (r : Int) (xs : List Int) : Bool := decide (1 ≤ r ∧ r ≤ 4) && decide ((xs.length : Int) = r * r) && (typesL 5 r.toNat 0).any fun ks => reordB xs r.toNat (blockL ks)

/-! ### the reference -/
/-- the rows that are connected with the rows in out, from place k and column j on -/
def partGo (bits : List Bool) (r : Nat) : Nat → Nat → Nat → List Nat → List Nat
  | 0, _, _, out => out
  | f + 1, k, j, out =>
    if k < out.length then
      if j < r then partGo bits r f k (j + 1) (if bits.getD (out.getD k 0 * r + j) false && !out.contains j then out ++ [j] else out)
      else partGo bits r f (k + 1) 0 out
    else out
def bitsOf (xs : List Int) : List Bool := xs.map fun x => x != 0
def partL (bits : List Bool) (r i : Nat) : List Nat := partGo bits r 64 0 0 [i]
def fitsB (xs : List Int) (r : Nat) (rows : List Nat) (k : Nat) : Bool := searchB rows rows.length (rowChk xs r (pMat k) (pRank k)) rows.length []
def fitAny (xs : List Int) (r : Nat) (rows : List Nat) : Bool := (List.range 12).any fun k => decide (pRank k = rows.length) && fitsB xs r rows k
/-- the parts from row i on -/
def partsGo (bits : List Bool) (r : Nat) : Nat → Nat → List Nat → List (List Nat)
  | 0, _, _ => []
  | f + 1, i, done => if i < r then (if done.contains i then partsGo bits r f (i + 1) done else partL bits r i :: partsGo bits r f (i + 1) (done ++ partL bits r i)) else []
def entryB (xs : List Int) (r : Nat) : Bool := (List.range xs.length).all fun m => decide (-3 ≤ xs.getD m 0 ∧ xs.getD m 0 ≤ 2) && (decide (xs.getD m 0 = 0) || decide (atM xs r (m % r) (m / r) ≠ 0))
def partsB (r : Int) (xs : List Int) : Bool := decide (1 ≤ r ∧ r ≤ 4) && decide ((xs.length : Int) = r * r) && entryB xs r.toNat && (partsGo (bitsOf xs) r.toNat 5 0 []).all fun rows => fitAny xs r.toNat rows

/-! ### the program's search finds the orders -/
/-- the rows s of a matrix make the matrix E -/
def Match (xs : List Int) (r : Nat) (s : List Nat) (E : Nat → Nat → Int) : Prop := ∀ p q, p < s.length → q < s.length → atM xs r (s.getD p 0) (s.getD q 0) = E p q

theorem getD_take {α : Type} (l : List α) (p j : Nat) (d : α) (h : j < p) : (l.take p).getD j d = l.getD j d := by simp [List.getD_eq_getElem?_getD, h]
theorem match_of_chk {xs due : List Int} {r dr m : Nat} {full : List Nat} (hl : full.length = m) (h : ∀ p, 0 ≤ p → p < m → rowChk xs r due dr (full.take p) (full.getD p 0) = true) : Match xs r full fun p q => atM due dr p q := by
  have key : ∀ p q, p < m → q < p → atM xs r (full.getD p 0) (full.getD q 0) = atM due dr p q ∧ atM xs r (full.getD q 0) (full.getD p 0) = atM due dr q p := by
    intro p q hp hq
    have := h p (Nat.zero_le _) hp
    simp only [rowChk, Bool.and_eq_true, beq_iff_eq, List.all_eq_true, List.mem_range] at this
    have hlt : (full.take p).length = p := by rw [List.length_take]; omega
    have h2 := this.2 q (by rw [hlt]; exact hq)
    rw [hlt, getD_take _ _ _ _ hq] at h2
    exact h2
  intro p q hp hq
  rw [hl] at hp hq
  rcases Nat.lt_trichotomy p q with h1 | rfl | h1
  · exact (key q p hq h1).2
  · have := h p (Nat.zero_le _) hp
    simp only [rowChk, Bool.and_eq_true, beq_iff_eq] at this
    have hlt : (full.take p).length = p := by rw [List.length_take]; omega
    rw [hlt] at this
    exact this.1
  · exact (key p q hp h1).1
theorem chk_of_match {xs due : List Int} {r dr m : Nat} {full : List Nat} (hl : full.length = m) (h : Match xs r full fun p q => atM due dr p q) (p : Nat) (hp : p < m) : rowChk xs r due dr (full.take p) (full.getD p 0) = true := by
  have hlt : (full.take p).length = p := by rw [List.length_take]; omega
  simp only [rowChk, Bool.and_eq_true, beq_iff_eq, List.all_eq_true, List.mem_range]
  rw [hlt]
  refine ⟨h p p (by omega) (by omega), fun j hj => ?_⟩
  rw [getD_take _ _ _ _ hj]
  exact ⟨h p j (by omega) (by omega), h j p (by omega) (by omega)⟩

/-- an order of the rows -/
def Perm (r : Nat) (s : List Nat) : Prop := s.length = r ∧ s.Nodup ∧ ∀ a ∈ s, a < r
theorem reordB_iff {xs due : List Int} {r : Nat} : reordB xs r due = true ↔ ∃ s, Perm r s ∧ Match xs r s fun p q => atM due r p q := by
  constructor
  · intro h
    obtain ⟨full, h1, _, h3, h4, h5⟩ := searchB_sound _ _ h
    exact ⟨full, ⟨h1, h3 (by simp), fun a ha => List.mem_range.1 (h4 (by simp) a ha)⟩, match_of_chk h1 fun p hp hm => h5 p (by simp) hm⟩
  · rintro ⟨s, ⟨h1, h2, h3⟩, hm⟩
    refine searchB_complete r [] s (by simpa using h1) (by omega) (by simpa using h2) (fun a ha => List.mem_range.2 (h3 a ha)) fun p _ hp => ?_
    simpa using chk_of_match h1 hm p hp

theorem rankL_cons (k : Nat) (ks : List Nat) : rankL (k :: ks) = pRank k + rankL ks := rfl
theorem atM_blockL (ks : List Nat) (p q : Nat) (hp : p < rankL ks) (hq : q < rankL ks) : atM (blockL ks) (rankL ks) p q = blockE ks p q := by
  unfold atM blockL
  have h1 : p * rankL ks + q < rankL ks * rankL ks := by
    have : (p + 1) * rankL ks ≤ rankL ks * rankL ks := Nat.mul_le_mul_right _ hp
    rw [Nat.add_mul, Nat.one_mul] at this
    omega
  have h2 : (p * rankL ks + q) / rankL ks = p := by
    rw [Nat.add_comm, Nat.add_mul_div_right _ _ (by omega), Nat.div_eq_of_lt hq, Nat.zero_add]
  have h3 : (p * rankL ks + q) % rankL ks = q := by rw [Nat.add_comm, Nat.add_mul_mod_self_right, Nat.mod_eq_of_lt hq]
  simp [List.getD_eq_getElem?_getD, h1, h2, h3]

/-- rows of the matrix, in some order, make blocks of types, in whatever order -/
def Typed (xs : List Int) (r : Nat) : Prop := ∃ ks s, (∀ k ∈ ks, k < 12) ∧ rankL ks = r ∧ Perm r s ∧ Match xs r s (blockE ks)

/-! finite facts -/
def seqsL : Nat → Nat → List (List Nat)
  | 0, _ => []
  | f + 1, rank => if rank = 0 then [[]] else (List.range 12).flatMap fun k => if rank < pRank k then [] else (seqsL f (rank - pRank k)).map (k :: ·)
def permsL : Nat → List (List Nat)
  | 0 => [[]]
  | n + 1 => (permsL n).flatMap fun s => (List.range (n + 1)).map fun i => s.take i ++ n :: s.drop i
theorem pRank_pos : ∀ k, k < 12 → 1 ≤ pRank k ∧ pRank k ≤ 4 := by decide
theorem mem_seqs : ∀ (f : Nat) (ks : List Nat), (∀ k ∈ ks, k < 12) → rankL ks < f → ks ∈ seqsL f (rankL ks)
  | 0, _, _, h => by omega
  | f + 1, [], _, _ => by simp [seqsL, rankL]
  | f + 1, k :: ks, hk, h => by
    rw [rankL_cons] at h ⊢
    have h1 := pRank_pos k (hk k (by simp))
    have ih := mem_seqs f ks (fun a ha => hk a (by simp [ha])) (by omega)
    unfold seqsL
    rw [if_neg (by omega)]
    simp only [List.mem_flatMap, List.mem_range]
    refine ⟨k, hk k (by simp), ?_⟩
    rw [if_neg (by omega), show pRank k + rankL ks - pRank k = rankL ks by omega]
    exact List.mem_map.2 ⟨ks, ih, rfl⟩
theorem types_ok : ∀ r, r < 5 → ∀ ks ∈ typesL 5 r 0, (∀ k ∈ ks, k < 12) ∧ rankL ks = r := by decide +kernel
/-- blocks in whatever order can be put into the order of the types' list -/
def sortB (r : Nat) (ks : List Nat) : Bool := (typesL 5 r 0).any fun ks' => (permsL r).any fun t => (List.range r).all fun p => (List.range r).all fun q => blockE ks (t.getD p 0) (t.getD q 0) == blockE ks' p q
theorem permsL_ok : ∀ r, r < 5 → ∀ t ∈ permsL r, t.length = r ∧ t.Nodup ∧ ∀ a ∈ t, a < r := by decide +kernel
theorem sortB_ok : ∀ r, r < 5 → 1 ≤ r → ∀ ks ∈ seqsL 5 r, sortB r ks = true := by decide +kernel
theorem blocks_sorted {r : Nat} (h1 : r < 5) (h2 : 1 ≤ r) {ks : List Nat} (hk : ks ∈ seqsL 5 r) : ∃ ks' ∈ typesL 5 r 0, ∃ t, Perm r t ∧ ∀ p q, p < r → q < r → blockE ks (t.getD p 0) (t.getD q 0) = blockE ks' p q := by
  have h := sortB_ok r h1 h2 ks hk
  simp only [sortB, List.any_eq_true, List.all_eq_true, List.mem_range, beq_iff_eq] at h
  obtain ⟨ks', hk', t, ht, hm⟩ := h
  exact ⟨ks', hk', t, permsL_ok r h1 t ht, fun p q hp hq => hm p hp q hq⟩

theorem getD_lt_of {r : Nat} {s : List Nat} (h : ∀ a ∈ s, a < r) {p : Nat} (hp : p < s.length) : s.getD p 0 < r := by
  rw [List.getD_eq_getElem?_getD, List.getElem?_eq_getElem hp]
  exact h _ (List.getElem_mem hp)
theorem nodup_map_getD {s : List Nat} (hs : s.Nodup) : ∀ (t : List Nat), t.Nodup → (∀ a ∈ t, a < s.length) → (t.map fun a => s.getD a 0).Nodup
  | [], _, _ => by simp
  | a :: t, hd, hl => by
    rw [List.nodup_cons] at hd
    rw [List.map_cons, List.nodup_cons]
    refine ⟨?_, nodup_map_getD hs t hd.2 fun b hb => hl b (by simp [hb])⟩
    intro hm
    obtain ⟨b, hb, e⟩ := List.mem_map.1 hm
    have ha := hl a (by simp)
    have hb' := hl b (by simp [hb])
    have : b = a := by
      simp only [List.getD_eq_getElem?_getD, List.getElem?_eq_getElem ha, List.getElem?_eq_getElem hb', Option.getD_some] at e
      exact (List.getElem_inj hs).1 e
    subst this
    exact hd.1 hb
/-- an order of an order -/
theorem Perm.comp {r : Nat} {s t : List Nat} (hs : Perm r s) (ht : Perm r t) : Perm r (t.map fun a => s.getD a 0) := by
  refine ⟨by rw [List.length_map, ht.1], nodup_map_getD hs.2.1 t ht.2.1 (by rw [hs.1]; exact ht.2.2), fun a ha => ?_⟩
  obtain ⟨b, hb, rfl⟩ := List.mem_map.1 ha
  exact getD_lt_of hs.2.2 (by rw [hs.1]; exact ht.2.2 b hb)
theorem getD_map (t s : List Nat) (p : Nat) (hp : p < t.length) : (t.map fun a => s.getD a 0).getD p 0 = s.getD (t.getD p 0) 0 := by
  simp [List.getD_eq_getElem?_getD, hp]
theorem typeB_of_typed {xs : List Int} {r : Nat} (h1 : 1 ≤ r) (h2 : r ≤ 4) (h : Typed xs r) : ∃ ks ∈ typesL 5 r 0, reordB xs r (blockL ks) = true := by
  obtain ⟨ks, s, hk, hr, hs, hm⟩ := h
  have hk' := mem_seqs 5 ks hk (by omega)
  rw [hr] at hk'
  obtain ⟨ks', hk2, t, ht, he⟩ := blocks_sorted (by omega) h1 hk'
  refine ⟨ks', hk2, reordB_iff.2 ⟨_, hs.comp ht, fun p q hp hq => ?_⟩⟩
  have hr' := (types_ok r (by omega) ks' hk2).2
  rw [List.length_map, ht.1] at hp hq
  rw [getD_map _ _ _ (by rw [ht.1]; exact hp), getD_map _ _ _ (by rw [ht.1]; exact hq)]
  rw [hm _ _ (by rw [hs.1]; exact getD_lt_of ht.2.2 (by rw [ht.1]; exact hp)) (by rw [hs.1]; exact getD_lt_of ht.2.2 (by rw [ht.1]; exact hq)), he p q hp hq]
  have := atM_blockL ks' p q (by omega) (by omega)
  rw [hr'] at this
  exact this.symm
theorem typed_of_typeB {xs : List Int} {r : Nat} (h2 : r ≤ 4) {ks : List Nat} (hk : ks ∈ typesL 5 r 0) (h : reordB xs r (blockL ks) = true) : Typed xs r := by
  obtain ⟨s, hs, hm⟩ := reordB_iff.1 h
  obtain ⟨h3, h4⟩ := types_ok r (by omega) ks hk
  refine ⟨ks, s, h3, h4, hs, fun p q hp hq => ?_⟩
  rw [hm p q hp hq]
  have := atM_blockL ks p q (by have := hs.1; omega) (by have := hs.1; omega)
  rw [h4] at this
  exact this

/-! ### the reference finds them -/
/-- a matrix in an order of rows, made -/
def madeL (r : Nat) (ks s : List Nat) : List Int := (List.range (r * r)).map fun m => blockE ks (s.idxOf (m / r)) (s.idxOf (m % r))
def okB (r : Nat) : Bool := (typesL 5 r 0).all fun ks => (permsL r).all fun s => partsB r (madeL r ks s)
theorem okB_all : ∀ r, r < 5 → 1 ≤ r → okB r = true := by decide +kernel
def tuples : Nat → Nat → List (List Nat)
  | 0, _ => [[]]
  | n + 1, r => (List.range r).flatMap fun a => (tuples n r).map (a :: ·)
theorem perms_all : ∀ r, r < 5 → ∀ s ∈ tuples r r, s.Nodup → s ∈ permsL r := by decide +kernel
theorem mem_tuples : ∀ (n r : Nat) (s : List Nat), s.length = n → (∀ a ∈ s, a < r) → s ∈ tuples n r
  | 0, _, s, h, _ => by simp [List.eq_nil_of_length_eq_zero h, tuples]
  | n + 1, r, [], h, _ => by simp at h
  | n + 1, r, a :: s, h, hl => by
    simp only [tuples, List.mem_flatMap, List.mem_range, List.mem_map]
    exact ⟨a, hl a (by simp), s, mem_tuples n r s (by simpa using h) (fun b hb => hl b (by simp [hb])), rfl⟩
theorem perm_mem {r : Nat} (hr : r < 5) {s : List Nat} (h : Perm r s) : s ∈ permsL r := perms_all r hr s (mem_tuples r r s h.1 h.2.2) h.2.1
theorem perm_idx {r : Nat} (hr : r < 5) {s : List Nat} (h : Perm r s) : ∀ a, a < r → s.idxOf a < r ∧ s.getD (s.idxOf a) 0 = a := by
  have key : ∀ r, r < 5 → ∀ s ∈ permsL r, ∀ a, a < r → s.idxOf a < r ∧ s.getD (s.idxOf a) 0 = a := by decide +kernel
  exact key r hr s (perm_mem hr h)
theorem made_eq {xs : List Int} {r : Nat} (hr : r < 5) (hl : xs.length = r * r) {ks s : List Nat} (hs : Perm r s) (hm : Match xs r s (blockE ks)) : xs = madeL r ks s := by
  apply List.ext_getElem
  · simp [madeL, hl]
  · intro m h1 h2
    rw [hl] at h1
    have hr0 : 0 < r := by
      rcases Nat.eq_zero_or_pos r with rfl | h
      · omega
      · exact h
    have hp : m / r < r := by rw [Nat.div_lt_iff_lt_mul hr0]; exact h1
    have hq : m % r < r := Nat.mod_lt _ hr0
    obtain ⟨i1, i2⟩ := perm_idx hr hs _ hp
    obtain ⟨j1, j2⟩ := perm_idx hr hs _ hq
    have := hm _ _ (by rw [hs.1]; exact i1) (by rw [hs.1]; exact j1)
    rw [i2, j2] at this
    simp only [madeL, List.getElem_map, List.getElem_range]
    rw [← this]
    unfold atM
    rw [Nat.mul_comm, Nat.div_add_mod]
    simp [List.getD_eq_getElem?_getD, hl, h1]
theorem partsB_of_typed {xs : List Int} {r : Nat} (h1 : 1 ≤ r) (h2 : r ≤ 4) (hl : xs.length = r * r) (h : Typed xs r) : partsB r xs = true := by
  obtain ⟨ks, hk, h⟩ := typeB_of_typed h1 h2 h
  obtain ⟨s, hs, hm⟩ := reordB_iff.1 h
  obtain ⟨h3, h4⟩ := types_ok r (by omega) ks hk
  have := okB_all r (by omega) h1
  simp only [okB, List.all_eq_true] at this
  have hp := this ks hk s (perm_mem (by omega) hs)
  rw [← made_eq (by omega) hl hs (fun p q hp hq => by
    rw [hm p q hp hq]
    have := atM_blockL ks p q (by have := hs.1; omega) (by have := hs.1; omega)
    rw [h4] at this
    exact this)] at hp
  exact hp

/-! ### and nothing else -/
def bitAt (bits : List Bool) (r a b : Nat) : Bool := bits.getD (a * r + b) false
def apartB (bits : List Bool) (r : Nat) : List (List Nat) → Bool
  | [] => true
  | c :: cs => (c.all fun a => cs.flatten.all fun b => !bitAt bits r a b && !bitAt bits r b a && a != b) && apartB bits r cs
def compsB (bits : List Bool) (r : Nat) : Bool := decide ((partsGo bits r 5 0 []).flatten.length = r) && (partsGo bits r 5 0 []).flatten.all (fun a => decide (a < r)) && apartB bits r (partsGo bits r 5 0 [])
theorem comps1 : ∀ a : Bool, compsB [a] 1 = true := by decide +kernel
theorem comps2 : ∀ a b c : Bool, compsB [a, b, b, c] 2 = true := by decide +kernel
theorem comps3 : ∀ a b c d e f : Bool, compsB [a, b, c, b, d, e, c, e, f] 3 = true := by decide +kernel
theorem comps4 : ∀ a b c d e f g h i j : Bool, compsB [a, b, c, d, b, e, f, g, c, f, h, i, d, g, i, j] 4 = true := by decide +kernel
theorem comps_all {bits : List Bool} {r : Nat} (h1 : 1 ≤ r) (h2 : r ≤ 4) (hl : bits.length = r * r) (hs : ∀ i j, i < r → j < r → bitAt bits r i j = bitAt bits r j i) : compsB bits r = true := by
  obtain rfl | rfl | rfl | rfl : r = 1 ∨ r = 2 ∨ r = 3 ∨ r = 4 := by omega
  · match bits, hl with
    | [a], _ => exact comps1 a
  · match bits, hl with
    | [a, b, b', c], _ =>
      have h := hs 0 1 (by omega) (by omega)
      simp [bitAt] at h
      subst h
      exact comps2 _ _ _
  · match bits, hl with
    | [a, b, c, b', d, e, c', e', f], _ =>
      have h1 := hs 0 1 (by omega) (by omega)
      have h2 := hs 0 2 (by omega) (by omega)
      have h3 := hs 1 2 (by omega) (by omega)
      simp [bitAt] at h1 h2 h3
      subst h1 h2 h3
      exact comps3 _ _ _ _ _ _
  · match bits, hl with
    | [a, b, c, d, b', e, f, g, c', f', h, i, d', g', i', j], _ =>
      have h1 := hs 0 1 (by omega) (by omega)
      have h2 := hs 0 2 (by omega) (by omega)
      have h3 := hs 0 3 (by omega) (by omega)
      have h4 := hs 1 2 (by omega) (by omega)
      have h5 := hs 1 3 (by omega) (by omega)
      have h6 := hs 2 3 (by omega) (by omega)
      simp [bitAt] at h1 h2 h3 h4 h5 h6
      subst h1 h2 h3 h4 h5 h6
      exact comps4 _ _ _ _ _ _ _ _ _ _

theorem getD_app_l {α : Type} (u s : List α) (p : Nat) (d : α) (h : p < u.length) : (u ++ s).getD p d = u.getD p d := by simp [List.getD_eq_getElem?_getD, List.getElem?_append_left h]
theorem getD_app_r {α : Type} (u s : List α) (p : Nat) (d : α) (h : u.length ≤ p) : (u ++ s).getD p d = s.getD (p - u.length) d := by simp [List.getD_eq_getElem?_getD, List.getElem?_append_right h]
theorem getD_mem {s : List Nat} {p : Nat} (hp : p < s.length) : s.getD p 0 ∈ s := by
  rw [List.getD_eq_getElem?_getD, List.getElem?_eq_getElem hp]
  exact List.getElem_mem hp
theorem fit_of {xs : List Int} {r : Nat} {rows : List Nat} (h : fitAny xs r rows = true) : ∃ k u, k < 12 ∧ pRank k = u.length ∧ u.length = rows.length ∧ u.Nodup ∧ (∀ a ∈ u, a ∈ rows) ∧ Match xs r u fun p q => atM (pMat k) (pRank k) p q := by
  simp only [fitAny, List.any_eq_true, List.mem_range, Bool.and_eq_true, decide_eq_true_eq] at h
  obtain ⟨k, hk, h1, h2⟩ := h
  obtain ⟨full, g1, _, g3, g4, g5⟩ := searchB_sound _ _ h2
  exact ⟨k, full, hk, by rw [h1, g1], g1, g3 (by simp), g4 (by simp), match_of_chk g1 fun p hp hm => g5 p (by simp) hm⟩
theorem atM_zero {xs : List Int} {r a b : Nat} (h : bitAt (bitsOf xs) r a b = false) : atM xs r a b = 0 := by
  unfold bitAt bitsOf at h
  unfold atM
  simp only [List.getD_eq_getElem?_getD, List.getElem?_map] at h ⊢
  cases e : xs[a * r + b]? with
  | none => rfl
  | some x => rw [e] at h; simpa using h
theorem typed_parts {xs : List Int} {r : Nat} : ∀ (cs : List (List Nat)), apartB (bitsOf xs) r cs = true → (∀ c ∈ cs, fitAny xs r c = true) →
    ∃ ks s, (∀ k ∈ ks, k < 12) ∧ rankL ks = s.length ∧ s.length = cs.flatten.length ∧ s.Nodup ∧ (∀ a ∈ s, a ∈ cs.flatten) ∧ Match xs r s (blockE ks)
  | [], _, _ => ⟨[], [], by simp, rfl, rfl, by simp, by simp, fun p q hp _ => by simp at hp⟩
  | c :: cs, ha, hf => by
    simp only [apartB, Bool.and_eq_true, List.all_eq_true, Bool.not_eq_true', bne_iff_ne, ne_eq] at ha
    obtain ⟨ha, hb⟩ := ha
    obtain ⟨ks, s, h1, h2, h3, h4, h5, h6⟩ := typed_parts cs hb fun c hc => hf c (by simp [hc])
    obtain ⟨k, u, g1, g2, g3, g4, g5, g6⟩ := fit_of (hf c (by simp))
    refine ⟨k :: ks, u ++ s, ?_, ?_, ?_, ?_, ?_, ?_⟩
    · intro a hm
      simp only [List.mem_cons] at hm
      rcases hm with rfl | hm
      · exact g1
      · exact h1 a hm
    · rw [rankL_cons, h2, g2, List.length_append]
    · simp [h3, g3]
    · rw [List.nodup_append]
      exact ⟨g4, h4, fun a h b hb e => (ha a (g5 a h) b (h5 b hb)).2 e⟩
    · intro a hm
      simp only [List.mem_append] at hm
      rw [List.flatten_cons, List.mem_append]
      exact hm.imp (g5 a) (h5 a)
    · intro p q hp hq
      rw [List.length_append] at hp hq
      unfold blockE
      rw [g2]
      by_cases h7 : p < u.length
      · rw [if_pos h7, getD_app_l _ _ _ _ h7]
        by_cases h8 : q < u.length
        · rw [if_pos h8, getD_app_l _ _ _ _ h8, g6 p q h7 h8, g2]
        · rw [if_neg h8, getD_app_r _ _ _ _ (by omega)]
          exact atM_zero (ha _ (g5 _ (getD_mem h7)) _ (h5 _ (getD_mem (by omega)))).1.1
      · rw [if_neg h7, getD_app_r _ _ _ _ (by omega)]
        by_cases h8 : q < u.length
        · rw [if_pos h8, getD_app_l _ _ _ _ h8]
          exact atM_zero (ha _ (g5 _ (getD_mem h8)) _ (h5 _ (getD_mem (by omega)))).1.2
        · rw [if_neg h8, getD_app_r _ _ _ _ (by omega)]
          exact h6 _ _ (by omega) (by omega)
theorem bitAt_eq {xs : List Int} {r a b : Nat} : bitAt (bitsOf xs) r a b = decide (atM xs r a b ≠ 0) := by
  unfold bitAt bitsOf atM
  simp only [List.getD_eq_getElem?_getD, List.getElem?_map]
  cases xs[a * r + b]? with
  | none => rfl
  | some x => by_cases hx : x = 0 <;> simp [hx]
theorem typed_of_partsB {xs : List Int} {r : Nat} (h : partsB r xs = true) : 1 ≤ r ∧ r ≤ 4 ∧ xs.length = r * r ∧ Typed xs r := by
  simp only [partsB, Bool.and_eq_true, decide_eq_true_eq, List.all_eq_true, Int.toNat_natCast] at h
  obtain ⟨⟨⟨⟨h1, h2⟩, h3⟩, h4⟩, h5⟩ := h
  have hl : xs.length = r * r := by exact_mod_cast h3
  have h1' : 1 ≤ r := by omega
  have h2' : r ≤ 4 := by omega
  simp only [entryB, List.all_eq_true, List.mem_range, Bool.and_eq_true, Bool.or_eq_true, decide_eq_true_eq] at h4
  have nz : ∀ i j, i < r → j < r → atM xs r i j ≠ 0 → atM xs r j i ≠ 0 := by
    intro i j hi hj hz
    have hm : i * r + j < xs.length := by
      rw [hl]
      have : (i + 1) * r ≤ r * r := Nat.mul_le_mul_right _ hi
      rw [Nat.add_mul, Nat.one_mul] at this
      omega
    rcases (h4 _ hm).2 with h | h
    · exact absurd h hz
    · rw [show (i * r + j) / r = i by rw [Nat.add_comm, Nat.add_mul_div_right _ _ (by omega), Nat.div_eq_of_lt hj, Nat.zero_add], show (i * r + j) % r = j by rw [Nat.add_comm, Nat.add_mul_mod_self_right, Nat.mod_eq_of_lt hj]] at h
      exact h
  have hsym : ∀ i j, i < r → j < r → bitAt (bitsOf xs) r i j = bitAt (bitsOf xs) r j i := by
    intro i j hi hj
    rw [bitAt_eq, bitAt_eq]
    have a := nz i j hi hj
    have b := nz j i hj hi
    by_cases e : atM xs r i j = 0
    · by_cases e' : atM xs r j i = 0
      · simp [e, e']
      · exact absurd e (b e')
    · simp [e, a e]
  have hc := comps_all h1' h2' (by simp [bitsOf, hl]) hsym
  simp only [compsB, Bool.and_eq_true, decide_eq_true_eq, List.all_eq_true] at hc
  obtain ⟨⟨c1, c2⟩, c3⟩ := hc
  obtain ⟨ks, s, k1, k2, k3, k4, k5, k6⟩ := typed_parts _ c3 h5
  exact ⟨h1', h2', hl, ks, s, k1, by rw [k2, k3, c1], ⟨by rw [k3, c1], k4, fun a ha => c2 a (k5 a ha)⟩, k6⟩
/-- the program and the reference know the same Cartan matrices -/
theorem typeB_eq (r : Int) (xs : List Int) : typeB r xs = partsB r xs := by
  by_cases hr : 1 ≤ r ∧ r ≤ 4 ∧ (xs.length : Int) = r * r
  · obtain ⟨h1, h2, h3⟩ := hr
    obtain ⟨n, rfl⟩ : ∃ n : Nat, r = n := ⟨r.toNat, by omega⟩
    have hl : xs.length = n * n := by exact_mod_cast h3
    rw [Bool.eq_iff_iff]
    constructor
    · intro h
      simp only [typeB, Bool.and_eq_true, decide_eq_true_eq, List.any_eq_true, Int.toNat_natCast] at h
      obtain ⟨_, ks, hk, h⟩ := h
      exact partsB_of_typed (by omega) (by omega) hl (typed_of_typeB (by omega) hk h)
    · intro h
      obtain ⟨a1, a2, a3, a4⟩ := typed_of_partsB h
      obtain ⟨ks, hk, h⟩ := typeB_of_typed a1 a2 a4
      simp only [typeB, Bool.and_eq_true, decide_eq_true_eq, List.any_eq_true, Int.toNat_natCast]
      exact ⟨⟨⟨h1, h2⟩, h3⟩, ks, hk, h⟩
  · have : ∀ b : Bool, (decide (1 ≤ r ∧ r ≤ 4) && decide ((xs.length : Int) = r * r) && b) = false := by
      intro b
      by_cases h : 1 ≤ r ∧ r ≤ 4
      · have : ¬ (xs.length : Int) = r * r := fun e => hr ⟨h.1, h.2, e⟩
        simp [this]
      · simp [h]
    unfold typeB partsB
    rw [this, this, Bool.false_and]
end Go.Proofs.YtenlhfimdpcaoaaGreat

namespace Go.Proofs.YtenlhfimdpcaoaaGreat
open Go.RowKit

/-- a Cartan matrix's value -/
abbrev carV (r : Int) (a : Option Addr) (n c : Nat) : Value := .agg #[.int .i64 r, .slice a n c]
/-- the two cells of one in a variable of its own -/
structure CarAt (w : World) (b : Nat) (r : Int) (a : Option Addr) (n c : Nat) : Prop where
  c0 : w.cell? ⟨b, 0, none⟩ = some (.int .i64 r)
  c1 : w.cell? ⟨b, 1, none⟩ = some (.slice a n c)
theorem CarAt.below {w w' : World} {b : Nat} {r : Int} {a : Option Addr} {n c : Nat} (h : CarAt w b r a n c) (hb : Ext w w') : CarAt w' b r a n c :=
  have hl := World.block_lt_of_cell? w _ h.c0
  ⟨(hb.cell (p := ⟨b, 0, none⟩) hl).trans h.c0, (hb.cell (p := ⟨b, 1, none⟩) hl).trans h.c1⟩
theorem CarAt.new (w : World) (b : Nat) (hb : b = w.heap.size) (r : Int) (a : Option Addr) (n c : Nat) (E : TypeId) : CarAt (w.alloc (.cells #[.int .i64 r, .slice a n c] E)) b r a n c :=
  ⟨(cell_top _ _ _ _ _ hb).trans rfl, (cell_top _ _ _ _ _ hb).trans rfl⟩
end Go.Proofs.YtenlhfimdpcaoaaGreat
