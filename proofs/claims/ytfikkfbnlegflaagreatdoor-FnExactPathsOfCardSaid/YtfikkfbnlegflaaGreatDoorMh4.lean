/-
  The program's search for an order of rows.
  The matrix of a type of one part, by the program.
  Cartan matrices of one part, by the program: the names, an entry, the closures that write, the matrix.
  Slices of strings that a call owns; numbers as decimal text, as the reference writes them.
  Append of an owned slice's elements to another one, at a single operation.
  Paths put together by the program: copySteps, checked.
  Paths, plain: simple reflections, heights and their bounds, what lowering and raising give. No program in sight.
  What functions on paths give: a path in memory of its own, or none.
  Paths read by the program: isWeight, PathOk.
  Cartan matrices, plain: the matrices of types, in whatever order of rows; what the program's search and the reference's search find. No program in sight.
  The library's functions on slices of integers, for slices that read as lists: Contains, Index, Min, Equal.
-/
import Derived.Test.YtfikkfbnlegflaaGreatDoorMh3
import Derived.Deep.QuietTactic
import Derived.Lib.ItoaNum
import Derived.Lib.Join
import Derived.BigQuiet
import Derived.Deep.RegionHeld3
import Derived.Laws.EntriesVeiled
namespace Go.Proofs.YtfikkfbnlegflaaGreatDoor
open Go.RowKit

theorem IntsAt.cells {w : World} {b o n : Nat} {xs : List Int} (h : IntsAt w (some ⟨b, o, none⟩) n xs) : ∀ j, j < xs.length → w.cell? ⟨b, o + j, none⟩ = some (.int .i64 (xs.getD j 0)) :=
  fun j hj => h.atc j (by rw [← h.len]; exact hj)
theorem IntsAt.zero {w : World} {a : Option Addr} {n : Nat} {xs : List Int} (h : IntsAt w a n xs) (h0 : n = 0) : xs = [] := List.eq_nil_of_length_eq_zero (by rw [h.len, h0])

theorem containsI_any (a : Option Addr) (n c : Nat) (xs : List Int) (x : Int) (w : World) (h : IntsAt w a n xs) (hn : n ≤ 1000000000000) :
    Calls Tryz.prog 167 #[.slice a n c, .int .i64 x] w fun e w' => e = .returned (.bool (xs.contains x)) ∧ w' = w := by
  have hl := h.len
  rcases Nat.eq_zero_or_pos n with rfl | h0
  · rw [h.zero rfl]
    exact (Tryz.slices_Contains_int_empty a c x w)
  · obtain ⟨b, o, rfl, _⟩ := h.get 0 h0
    refine (Tryz.slices_Contains_int b o n c xs x w (by omega) (by omega) h.cells).mono fun e w' ⟨he, hw⟩ => ⟨?_, hw⟩
    rw [he, List.take_of_length_le (by omega)]
theorem indexI_any (a : Option Addr) (n c : Nat) (xs : List Int) (x : Int) (w : World) (h : IntsAt w a n xs) (hn : n ≤ 1000000000000) :
    Calls Tryz.prog 101 #[.slice a n c, .int .i64 x] w fun e w' => e = .returned (.int .i64 (Lib.idxOf xs x)) ∧ w' = w := by
  have hl := h.len
  rcases Nat.eq_zero_or_pos n with rfl | h0
  · rw [h.zero rfl]
    exact (Tryz.slices_Index_int_empty a c x w)
  · obtain ⟨b, o, rfl, _⟩ := h.get 0 h0
    refine (Tryz.slices_Index_int b o n c xs x w (by omega) (by omega) h.cells).mono fun e w' ⟨he, hw⟩ => ⟨?_, hw⟩
    rw [he, List.take_of_length_le (by omega)]
theorem minI_any (a : Option Addr) (n c : Nat) (xs : List Int) (w : World) (h : IntsAt w a n xs) (h0 : 0 < n) (hn : n ≤ 1000000000000) :
    Calls Tryz.prog 82 #[.slice a n c] w fun e w' => e = .returned (.int .i64 (Lib.minOf xs)) ∧ w' = w := by
  have hl := h.len
  obtain ⟨b, o, rfl, _⟩ := h.get 0 h0
  refine (Tryz.slices_Min_int b o n c xs w h0 (by omega) (by omega) h.cells).mono fun e w' ⟨he, hw⟩ => ⟨?_, hw⟩
  rw [he, List.take_of_length_le (by omega)]
theorem equalI_any (a a' : Option Addr) (n c n' c' : Nat) (xs ys : List Int) (w : World) (h : IntsAt w a n xs) (h' : IntsAt w a' n' ys) (hn : n ≤ 1000000000000) (hn' : n' ≤ 1000000000000) :
    Calls Tryz.prog 79 #[.slice a n c, .slice a' n' c'] w fun e w' => e = .returned (.bool (xs == ys)) ∧ ∃ m, w' = w.drewN m := by
  have hl := h.len
  have hl' := h'.len
  by_cases hnn : n = n'
  · subst hnn
    rcases Nat.eq_zero_or_pos n with rfl | h0
    · rw [h.zero rfl, h'.zero rfl]
      exact (Tryz.slices_Equal_int_empty a a' c 0 c' w (by omega)).mono fun e w' ⟨he, hw⟩ => ⟨he, 0, hw⟩
    · obtain ⟨b, o, rfl, _⟩ := h.get 0 h0
      obtain ⟨b', o', rfl, _⟩ := h'.get 0 h0
      refine (Tryz.slices_Equal_int b o n c b' o' n c' xs ys w (by omega) (by omega) (by omega) (by omega) h.cells h'.cells).mono fun e w' ⟨he, hw⟩ => ⟨?_, hw⟩
      rw [he, List.take_of_length_le (by omega), List.take_of_length_le (by omega)]
  · have hb : (xs == ys) = false := by
      rw [beq_eq_false_iff_ne]
      intro e
      rw [e] at hl
      omega
    rw [hb]
    exact (Tryz.slices_Equal_int_lens a a' n c n' c' w hnn).mono fun e w' ⟨he, hw⟩ => ⟨he, 0, hw⟩
end Go.Proofs.YtfikkfbnlegflaaGreatDoor

namespace Go.Proofs.YtfikkfbnlegflaaGreatDoor

/-- a search for a list of m candidates, one after the other -/
def searchB (cand : List Nat) (m : Nat) (chk : List Nat → Nat → Bool) : Nat → List Nat → Bool
  | 0, used => decide (used.length = m)
  | f + 1, used => decide (used.length = m) || cand.any fun i => !used.contains i && chk used i && searchB cand m chk f (used ++ [i])

structure Found (cand : List Nat) (m : Nat) (chk : List Nat → Nat → Bool) (used full : List Nat) : Prop where
  len : full.length = m
  pre : ∃ ext, full = used ++ ext
  nodup : used.Nodup → full.Nodup
  sub : (∀ a ∈ used, a ∈ cand) → ∀ a ∈ full, a ∈ cand
  ok : ∀ p, used.length ≤ p → p < m → chk (full.take p) (full.getD p 0) = true

theorem searchB_sound {cand : List Nat} {m : Nat} {chk : List Nat → Nat → Bool} : ∀ (f : Nat) (used : List Nat), searchB cand m chk f used = true → ∃ full, Found cand m chk used full
  | 0, used, h => by
    have h' : used.length = m := by simpa [searchB] using h
    exact ⟨used, h', ⟨[], by simp⟩, id, id, fun p h1 h2 => by omega⟩
  | f + 1, used, h => by
    simp only [searchB, Bool.or_eq_true, decide_eq_true_eq, List.any_eq_true, Bool.and_eq_true, Bool.not_eq_true', List.contains_eq_mem, decide_eq_false_iff_not] at h
    rcases h with h | ⟨i, hi, ⟨hn, hc⟩, hs⟩
    · exact ⟨used, h, ⟨[], by simp⟩, id, id, fun p h1 h2 => by omega⟩
    · obtain ⟨full, h1, ⟨ext, rfl⟩, h3, h4, h5⟩ := searchB_sound f _ hs
      refine ⟨_, h1, ⟨i :: ext, by simp⟩, fun hd => h3 ?_, fun hu => h4 ?_, fun p hp hm => ?_⟩
      · rw [List.nodup_append]
        exact ⟨hd, by simp, fun a ha b hb => by simp at hb; subst hb; rintro rfl; exact hn ha⟩
      · intro a ha
        simp only [List.mem_append, List.mem_singleton] at ha
        rcases ha with ha | rfl
        · exact hu a ha
        · exact hi
      · rcases Nat.eq_or_lt_of_le hp with rfl | hp
        · simp only [List.append_assoc, List.take_left', List.singleton_append]
          rw [show (used ++ i :: ext).getD used.length 0 = i by simp [List.getD_eq_getElem?_getD]]
          exact hc
        · exact h5 p (by simp; omega) hm

theorem searchB_complete {cand : List Nat} {m : Nat} {chk : List Nat → Nat → Bool} : ∀ (f : Nat) (used ext : List Nat), (used ++ ext).length = m → ext.length ≤ f → (used ++ ext).Nodup → (∀ a ∈ ext, a ∈ cand) →
    (∀ p, used.length ≤ p → p < m → chk ((used ++ ext).take p) ((used ++ ext).getD p 0) = true) → searchB cand m chk f used = true
  | 0, used, ext, hl, hf, _, _, _ => by
    have : ext = [] := List.eq_nil_of_length_eq_zero (by omega)
    subst this
    simpa [searchB] using hl
  | f + 1, used, [], hl, _, _, _, _ => by simp [searchB]; left; simpa using hl
  | f + 1, used, i :: ext, hl, hf, hd, hc, hk => by
    simp only [searchB, Bool.or_eq_true, decide_eq_true_eq, List.any_eq_true, Bool.and_eq_true, Bool.not_eq_true', List.contains_eq_mem, decide_eq_false_iff_not]
    right
    refine ⟨i, hc i (by simp), ⟨?_, ?_⟩, ?_⟩
    · intro hm
      rw [List.nodup_append] at hd
      exact hd.2.2 i hm i (by simp) rfl
    · have := hk used.length (Nat.le_refl _) (by rw [← hl]; simp)
      simp only [List.take_left'] at this
      rw [show (used ++ i :: ext).getD used.length 0 = i by simp [List.getD_eq_getElem?_getD]] at this
      exact this
    · refine searchB_complete f (used ++ [i]) ext (by simpa using hl) (by simp at hf; omega) (by simpa using hd) (fun a ha => hc a (by simp [ha])) fun p hp hm => ?_
      have := hk p (by simp at hp; omega) hm
      simpa using this

/-! ### types -/
def atM (xs : List Int) (r i j : Nat) : Int := xs.getD (i * r + j) 0
def pNames : List (List UInt8) := [[65, 49], [65, 50], [65, 51], [65, 52], [66, 50], [66, 51], [66, 52], [67, 51], [67, 52], [68, 52], [70, 52], [71, 50]]
def pRanks : List Nat := [1, 2, 3, 4, 2, 3, 4, 3, 4, 4, 4, 2]
def pRank (k : Nat) : Nat := pRanks.getD k 0
def pMats : List (List Int) := [
  [2],
  [2, -1, -1, 2],
  [2, -1, 0, -1, 2, -1, 0, -1, 2],
  [2, -1, 0, 0, -1, 2, -1, 0, 0, -1, 2, -1, 0, 0, -1, 2],
  [2, -1, -2, 2],
  [2, -1, 0, -1, 2, -1, 0, -2, 2],
  [2, -1, 0, 0, -1, 2, -1, 0, 0, -1, 2, -1, 0, 0, -2, 2],
  [2, -1, 0, -1, 2, -2, 0, -1, 2],
  [2, -1, 0, 0, -1, 2, -1, 0, 0, -1, 2, -2, 0, 0, -1, 2],
  [2, -1, 0, 0, -1, 2, -1, -1, 0, -1, 2, 0, 0, -1, 0, 2],
  [2, -1, 0, 0, -1, 2, -1, 0, 0, -2, 2, -1, 0, 0, -1, 2],
  [2, -3, -1, 2]]
def pMat (k : Nat) : List Int := pMats.getD k []

/-- the lists of parts in ascending order, from one on, whose ranks are together so much -/
def typesL : Nat → Nat → Nat → List (List Nat)
  | 0, _, _ => []
  | f + 1, rank, lo => if rank = 0 then [[]] else
      (List.range (12 - lo)).flatMap fun d => if rank < pRank (lo + d) then [] else (typesL f (rank - pRank (lo + d)) (lo + d)).map ((lo + d) :: ·)

/-- the number in row p and column q of the matrix with blocks one after the other -/
def blockE : List Nat → Nat → Nat → Int
  | [], _, _ => 0
  | k :: ks, p, q => if p < pRank k then (if q < pRank k then atM (pMat k) (pRank k) p q else 0) else if q < pRank k then 0 else blockE ks (p - pRank k) (q - pRank k)
def rankL (ks : List Nat) : Nat := (ks.map pRank).foldr (· + ·) 0
def blockL (ks : List Nat) : List Int := (List.range (rankL ks * rankL ks)).map fun m => blockE ks (m / rankL ks) (m % rankL ks)

/-- the program's test of one more row -/
def rowChk (xs : List Int) (r : Nat) (due : List Int) (dr : Nat) (used : List Nat) (i : Nat) : Bool :=
  (atM xs r i i == atM due dr used.length used.length) && (List.range used.length).all fun j => atM xs r i (used.getD j 0) == atM due dr used.length j && atM xs r (used.getD j 0) i == atM due dr j used.length
def reordB (xs : List Int) (r : Nat) (due : List Int) : Bool := searchB (List.range r) r (rowChk xs r due r) r []
def typeB (r : Int) (xs : List Int) : Bool := decide (1 ≤ r ∧ r ≤ 4) && decide ((xs.length : Int) = r * r) && (typesL 5 r.toNat 0).any fun ks => reordB xs r.toNat (blockL ks)

/-! ### the reference -/
/-- the rows that are connected with the rows in out, from place k and column j on -/
def partGo (bits : List Bool) (r : Nat) : Nat → Nat → Nat → List Nat → List Nat
  | 0, _, _, out => out
  | f + 1, k, j, out =>
    if k < out.length then
      if j < r then partGo bits r f k (j + 1) (if bits.getD (out.getD k 0 * r + j) false && !out.contains j then out ++ [j] else out)
      else partGo bits r f (k + 1) 0 out
    else out
def bitsOf (xs : List Int) : List Bool := xs.map fun x => x != 0
def partL (bits : List Bool) (r i : Nat) : List Nat := partGo bits r 64 0 0 [i]
def fitsB (xs : List Int) (r : Nat) (rows : List Nat) (k : Nat) : Bool := searchB rows rows.length (rowChk xs r (pMat k) (pRank k)) rows.length []
def fitAny (xs : List Int) (r : Nat) (rows : List Nat) : Bool := (List.range 12).any fun k => decide (pRank k = rows.length) && fitsB xs r rows k
/-- the parts from row i on -/
def partsGo (bits : List Bool) (r : Nat) : Nat → Nat → List Nat → List (List Nat)
  | 0, _, _ => []
  | f + 1, i, done => if i < r then (if done.contains i then partsGo bits r f (i + 1) done else partL bits r i :: partsGo bits r f (i + 1) (done ++ partL bits r i)) else []
def entryB (xs : List Int) (r : Nat) : Bool := (List.range xs.length).all fun m => decide (-3 ≤ xs.getD m 0 ∧ xs.getD m 0 ≤ 2) && (decide (xs.getD m 0 = 0) || decide (atM xs r (m % r) (m / r) ≠ 0))
def partsB (r : Int) (xs : List Int) : Bool := decide (1 ≤ r ∧ r ≤ 4) && decide ((xs.length : Int) = r * r) && entryB xs r.toNat && (partsGo (bitsOf xs) r.toNat 5 0 []).all fun rows => fitAny xs r.toNat rows

/-! ### the program's search finds the orders -/
/-- the rows s of a matrix make the matrix E -/
def Match (xs : List Int) (r : Nat) (s : List Nat) (E : Nat → Nat → Int) : Prop := ∀ p q, p < s.length → q < s.length → atM xs r (s.getD p 0) (s.getD q 0) = E p q

theorem getD_take {α : Type} (l : List α) (p j : Nat) (d : α) (h : j < p) : (l.take p).getD j d = l.getD j d := by simp [List.getD_eq_getElem?_getD, h]
theorem match_of_chk {xs due : List Int} {r dr m : Nat} {full : List Nat} (hl : full.length = m) (h : ∀ p, 0 ≤ p → p < m → rowChk xs r due dr (full.take p) (full.getD p 0) = true) : Match xs r full fun p q => atM due dr p q := by
  have key : ∀ p q, p < m → q < p → atM xs r (full.getD p 0) (full.getD q 0) = atM due dr p q ∧ atM xs r (full.getD q 0) (full.getD p 0) = atM due dr q p := by
    intro p q hp hq
    have := h p (Nat.zero_le _) hp
    simp only [rowChk, Bool.and_eq_true, beq_iff_eq, List.all_eq_true, List.mem_range] at this
    have hlt : (full.take p).length = p := by rw [List.length_take]; omega
    have h2 := this.2 q (by rw [hlt]; exact hq)
    rw [hlt, getD_take _ _ _ _ hq] at h2
    exact h2
  intro p q hp hq
  rw [hl] at hp hq
  rcases Nat.lt_trichotomy p q with h1 | rfl | h1
  · exact (key q p hq h1).2
  · have := h p (Nat.zero_le _) hp
    simp only [rowChk, Bool.and_eq_true, beq_iff_eq] at this
    have hlt : (full.take p).length = p := by rw [List.length_take]; omega
    rw [hlt] at this
    exact this.1
  · exact (key p q hp h1).1
theorem chk_of_match {xs due : List Int} {r dr m : Nat} {full : List Nat} (hl : full.length = m) (h : Match xs r full fun p q => atM due dr p q) (p : Nat) (hp : p < m) : rowChk xs r due dr (full.take p) (full.getD p 0) = true := by
  have hlt : (full.take p).length = p := by rw [List.length_take]; omega
  simp only [rowChk, Bool.and_eq_true, beq_iff_eq, List.all_eq_true, List.mem_range]
  rw [hlt]
  refine ⟨h p p (by omega) (by omega), fun j hj => ?_⟩
  rw [getD_take _ _ _ _ hj]
  exact ⟨h p j (by omega) (by omega), h j p (by omega) (by omega)⟩

/-- an order of the rows -/
def Perm (r : Nat) (s : List Nat) : Prop := s.length = r ∧ s.Nodup ∧ ∀ a ∈ s, a < r
theorem reordB_iff {xs due : List Int} {r : Nat} : reordB xs r due = true ↔ ∃ s, Perm r s ∧ Match xs r s fun p q => atM due r p q := by
  constructor
  · intro h
    obtain ⟨full, h1, _, h3, h4, h5⟩ := searchB_sound _ _ h
    exact ⟨full, ⟨h1, h3 (by simp), fun a ha => List.mem_range.1 (h4 (by simp) a ha)⟩, match_of_chk h1 fun p hp hm => h5 p (by simp) hm⟩
  · rintro ⟨s, ⟨h1, h2, h3⟩, hm⟩
    refine searchB_complete r [] s (by simpa using h1) (by omega) (by simpa using h2) (fun a ha => List.mem_range.2 (h3 a ha)) fun p _ hp => ?_
    simpa using chk_of_match h1 hm p hp

theorem rankL_cons (k : Nat) (ks : List Nat) : rankL (k :: ks) = pRank k + rankL ks := rfl
theorem atM_blockL (ks : List Nat) (p q : Nat) (hp : p < rankL ks) (hq : q < rankL ks) : atM (blockL ks) (rankL ks) p q = blockE ks p q := by
  unfold atM blockL
  have h1 : p * rankL ks + q < rankL ks * rankL ks := by
    have : (p + 1) * rankL ks ≤ rankL ks * rankL ks := Nat.mul_le_mul_right _ hp
    rw [Nat.add_mul, Nat.one_mul] at this
    omega
  have h2 : (p * rankL ks + q) / rankL ks = p := by
    rw [Nat.add_comm, Nat.add_mul_div_right _ _ (by omega), Nat.div_eq_of_lt hq, Nat.zero_add]
  have h3 : (p * rankL ks + q) % rankL ks = q := by rw [Nat.add_comm, Nat.add_mul_mod_self_right, Nat.mod_eq_of_lt hq]
  simp [List.getD_eq_getElem?_getD, h1, h2, h3]

/-- rows of the matrix, in some order, make blocks of types, in whatever order -/
def Typed (xs : List Int) (r : Nat) : Prop := ∃ ks s, (∀ k ∈ ks, k < 12) ∧ rankL ks = r ∧ Perm r s ∧ Match xs r s (blockE ks)

/-! finite facts -/
def seqsL : Nat → Nat → List (List Nat)
  | 0, _ => []
  | f + 1, rank => if rank = 0 then [[]] else (List.range 12).flatMap fun k => if rank < pRank k then [] else (seqsL f (rank - pRank k)).map (k :: ·)
def permsL : Nat → List (List Nat)
  | 0 => [[]]
  | n + 1 => (permsL n).flatMap fun s => (List.range (n + 1)).map fun i => s.take i ++ n :: s.drop i
theorem pRank_pos : ∀ k, k < 12 → 1 ≤ pRank k ∧ pRank k ≤ 4 := by decide
theorem mem_seqs : ∀ (f : Nat) (ks : List Nat), (∀ k ∈ ks, k < 12) → rankL ks < f → ks ∈ seqsL f (rankL ks)
  | 0, _, _, h => by omega
  | f + 1, [], _, _ => by simp [seqsL, rankL]
  | f + 1, k :: ks, hk, h => by
    rw [rankL_cons] at h ⊢
    have h1 := pRank_pos k (hk k (by simp))
    have ih := mem_seqs f ks (fun a ha => hk a (by simp [ha])) (by omega)
    unfold seqsL
    rw [if_neg (by omega)]
    simp only [List.mem_flatMap, List.mem_range]
    refine ⟨k, hk k (by simp), ?_⟩
    rw [if_neg (by omega), show pRank k + rankL ks - pRank k = rankL ks by omega]
    exact List.mem_map.2 ⟨ks, ih, rfl⟩
theorem types_ok : ∀ r, r < 5 → ∀ ks ∈ typesL 5 r 0, (∀ k ∈ ks, k < 12) ∧ rankL ks = r := by decide +kernel
/-- blocks in whatever order can be put into the order of the types' list -/
def sortB (r : Nat) (ks : List Nat) : Bool := (typesL 5 r 0).any fun ks' => (permsL r).any fun t => (List.range r).all fun p => (List.range r).all fun q => blockE ks (t.getD p 0) (t.getD q 0) == blockE ks' p q
theorem permsL_ok : ∀ r, r < 5 → ∀ t ∈ permsL r, t.length = r ∧ t.Nodup ∧ ∀ a ∈ t, a < r := by decide +kernel
theorem sortB_ok : ∀ r, r < 5 → 1 ≤ r → ∀ ks ∈ seqsL 5 r, sortB r ks = true := by decide +kernel
theorem blocks_sorted {r : Nat} (h1 : r < 5) (h2 : 1 ≤ r) {ks : List Nat} (hk : ks ∈ seqsL 5 r) : ∃ ks' ∈ typesL 5 r 0, ∃ t, Perm r t ∧ ∀ p q, p < r → q < r → blockE ks (t.getD p 0) (t.getD q 0) = blockE ks' p q := by
  have h := sortB_ok r h1 h2 ks hk
  simp only [sortB, List.any_eq_true, List.all_eq_true, List.mem_range, beq_iff_eq] at h
  obtain ⟨ks', hk', t, ht, hm⟩ := h
  exact ⟨ks', hk', t, permsL_ok r h1 t ht, fun p q hp hq => hm p hp q hq⟩

theorem getD_lt_of {r : Nat} {s : List Nat} (h : ∀ a ∈ s, a < r) {p : Nat} (hp : p < s.length) : s.getD p 0 < r := by
  rw [List.getD_eq_getElem?_getD, List.getElem?_eq_getElem hp]
  exact h _ (List.getElem_mem hp)
theorem nodup_map_getD {s : List Nat} (hs : s.Nodup) : ∀ (t : List Nat), t.Nodup → (∀ a ∈ t, a < s.length) → (t.map fun a => s.getD a 0).Nodup
  | [], _, _ => by simp
  | a :: t, hd, hl => by
    rw [List.nodup_cons] at hd
    rw [List.map_cons, List.nodup_cons]
    refine ⟨?_, nodup_map_getD hs t hd.2 fun b hb => hl b (by simp [hb])⟩
    intro hm
    obtain ⟨b, hb, e⟩ := List.mem_map.1 hm
    have ha := hl a (by simp)
    have hb' := hl b (by simp [hb])
    have : b = a := by
      simp only [List.getD_eq_getElem?_getD, List.getElem?_eq_getElem ha, List.getElem?_eq_getElem hb', Option.getD_some] at e
      exact (List.getElem_inj hs).1 e
    subst this
    exact hd.1 hb
/-- an order of an order -/
theorem Perm.comp {r : Nat} {s t : List Nat} (hs : Perm r s) (ht : Perm r t) : Perm r (t.map fun a => s.getD a 0) := by
  refine ⟨by rw [List.length_map, ht.1], nodup_map_getD hs.2.1 t ht.2.1 (by rw [hs.1]; exact ht.2.2), fun a ha => ?_⟩
  obtain ⟨b, hb, rfl⟩ := List.mem_map.1 ha
  exact getD_lt_of hs.2.2 (by rw [hs.1]; exact ht.2.2 b hb)
theorem getD_map (t s : List Nat) (p : Nat) (hp : p < t.length) : (t.map fun a => s.getD a 0).getD p 0 = s.getD (t.getD p 0) 0 := by
  simp [List.getD_eq_getElem?_getD, hp]
theorem typeB_of_typed {xs : List Int} {r : Nat} (h1 : 1 ≤ r) (h2 : r ≤ 4) (h : Typed xs r) : ∃ ks ∈ typesL 5 r 0, reordB xs r (blockL ks) = true := by
  obtain ⟨ks, s, hk, hr, hs, hm⟩ := h
  have hk' := mem_seqs 5 ks hk (by omega)
  rw [hr] at hk'
  obtain ⟨ks', hk2, t, ht, he⟩ := blocks_sorted (by omega) h1 hk'
  refine ⟨ks', hk2, reordB_iff.2 ⟨_, hs.comp ht, fun p q hp hq => ?_⟩⟩
  have hr' := (types_ok r (by omega) ks' hk2).2
  rw [List.length_map, ht.1] at hp hq
  rw [getD_map _ _ _ (by rw [ht.1]; exact hp), getD_map _ _ _ (by rw [ht.1]; exact hq)]
  rw [hm _ _ (by rw [hs.1]; exact getD_lt_of ht.2.2 (by rw [ht.1]; exact hp)) (by rw [hs.1]; exact getD_lt_of ht.2.2 (by rw [ht.1]; exact hq)), he p q hp hq]
  have := atM_blockL ks' p q (by omega) (by omega)
  rw [hr'] at this
  exact this.symm
theorem typed_of_typeB {xs : List Int} {r : Nat} (h2 : r ≤ 4) {ks : List Nat} (hk : ks ∈ typesL 5 r 0) (h : reordB xs r (blockL ks) = true) : Typed xs r := by
  obtain ⟨s, hs, hm⟩ := reordB_iff.1 h
  obtain ⟨h3, h4⟩ := types_ok r (by omega) ks hk
  refine ⟨ks, s, h3, h4, hs, fun p q hp hq => ?_⟩
  rw [hm p q hp hq]
  have := atM_blockL ks p q (by have := hs.1; omega) (by have := hs.1; omega)
  rw [h4] at this
  exact this

/-! ### the reference finds them -/
/-- a matrix in an order of rows, made -/
def madeL (r : Nat) (ks s : List Nat) : List Int := (List.range (r * r)).map fun m => blockE ks (s.idxOf (m / r)) (s.idxOf (m % r))
def okB (r : Nat) : Bool := (typesL 5 r 0).all fun ks => (permsL r).all fun s => partsB r (madeL r ks s)
theorem okB_all : ∀ r, r < 5 → 1 ≤ r → okB r = true := by decide +kernel
def tuples : Nat → Nat → List (List Nat)
  | 0, _ => [[]]
  | n + 1, r => (List.range r).flatMap fun a => (tuples n r).map (a :: ·)
theorem perms_all : ∀ r, r < 5 → ∀ s ∈ tuples r r, s.Nodup → s ∈ permsL r := by decide +kernel
theorem mem_tuples : ∀ (n r : Nat) (s : List Nat), s.length = n → (∀ a ∈ s, a < r) → s ∈ tuples n r
  | 0, _, s, h, _ => by simp [List.eq_nil_of_length_eq_zero h, tuples]
  | n + 1, r, [], h, _ => by simp at h
  | n + 1, r, a :: s, h, hl => by
    simp only [tuples, List.mem_flatMap, List.mem_range, List.mem_map]
    exact ⟨a, hl a (by simp), s, mem_tuples n r s (by simpa using h) (fun b hb => hl b (by simp [hb])), rfl⟩
theorem perm_mem {r : Nat} (hr : r < 5) {s : List Nat} (h : Perm r s) : s ∈ permsL r := perms_all r hr s (mem_tuples r r s h.1 h.2.2) h.2.1
theorem perm_idx {r : Nat} (hr : r < 5) {s : List Nat} (h : Perm r s) : ∀ a, a < r → s.idxOf a < r ∧ s.getD (s.idxOf a) 0 = a := by
  have key : ∀ r, r < 5 → ∀ s ∈ permsL r, ∀ a, a < r → s.idxOf a < r ∧ s.getD (s.idxOf a) 0 = a := by decide +kernel
  exact key r hr s (perm_mem hr h)
theorem made_eq {xs : List Int} {r : Nat} (hr : r < 5) (hl : xs.length = r * r) {ks s : List Nat} (hs : Perm r s) (hm : Match xs r s (blockE ks)) : xs = madeL r ks s := by
  apply List.ext_getElem
  · simp [madeL, hl]
  · intro m h1 h2
    rw [hl] at h1
    have hr0 : 0 < r := by
      rcases Nat.eq_zero_or_pos r with rfl | h
      · omega
      · exact h
    have hp : m / r < r := by rw [Nat.div_lt_iff_lt_mul hr0]; exact h1
    have hq : m % r < r := Nat.mod_lt _ hr0
    obtain ⟨i1, i2⟩ := perm_idx hr hs _ hp
    obtain ⟨j1, j2⟩ := perm_idx hr hs _ hq
    have := hm _ _ (by rw [hs.1]; exact i1) (by rw [hs.1]; exact j1)
    rw [i2, j2] at this
    simp only [madeL, List.getElem_map, List.getElem_range]
    rw [← this]
    unfold atM
    rw [Nat.mul_comm, Nat.div_add_mod]
    simp [List.getD_eq_getElem?_getD, hl, h1]
theorem partsB_of_typed {xs : List Int} {r : Nat} (h1 : 1 ≤ r) (h2 : r ≤ 4) (hl : xs.length = r * r) (h : Typed xs r) : partsB r xs = true := by
  obtain ⟨ks, hk, h⟩ := typeB_of_typed h1 h2 h
  obtain ⟨s, hs, hm⟩ := reordB_iff.1 h
  obtain ⟨h3, h4⟩ := types_ok r (by omega) ks hk
  have := okB_all r (by omega) h1
  simp only [okB, List.all_eq_true] at this
  have hp := this ks hk s (perm_mem (by omega) hs)
  rw [← made_eq (by omega) hl hs (fun p q hp hq => by
    rw [hm p q hp hq]
    have := atM_blockL ks p q (by have := hs.1; omega) (by have := hs.1; omega)
    rw [h4] at this
    exact this)] at hp
  exact hp

/-! ### and nothing else -/
def bitAt (bits : List Bool) (r a b : Nat) : Bool := bits.getD (a * r + b) false
def apartB (bits : List Bool) (r : Nat) : List (List Nat) → Bool
  | [] => true
  | c :: cs => (c.all fun a => cs.flatten.all fun b => !bitAt bits r a b && !bitAt bits r b a && a != b) && apartB bits r cs
def compsB (bits : List Bool) (r : Nat) : Bool := decide ((partsGo bits r 5 0 []).flatten.length = r) && (partsGo bits r 5 0 []).flatten.all (fun a => decide (a < r)) && apartB bits r (partsGo bits r 5 0 [])
theorem comps1 : ∀ a : Bool, compsB [a] 1 = true := by decide +kernel
theorem comps2 : ∀ a b c : Bool, compsB [a, b, b, c] 2 = true := by decide +kernel
theorem comps3 : ∀ a b c d e f : Bool, compsB [a, b, c, b, d, e, c, e, f] 3 = true := by decide +kernel
theorem comps4 : ∀ a b c d e f g h i j : Bool, compsB [a, b, c, d, b, e, f, g, c, f, h, i, d, g, i, j] 4 = true := by decide +kernel
theorem comps_all {bits : List Bool} {r : Nat} (h1 : 1 ≤ r) (h2 : r ≤ 4) (hl : bits.length = r * r) (hs : ∀ i j, i < r → j < r → bitAt bits r i j = bitAt bits r j i) : compsB bits r = true := by
  obtain rfl | rfl | rfl | rfl : r = 1 ∨ r = 2 ∨ r = 3 ∨ r = 4 := by omega
  · match bits, hl with
    | [a], _ => exact comps1 a
  · match bits, hl with
    | [a, b, b', c], _ =>
      have h := hs 0 1 (by omega) (by omega)
      simp [bitAt] at h
      subst h
      exact comps2 _ _ _
  · match bits, hl with
    | [a, b, c, b', d, e, c', e', f], _ =>
      have h1 := hs 0 1 (by omega) (by omega)
      have h2 := hs 0 2 (by omega) (by omega)
      have h3 := hs 1 2 (by omega) (by omega)
      simp [bitAt] at h1 h2 h3
      subst h1 h2 h3
      exact comps3 _ _ _ _ _ _
  · match bits, hl with
    | [a, b, c, d, b', e, f, g, c', f', h, i, d', g', i', j], _ =>
      have h1 := hs 0 1 (by omega) (by omega)
      have h2 := hs 0 2 (by omega) (by omega)
      have h3 := hs 0 3 (by omega) (by omega)
      have h4 := hs 1 2 (by omega) (by omega)
      have h5 := hs 1 3 (by omega) (by omega)
      have h6 := hs 2 3 (by omega) (by omega)
      simp [bitAt] at h1 h2 h3 h4 h5 h6
      subst h1 h2 h3 h4 h5 h6
      exact comps4 _ _ _ _ _ _ _ _ _ _

theorem getD_app_l {α : Type} (u s : List α) (p : Nat) (d : α) (h : p < u.length) : (u ++ s).getD p d = u.getD p d := by simp [List.getD_eq_getElem?_getD, List.getElem?_append_left h]
theorem getD_app_r {α : Type} (u s : List α) (p : Nat) (d : α) (h : u.length ≤ p) : (u ++ s).getD p d = s.getD (p - u.length) d := by simp [List.getD_eq_getElem?_getD, List.getElem?_append_right h]
theorem getD_mem {s : List Nat} {p : Nat} (hp : p < s.length) : s.getD p 0 ∈ s := by
  rw [List.getD_eq_getElem?_getD, List.getElem?_eq_getElem hp]
  exact List.getElem_mem hp
theorem fit_of {xs : List Int} {r : Nat} {rows : List Nat} (h : fitAny xs r rows = true) : ∃ k u, k < 12 ∧ pRank k = u.length ∧ u.length = rows.length ∧ u.Nodup ∧ (∀ a ∈ u, a ∈ rows) ∧ Match xs r u fun p q => atM (pMat k) (pRank k) p q := by
  simp only [fitAny, List.any_eq_true, List.mem_range, Bool.and_eq_true, decide_eq_true_eq] at h
  obtain ⟨k, hk, h1, h2⟩ := h
  obtain ⟨full, g1, _, g3, g4, g5⟩ := searchB_sound _ _ h2
  exact ⟨k, full, hk, by rw [h1, g1], g1, g3 (by simp), g4 (by simp), match_of_chk g1 fun p hp hm => g5 p (by simp) hm⟩
theorem atM_zero {xs : List Int} {r a b : Nat} (h : bitAt (bitsOf xs) r a b = false) : atM xs r a b = 0 := by
  unfold bitAt bitsOf at h
  unfold atM
  simp only [List.getD_eq_getElem?_getD, List.getElem?_map] at h ⊢
  cases e : xs[a * r + b]? with
  | none => rfl
  | some x => rw [e] at h; simpa using h
theorem typed_parts {xs : List Int} {r : Nat} : ∀ (cs : List (List Nat)), apartB (bitsOf xs) r cs = true → (∀ c ∈ cs, fitAny xs r c = true) →
    ∃ ks s, (∀ k ∈ ks, k < 12) ∧ rankL ks = s.length ∧ s.length = cs.flatten.length ∧ s.Nodup ∧ (∀ a ∈ s, a ∈ cs.flatten) ∧ Match xs r s (blockE ks)
  | [], _, _ => ⟨[], [], by simp, rfl, rfl, by simp, by simp, fun p q hp _ => by simp at hp⟩
  | c :: cs, ha, hf => by
    simp only [apartB, Bool.and_eq_true, List.all_eq_true, Bool.not_eq_true', bne_iff_ne, ne_eq] at ha
    obtain ⟨ha, hb⟩ := ha
    obtain ⟨ks, s, h1, h2, h3, h4, h5, h6⟩ := typed_parts cs hb fun c hc => hf c (by simp [hc])
    obtain ⟨k, u, g1, g2, g3, g4, g5, g6⟩ := fit_of (hf c (by simp))
    refine ⟨k :: ks, u ++ s, ?_, ?_, ?_, ?_, ?_, ?_⟩
    · intro a hm
      simp only [List.mem_cons] at hm
      rcases hm with rfl | hm
      · exact g1
      · exact h1 a hm
    · rw [rankL_cons, h2, g2, List.length_append]
    · simp [h3, g3]
    · rw [List.nodup_append]
      exact ⟨g4, h4, fun a h b hb e => (ha a (g5 a h) b (h5 b hb)).2 e⟩
    · intro a hm
      simp only [List.mem_append] at hm
      rw [List.flatten_cons, List.mem_append]
      exact hm.imp (g5 a) (h5 a)
    · intro p q hp hq
      rw [List.length_append] at hp hq
      unfold blockE
      rw [g2]
      by_cases h7 : p < u.length
      · rw [if_pos h7, getD_app_l _ _ _ _ h7]
        by_cases h8 : q < u.length
        · rw [if_pos h8, getD_app_l _ _ _ _ h8, g6 p q h7 h8, g2]
        · rw [if_neg h8, getD_app_r _ _ _ _ (by omega)]
          exact atM_zero (ha _ (g5 _ (getD_mem h7)) _ (h5 _ (getD_mem (by omega)))).1.1
      · rw [if_neg h7, getD_app_r _ _ _ _ (by omega)]
        by_cases h8 : q < u.length
        · rw [if_pos h8, getD_app_l _ _ _ _ h8]
          exact atM_zero (ha _ (g5 _ (getD_mem h8)) _ (h5 _ (getD_mem (by omega)))).1.2
        · rw [if_neg h8, getD_app_r _ _ _ _ (by omega)]
          exact h6 _ _ (by omega) (by omega)
theorem bitAt_eq {xs : List Int} {r a b : Nat} : bitAt (bitsOf xs) r a b = decide (atM xs r a b ≠ 0) := by
  unfold bitAt bitsOf atM
  simp only [List.getD_eq_getElem?_getD, List.getElem?_map]
  cases xs[a * r + b]? with
  | none => rfl
  | some x => by_cases hx : x = 0 <;> simp [hx]
theorem typed_of_partsB {xs : List Int} {r : Nat} (h : partsB r xs = true) : 1 ≤ r ∧ r ≤ 4 ∧ xs.length = r * r ∧ Typed xs r := by
  simp only [partsB, Bool.and_eq_true, decide_eq_true_eq, List.all_eq_true, Int.toNat_natCast] at h
  obtain ⟨⟨⟨⟨h1, h2⟩, h3⟩, h4⟩, h5⟩ := h
  have hl : xs.length = r * r := by exact_mod_cast h3
  have h1' : 1 ≤ r := by omega
  have h2' : r ≤ 4 := by omega
  simp only [entryB, List.all_eq_true, List.mem_range, Bool.and_eq_true, Bool.or_eq_true, decide_eq_true_eq] at h4
  have nz : ∀ i j, i < r → j < r → atM xs r i j ≠ 0 → atM xs r j i ≠ 0 := by
    intro i j hi hj hz
    have hm : i * r + j < xs.length := by
      rw [hl]
      have : (i + 1) * r ≤ r * r := Nat.mul_le_mul_right _ hi
      rw [Nat.add_mul, Nat.one_mul] at this
      omega
    rcases (h4 _ hm).2 with h | h
    · exact absurd h hz
    · rw [show (i * r + j) / r = i by rw [Nat.add_comm, Nat.add_mul_div_right _ _ (by omega), Nat.div_eq_of_lt hj, Nat.zero_add], show (i * r + j) % r = j by rw [Nat.add_comm, Nat.add_mul_mod_self_right, Nat.mod_eq_of_lt hj]] at h
      exact h
  have hsym : ∀ i j, i < r → j < r → bitAt (bitsOf xs) r i j = bitAt (bitsOf xs) r j i := by
    intro i j hi hj
    rw [bitAt_eq, bitAt_eq]
    have a := nz i j hi hj
    have b := nz j i hj hi
    by_cases e : atM xs r i j = 0
    · by_cases e' : atM xs r j i = 0
      · simp [e, e']
      · exact absurd e (b e')
    · simp [e, a e]
  have hc := comps_all h1' h2' (by simp [bitsOf, hl]) hsym
  simp only [compsB, Bool.and_eq_true, decide_eq_true_eq, List.all_eq_true] at hc
  obtain ⟨⟨c1, c2⟩, c3⟩ := hc
  obtain ⟨ks, s, k1, k2, k3, k4, k5, k6⟩ := typed_parts _ c3 h5
  exact ⟨h1', h2', hl, ks, s, k1, by rw [k2, k3, c1], ⟨by rw [k3, c1], k4, fun a ha => c2 a (k5 a ha)⟩, k6⟩
/-- the program and the reference know the same Cartan matrices -/
theorem typeB_eq (r : Int) (xs : List Int) : typeB r xs = partsB r xs := by
  by_cases hr : 1 ≤ r ∧ r ≤ 4 ∧ (xs.length : Int) = r * r
  · obtain ⟨h1, h2, h3⟩ := hr
    obtain ⟨n, rfl⟩ : ∃ n : Nat, r = n := ⟨r.toNat, by omega⟩
    have hl : xs.length = n * n := by exact_mod_cast h3
    rw [Bool.eq_iff_iff]
    constructor
    · intro h
      simp only [typeB, Bool.and_eq_true, decide_eq_true_eq, List.any_eq_true, Int.toNat_natCast] at h
      obtain ⟨_, ks, hk, h⟩ := h
      exact partsB_of_typed (by omega) (by omega) hl (typed_of_typeB (by omega) hk h)
    · intro h
      obtain ⟨a1, a2, a3, a4⟩ := typed_of_partsB h
      obtain ⟨ks, hk, h⟩ := typeB_of_typed a1 a2 a4
      simp only [typeB, Bool.and_eq_true, decide_eq_true_eq, List.any_eq_true, Int.toNat_natCast]
      exact ⟨⟨⟨h1, h2⟩, h3⟩, ks, hk, h⟩
  · have : ∀ b : Bool, (decide (1 ≤ r ∧ r ≤ 4) && decide ((xs.length : Int) = r * r) && b) = false := by
      intro b
      by_cases h : 1 ≤ r ∧ r ≤ 4
      · have : ¬ (xs.length : Int) = r * r := fun e => hr ⟨h.1, h.2, e⟩
        simp [this]
      · simp [h]
    unfold typeB partsB
    rw [this, this, Bool.false_and]
end Go.Proofs.YtfikkfbnlegflaaGreatDoor

namespace Go.Proofs.YtfikkfbnlegflaaGreatDoor
open Go.RowKit

theorem isWeight1_any (x : Int) (w : World) : Calls Tryz.prog 117 #[.int .i64 x] w fun e w' => e = .returned (.bool (!insB x (-1000) 1000)) ∧ w = w' := by
  go_enter Tryz.func117, Tryz.ntmps117
  go_wp2_with (go_at_call 57; refine (inside_any _ _ _ _).mono ?_; rintro e w' ⟨rfl, rfl⟩)
  go_ret
  exact ⟨rfl, rfl⟩
theorem callFunc_isWeight1 (args : Array Value) (w : World) : Sem.run Tryz.prog (callFunc 117 args) w = .ok (.enter 117 args) w := by
  kernel_rfl
set_option maxHeartbeats 1000000 in
theorem isWeight_any (r : Nat) (ta : Option Addr) (tn tc : Nat) (a : Option Addr) (n c : Nat) (xs : List Int) (w : World) (h : IntsAt w a n xs) (_hn : n ≤ 9223372036854775807) (hr : r ≤ 1000000) :
    Calls Tryz.prog 78 #[carV r ta tn tc, .slice a n c] w fun e w' => e = .returned (.bool (wayB r xs)) ∧ Ext w w' := by
  have hX := Ext.alloc w (.cells #[.int .i64 r, .slice ta tn tc] 31)
  have HX := hidP hX
  have L := hidP h.len
  have HF : Hid (wayB r xs = (decide (xs.length = r) && !(xs.any fun x => !insB x (-1000) 1000))) := by
    show _ = _
    rw [wayB_eq, List.all_eq_not_any_not]
    rfl
  have HI := hidP (h.below hX)
  clear h hX
  by_cases hnr : n = r
  · have hne : ((n : Int) == (r : Int)) = true := by simp [hnr]
    have HC := hidP (containsFunc_any 117 #[] (fun x => !insB x (-1000) 1000) a n c xs _ HI.out (by omega) callFunc_isWeight1 (fun x => isWeight1_any x _))
    have HR : Hid (wayB r xs = !(xs.any fun x => !insB x (-1000) 1000)) := by
      show _ = _
      rw [HF.out, decide_eq_true (by have := L.out; omega), Bool.true_and]
    generalize (xs.any fun x => !insB x (-1000) 1000) = B at *
    clear hnr
    go_enter Tryz.func78, Tryz.ntmps78
    go_wp2_with (go_at_call 116; refine HC.out.mono ?_; rintro e w' ⟨rfl, rfl⟩)
    go_ret
    exact ⟨ret_bool HR.out.symm, HX.out⟩
  · have hne : ((n : Int) == (r : Int)) = false := beq_eq_false_iff_ne.2 (by omega)
    have HR : Hid (wayB r xs = false) := by
      show _ = _
      rw [HF.out, decide_eq_false (by have := L.out; omega), Bool.false_and]
    go_enter Tryz.func78, Tryz.ntmps78
    go_wp2
    go_ret
    exact ⟨ret_bool HR.out.symm, HX.out⟩

/-- the two cells of a step in a variable of its own -/
structure StpAt (w : World) (b : Nat) (a : Option Addr) (n c : Nat) (l : Int) : Prop where
  c0 : w.cell? ⟨b, 0, none⟩ = some (.slice a n c)
  c1 : w.cell? ⟨b, 1, none⟩ = some (.int .i64 l)
theorem StpAt.below {w w' : World} {b : Nat} {l : Int} {a : Option Addr} {n c : Nat} (h : StpAt w b a n c l) (hb : Ext w w') : StpAt w' b a n c l :=
  have hl := World.block_lt_of_cell? w _ h.c0
  ⟨(hb.cell (p := ⟨b, 0, none⟩) hl).trans h.c0, (hb.cell (p := ⟨b, 1, none⟩) hl).trans h.c1⟩
theorem StpAt.new (w : World) (b : Nat) (hb : b = w.heap.size) (a : Option Addr) (n c : Nat) (l : Int) (E : TypeId) : StpAt (w.alloc (.cells #[.slice a n c, .int .i64 l] E)) b a n c l :=
  ⟨(cell_top _ _ _ _ _ hb).trans rfl, (cell_top _ _ _ _ _ hb).trans rfl⟩
theorem typeB_rank {r : Int} {ts : List Int} (h : typeB r ts = true) : 1 ≤ r ∧ r ≤ 4 ∧ (ts.length : Int) = r * r := by
  simp only [typeB, Bool.and_eq_true, decide_eq_true_eq] at h
  omega

set_option maxRecDepth 100000 in
set_option maxHeartbeats 4000000 in
theorem pathOk_of (r : Int) (ta : Option Addr) (tn tc : Nat) (ts : List Int) (a : Option Addr) (n c : Nat) (xs : List Stp) (w : World) (h : TermsAt w a n xs) (hn : n ≤ 9223372036854775807)
    (HIs : ∀ w', Ext w w' → Calls Tryz.prog 77 #[carV r ta tn tc] w' fun e w'' => e = .returned (.bool (typeB r ts)) ∧ Ext w' w'') :
    Calls Tryz.prog 34 #[carV r ta tn tc, .slice a n c] w fun e w' => e = .returned (.bool (typeB r ts && pathB r.toNat xs)) ∧ Ext w w' := by
  have hx1 := Ext.alloc w (.cells #[.int .i64 r, .slice ta tn tc] 31)
  have G := hidP (h.below hx1)
  have L0 := hidP h.len
  have HC := hidP (fun w' (hx : Ext (w.alloc (.cells #[.int .i64 r, .slice ta tn tc] 31)) w') => (CarAt.new w _ rfl r ta tn tc 31).below hx)
  have HX1 := hidP hx1
  have HIs1 := hidP (HIs _ hx1)
  clear h hx1 HIs
  obtain ⟨w1, hw1⟩ : ∃ w1, w1 = w.alloc (.cells #[.int .i64 r, .slice ta tn tc] 31) := ⟨_, rfl⟩
  rw [← hw1] at G HC HX1 HIs1
  cases hT : typeB r ts
  · rw [hT] at HIs1
    clear hT
    obtain ⟨f0, f1⟩ := HC.out w1 (Ext.refl w1)
    go_enter Tryz.func34, Tryz.ntmps34
    go_wp2_with fail
    rw [← hw1]
    clear hw1
    refine HIs1.out.mono ?_
    rintro e w2 ⟨rfl, hx⟩
    have HX := hidP hx
    clear hx
    go_wp2
    go_ret
    exact ⟨rfl, HX1.out.trans HX.out⟩
  · obtain ⟨hr1, hr4, _⟩ := typeB_rank hT
    rw [hT] at HIs1
    rw [Bool.true_and]
    clear hT
    obtain ⟨R, rfl⟩ : ∃ R : Nat, r = R := ⟨r.toNat, by omega⟩
    rw [Int.toNat_natCast]
    have hr : R ≤ 4 := by omega
    clear hr1 hr4
    obtain ⟨f0, f1⟩ := HC.out w1 (Ext.refl w1)
    go_enter Tryz.func34, Tryz.ntmps34
    go_wp2_with fail
    rw [← hw1]
    clear hw1
    refine HIs1.out.mono ?_
    rintro e w1' ⟨rfl, hx⟩
    have HX0 := hidP hx
    clear hx f0 f1
    by_cases h60 : n ≤ 60
    · have h60' : ¬ (60 < (n : Int)) := by omega
      go_wp2
      go_loopw [5, 18] (fun t i wr => ∃ k : Nat, k ≤ n ∧ Hid (∀ j, j < k → stepB R xs j = true) ∧ t = .int .i64 (timeAt xs k) ∧ i = .int .i64 k ∧ Hid (Ext w1 wr)) (fun _ i _ => n - (intOf i).toNat)
      case atStart => exact ⟨0, Nat.zero_le _, fun j h => by omega, rfl, rfl, HX0⟩
      case round =>
        clear HX0
        obtain ⟨k, hk, HJ, rfl, rfl, HX⟩ := hrel
        by_cases hlt : k < n
        · obtain ⟨b, o, aw, cw, W, L, rfl, HW, HL, hwl, hq⟩ := (G.out.below HX.out).way k hlt
          have HQ := hidP hq
          obtain ⟨q1, q2, _⟩ := hq wr (Ext.refl wr)
          have HBd := hidP (timeAt_bounds (p := xs) (n := k) (fun j hj => stepB_len (HJ.out j hj)) k (Nat.le_refl k))
          have HTn : Hid (timeAt xs (k + 1) = timeAt xs k + L) := by
            show _ = _
            rw [timeAt, HL.out]
          obtain ⟨T, hT⟩ : ∃ T, T = timeAt xs k := ⟨_, rfl⟩
          rw [← hT] at HBd HTn ⊢
          clear hT hq
          have HA2 := hidP (Ext.alloc wr (.cells #[.slice aw W.length cw, .int .i64 L] 69))
          have HS := hidP (fun w' (hx : Ext (wr.alloc (.cells #[.slice aw W.length cw, .int .i64 L] 69)) w') => (StpAt.new wr _ rfl aw W.length cw L 69).below hx)
          obtain ⟨w2, hw2⟩ : ∃ w2, w2 = wr.alloc (.cells #[.slice aw W.length cw, .int .i64 L] 69) := ⟨_, rfl⟩
          rw [← hw2] at HA2 HS
          have HCr := hidP (fun w' (hx : Ext w2 w') => HC.out w' ((HX.out.trans HA2.out).trans hx))
          have HWt := hidP (fun w' (hx : Ext w2 w') => isWeight_any R ta tn tc aw W.length cw W w' (HQ.out w' (HA2.out.trans hx)).2.2 hwl (by omega))
          have HSB : Hid (stepB R xs k = (wayB R W && (insB L 1 83160 && (decide (k = 0) || wayAt xs (k - 1) != W)))) := by
            show _ = _
            unfold stepB
            rw [HW.out, HL.out]
            rfl
          cases hA : wayB R W
          · rw [hA] at HWt HSB
            have HB := hidP (pathB_bad (r := R) (p := xs) k (by have := L0.out; omega) HSB.out)
            clear hA
            go_wp2
            rw [← hw2]
            clear hw2 q1 q2
            have hE : Ext w2 w2.drew := Ext.drew w2
            (refine walkR_start (fun w' => Ext w2 w') 25 (by kernel_rfl) ?_; simp only [numbered, List.take_succ_cons, List.take_zero, Nat.zero_add, Nat.reduceAdd, List.length_cons, List.length_nil])
            (repeat (first | (refine walkR_still (v := ?_) rfl (by decide +kernel) rfl (fun _ _ _ h => h) hE ?_ ?_; rotate_left; (focus (intro w' hw'; obtain ⟨f0, f1⟩ := HCr.out w' hw'; obtain ⟨q1, q2⟩ := HS.out w' hw'; go_simp; all_goals (with_reducible rfl))); simp only [Act.put, List.setIfInBounds_toArray, List.set_cons_zero, List.set_cons_succ]) | (refine walkR_skip rfl (by decide +kernel) rfl (fun _ _ _ h => h) hE ?_; simp only [Act.put, List.setIfInBounds_toArray, List.set_cons_zero, List.set_cons_succ])))
            (refine walkR_only (fun w' => Ext w2 w') rfl (by decide +kernel) rfl (fun _ h => h) ?_; intro K hK; go_simp; refine (HWt.out _ hE).mono ?_; rintro e w3 ⟨rfl, hx3⟩; refine hK _ _ (hE.trans hx3) ?_; clear hK K; (try simp only [Act.put, List.setIfInBounds_toArray, List.set_cons_zero, List.set_cons_succ]))
            have hE2 := hE.trans hx3
            (repeat (first | (refine walkR_still (v := ?_) rfl (by decide +kernel) rfl (fun _ _ _ h => h) hE2 ?_ ?_; rotate_left; (focus (intro w' hw'; obtain ⟨f0, f1⟩ := HCr.out w' hw'; obtain ⟨q1, q2⟩ := HS.out w' hw'; go_simp; all_goals (with_reducible rfl))); simp only [Act.put, List.setIfInBounds_toArray, List.set_cons_zero, List.set_cons_succ]) | (refine walkR_skip rfl (by decide +kernel) rfl (fun _ _ _ h => h) hE2 ?_; simp only [Act.put, List.setIfInBounds_toArray, List.set_cons_zero, List.set_cons_succ])))
            (refine walkR_tail (by rfl) (by kernel_rfl) ?_; simp only [List.drop_succ_cons, List.drop_zero])
            go_wp2
            go_ret
            exact ⟨ret_bool HB.out.symm, HX1.out.trans (HX.out.trans (HA2.out.trans hE2))⟩
          · rw [hA] at HWt HSB
            have hWl := hidP ((wayB_iff.1 hA).1)
            cases hI : insB L 1 83160
            · rw [hI] at HSB
              have HB := hidP (pathB_bad (r := R) (p := xs) k (by have := L0.out; omega) HSB.out)
              clear hA
              go_wp2
              rw [← hw2]
              clear hw2 q1 q2
              have hE : Ext w2 w2.drew := Ext.drew w2
              (refine walkR_start (fun w' => Ext w2 w') 25 (by kernel_rfl) ?_; simp only [numbered, List.take_succ_cons, List.take_zero, Nat.zero_add, Nat.reduceAdd, List.length_cons, List.length_nil])
              (repeat (first | (refine walkR_still (v := ?_) rfl (by decide +kernel) rfl (fun _ _ _ h => h) hE ?_ ?_; rotate_left; (focus (intro w' hw'; obtain ⟨f0, f1⟩ := HCr.out w' hw'; obtain ⟨q1, q2⟩ := HS.out w' hw'; go_simp; all_goals (with_reducible rfl))); simp only [Act.put, List.setIfInBounds_toArray, List.set_cons_zero, List.set_cons_succ]) | (refine walkR_skip rfl (by decide +kernel) rfl (fun _ _ _ h => h) hE ?_; simp only [Act.put, List.setIfInBounds_toArray, List.set_cons_zero, List.set_cons_succ])))
              (refine walkR_only (fun w' => Ext w2 w') rfl (by decide +kernel) rfl (fun _ h => h) ?_; intro K hK; go_simp; refine (HWt.out _ hE).mono ?_; rintro e w3 ⟨rfl, hx3⟩; refine hK _ _ (hE.trans hx3) ?_; clear hK K; (try simp only [Act.put, List.setIfInBounds_toArray, List.set_cons_zero, List.set_cons_succ]))
              have hE2 := hE.trans hx3
              (repeat (first | (refine walkR_still (v := ?_) rfl (by decide +kernel) rfl (fun _ _ _ h => h) hE2 ?_ ?_; rotate_left; (focus (intro w' hw'; obtain ⟨f0, f1⟩ := HCr.out w' hw'; obtain ⟨q1, q2⟩ := HS.out w' hw'; go_simp; all_goals (with_reducible rfl))); simp only [Act.put, List.setIfInBounds_toArray, List.set_cons_zero, List.set_cons_succ]) | (refine walkR_skip rfl (by decide +kernel) rfl (fun _ _ _ h => h) hE2 ?_; simp only [Act.put, List.setIfInBounds_toArray, List.set_cons_zero, List.set_cons_succ])))
              (refine walkR_only (fun w' => Ext w2 w') rfl (by decide +kernel) rfl (fun _ h => h) ?_; intro K hK; go_simp; refine (inside_any _ _ _ _).mono ?_; rintro e w4 ⟨rfl, rfl⟩; refine hK _ _ (hE2) ?_; clear hK K; (try simp only [Act.put, List.setIfInBounds_toArray, List.set_cons_zero, List.set_cons_succ]))
              (repeat (first | (refine walkR_still (v := ?_) rfl (by decide +kernel) rfl (fun _ _ _ h => h) hE2 ?_ ?_; rotate_left; (focus (intro w' hw'; obtain ⟨f0, f1⟩ := HCr.out w' hw'; obtain ⟨q1, q2⟩ := HS.out w' hw'; go_simp; all_goals (with_reducible rfl))); simp only [Act.put, List.setIfInBounds_toArray, List.set_cons_zero, List.set_cons_succ]) | (refine walkR_skip rfl (by decide +kernel) rfl (fun _ _ _ h => h) hE2 ?_; simp only [Act.put, List.setIfInBounds_toArray, List.set_cons_zero, List.set_cons_succ])))
              (refine walkR_tail (by rfl) (by kernel_rfl) ?_; simp only [List.drop_succ_cons, List.drop_zero])
              go_wp2
              go_ret
              exact ⟨ret_bool HB.out.symm, HX1.out.trans (HX.out.trans (HA2.out.trans hE2))⟩
            · rw [hI] at HSB
              have hIb := insB_true.1 hI
              have hTb := HBd.out
              have hTw : IntKind.i64.wrap (T + L) = T + L := wrap_in (by omega) (by omega)
              clear hA
              cases k with
              | zero =>
                have HT : Hid (stepB R xs 0 = true) := HSB.out
                simp only [Nat.zero_mul, Nat.add_zero] at q1 q2
                go_wp2
                rw [← hw2]
                clear hw2 q1 q2
                have hE : Ext w2 w2.drew := Ext.drew w2
                (refine walkR_start (fun w' => Ext w2 w') 25 (by kernel_rfl) ?_; simp only [numbered, List.take_succ_cons, List.take_zero, Nat.zero_add, Nat.reduceAdd, List.length_cons, List.length_nil])
                (repeat (first | (refine walkR_still (v := ?_) rfl (by decide +kernel) rfl (fun _ _ _ h => h) hE ?_ ?_; rotate_left; (focus (intro w' hw'; obtain ⟨f0, f1⟩ := HCr.out w' hw'; obtain ⟨q1, q2⟩ := HS.out w' hw'; go_simp; all_goals (with_reducible rfl))); simp only [Act.put, List.setIfInBounds_toArray, List.set_cons_zero, List.set_cons_succ]) | (refine walkR_skip rfl (by decide +kernel) rfl (fun _ _ _ h => h) hE ?_; simp only [Act.put, List.setIfInBounds_toArray, List.set_cons_zero, List.set_cons_succ])))
                (refine walkR_only (fun w' => Ext w2 w') rfl (by decide +kernel) rfl (fun _ h => h) ?_; intro K hK; go_simp; refine (HWt.out _ hE).mono ?_; rintro e w3 ⟨rfl, hx3⟩; refine hK _ _ (hE.trans hx3) ?_; clear hK K; (try simp only [Act.put, List.setIfInBounds_toArray, List.set_cons_zero, List.set_cons_succ]))
                have hE2 := hE.trans hx3
                (repeat (first | (refine walkR_still (v := ?_) rfl (by decide +kernel) rfl (fun _ _ _ h => h) hE2 ?_ ?_; rotate_left; (focus (intro w' hw'; obtain ⟨f0, f1⟩ := HCr.out w' hw'; obtain ⟨q1, q2⟩ := HS.out w' hw'; go_simp; all_goals (with_reducible rfl))); simp only [Act.put, List.setIfInBounds_toArray, List.set_cons_zero, List.set_cons_succ]) | (refine walkR_skip rfl (by decide +kernel) rfl (fun _ _ _ h => h) hE2 ?_; simp only [Act.put, List.setIfInBounds_toArray, List.set_cons_zero, List.set_cons_succ])))
                (refine walkR_only (fun w' => Ext w2 w') rfl (by decide +kernel) rfl (fun _ h => h) ?_; intro K hK; go_simp; refine (inside_any _ _ _ _).mono ?_; rintro e w4 ⟨rfl, rfl⟩; refine hK _ _ (hE2) ?_; clear hK K; (try simp only [Act.put, List.setIfInBounds_toArray, List.set_cons_zero, List.set_cons_succ]))
                (repeat (first | (refine walkR_still (v := ?_) rfl (by decide +kernel) rfl (fun _ _ _ h => h) hE2 ?_ ?_; rotate_left; (focus (intro w' hw'; obtain ⟨f0, f1⟩ := HCr.out w' hw'; obtain ⟨q1, q2⟩ := HS.out w' hw'; go_simp; all_goals (with_reducible rfl))); simp only [Act.put, List.setIfInBounds_toArray, List.set_cons_zero, List.set_cons_succ]) | (refine walkR_skip rfl (by decide +kernel) rfl (fun _ _ _ h => h) hE2 ?_; simp only [Act.put, List.setIfInBounds_toArray, List.set_cons_zero, List.set_cons_succ])))
                (refine walkR_tail (by rfl) (by kernel_rfl) ?_; simp only [List.drop_succ_cons, List.drop_zero])
                obtain ⟨q1, q2⟩ := HS.out _ hE2
                go_wp2
                go_roundw
                case rel =>
                  refine ⟨1, by omega, fun j hj => ?_, by rw [HTn.out], by go_num, HX.out.trans (HA2.out.trans hE2)⟩
                  obtain rfl : j = 0 := by omega
                  exact HT.out
                case measure => simp [intOf]; omega
              | succ k =>
                have hk0 : (0 : Int) ≤ (k : Int) + 1 := by omega
                have hk1 : (0 : Int) < (k : Int) + 1 := by omega
                have hk2 : (k : Int) + 1 < n := by omega
                have hk3 : (k : Int) < n := by omega
                have hk4 : IntKind.i64.wrap (k : Int) = k := wrap_in (by omega) (by omega)
                obtain ⟨b', o', aV, cV, V, M, e', HV, _, hvl, hq⟩ := (G.out.below (HX.out.trans HA2.out)).way k (by omega)
                simp only [Option.some.injEq, Addr.mk.injEq, and_true] at e'
                obtain ⟨rfl, rfl⟩ := e'
                have HP := hidP hq
                clear hq
                have hVl : Hid (V.length = R) := by
                  show _ = _
                  rw [← HV.out]
                  exact stepB_way (HJ.out k (by omega))
                have HSame := hidP (fun w' (hx : Ext w2 w') => equalI_any aV aw V.length cV W.length cw V W w' (HP.out w' hx).2.2 (HQ.out w' (HA2.out.trans hx)).2.2 (by have := hVl.out; omega) (by have := hWl.out; omega))
                rw [show k + 1 - 1 = k from rfl, HV.out] at HSB
                cases hV : (V == W)
                · rw [hV] at HSame
                  have HT : Hid (stepB R xs (k + 1) = true) := by
                    show _ = _
                    rw [HSB.out]
                    simp [bne, hV]
                  clear hV HSB
                  go_wp2
                  rw [← hw2]
                  clear hw2 q1 q2
                  have hE : Ext w2 w2.drew := Ext.drew w2
                  (refine walkR_start (fun w' => Ext w2 w') 25 (by kernel_rfl) ?_; simp only [numbered, List.take_succ_cons, List.take_zero, Nat.zero_add, Nat.reduceAdd, List.length_cons, List.length_nil])
                  (repeat (first | (refine walkR_still (v := ?_) rfl (by decide +kernel) rfl (fun _ _ _ h => h) hE ?_ ?_; rotate_left; (focus (intro w' hw'; obtain ⟨f0, f1⟩ := HCr.out w' hw'; obtain ⟨q1, q2⟩ := HS.out w' hw'; obtain ⟨y1, y2, _⟩ := HP.out w' hw'; go_simp; all_goals (with_reducible rfl))); simp only [Act.put, List.setIfInBounds_toArray, List.set_cons_zero, List.set_cons_succ]) | (refine walkR_skip rfl (by decide +kernel) rfl (fun _ _ _ h => h) hE ?_; simp only [Act.put, List.setIfInBounds_toArray, List.set_cons_zero, List.set_cons_succ])))
                  (refine walkR_only (fun w' => Ext w2 w') rfl (by decide +kernel) rfl (fun _ h => h) ?_; intro K hK; go_simp; refine (HWt.out _ hE).mono ?_; rintro e w3 ⟨rfl, hx3⟩; refine hK _ _ (hE.trans hx3) ?_; clear hK K; (try simp only [Act.put, List.setIfInBounds_toArray, List.set_cons_zero, List.set_cons_succ]))
                  have hE2 := hE.trans hx3
                  (repeat (first | (refine walkR_still (v := ?_) rfl (by decide +kernel) rfl (fun _ _ _ h => h) hE2 ?_ ?_; rotate_left; (focus (intro w' hw'; obtain ⟨f0, f1⟩ := HCr.out w' hw'; obtain ⟨q1, q2⟩ := HS.out w' hw'; obtain ⟨y1, y2, _⟩ := HP.out w' hw'; go_simp; all_goals (with_reducible rfl))); simp only [Act.put, List.setIfInBounds_toArray, List.set_cons_zero, List.set_cons_succ]) | (refine walkR_skip rfl (by decide +kernel) rfl (fun _ _ _ h => h) hE2 ?_; simp only [Act.put, List.setIfInBounds_toArray, List.set_cons_zero, List.set_cons_succ])))
                  (refine walkR_only (fun w' => Ext w2 w') rfl (by decide +kernel) rfl (fun _ h => h) ?_; intro K hK; go_simp; refine (inside_any _ _ _ _).mono ?_; rintro e w4 ⟨rfl, rfl⟩; refine hK _ _ (hE2) ?_; clear hK K; (try simp only [Act.put, List.setIfInBounds_toArray, List.set_cons_zero, List.set_cons_succ]))
                  (repeat (first | (refine walkR_still (v := ?_) rfl (by decide +kernel) rfl (fun _ _ _ h => h) hE2 ?_ ?_; rotate_left; (focus (intro w' hw'; obtain ⟨f0, f1⟩ := HCr.out w' hw'; obtain ⟨q1, q2⟩ := HS.out w' hw'; obtain ⟨y1, y2, _⟩ := HP.out w' hw'; go_simp; all_goals (with_reducible rfl))); simp only [Act.put, List.setIfInBounds_toArray, List.set_cons_zero, List.set_cons_succ]) | (refine walkR_skip rfl (by decide +kernel) rfl (fun _ _ _ h => h) hE2 ?_; simp only [Act.put, List.setIfInBounds_toArray, List.set_cons_zero, List.set_cons_succ])))
                  (refine walkR_only (fun w' => Ext w2 w') rfl (by decide +kernel) rfl (fun _ h => h) ?_; intro K hK; go_simp; refine (HSame.out _ hE2).mono ?_; rintro e w5 ⟨rfl, m, rfl⟩; refine hK _ _ (hE2.trans (Ext.drewN _ _)) ?_; clear hK K; (try simp only [Act.put, List.setIfInBounds_toArray, List.set_cons_zero, List.set_cons_succ]))
                  have hE3 := hE2.trans (Ext.drewN _ m)
                  (repeat (first | (refine walkR_still (v := ?_) rfl (by decide +kernel) rfl (fun _ _ _ h => h) hE3 ?_ ?_; rotate_left; (focus (intro w' hw'; obtain ⟨f0, f1⟩ := HCr.out w' hw'; obtain ⟨q1, q2⟩ := HS.out w' hw'; obtain ⟨y1, y2, _⟩ := HP.out w' hw'; go_simp; all_goals (with_reducible rfl))); simp only [Act.put, List.setIfInBounds_toArray, List.set_cons_zero, List.set_cons_succ]) | (refine walkR_skip rfl (by decide +kernel) rfl (fun _ _ _ h => h) hE3 ?_; simp only [Act.put, List.setIfInBounds_toArray, List.set_cons_zero, List.set_cons_succ])))
                  (refine walkR_tail (by rfl) (by kernel_rfl) ?_; simp only [List.drop_succ_cons, List.drop_zero])
                  obtain ⟨q1, q2⟩ := HS.out _ hE3
                  go_wp2
                  go_roundw
                  case rel =>
                    refine ⟨k + 1 + 1, by omega, fun j hj => ?_, by rw [HTn.out], by go_num, HX.out.trans (HA2.out.trans hE3)⟩
                    rcases Nat.lt_succ_iff_lt_or_eq.1 hj with h3 | rfl
                    · exact HJ.out j h3
                    · exact HT.out
                  case measure => simp [intOf]; omega
                · rw [hV] at HSame
                  have HB := hidP (pathB_bad (r := R) (p := xs) (k + 1) (by have := L0.out; omega) (by rw [HSB.out]; simp [bne, hV]))
                  clear hV HSB
                  go_wp2
                  rw [← hw2]
                  clear hw2 q1 q2
                  have hE : Ext w2 w2.drew := Ext.drew w2
                  (refine walkR_start (fun w' => Ext w2 w') 25 (by kernel_rfl) ?_; simp only [numbered, List.take_succ_cons, List.take_zero, Nat.zero_add, Nat.reduceAdd, List.length_cons, List.length_nil])
                  (repeat (first | (refine walkR_still (v := ?_) rfl (by decide +kernel) rfl (fun _ _ _ h => h) hE ?_ ?_; rotate_left; (focus (intro w' hw'; obtain ⟨f0, f1⟩ := HCr.out w' hw'; obtain ⟨q1, q2⟩ := HS.out w' hw'; obtain ⟨y1, y2, _⟩ := HP.out w' hw'; go_simp; all_goals (with_reducible rfl))); simp only [Act.put, List.setIfInBounds_toArray, List.set_cons_zero, List.set_cons_succ]) | (refine walkR_skip rfl (by decide +kernel) rfl (fun _ _ _ h => h) hE ?_; simp only [Act.put, List.setIfInBounds_toArray, List.set_cons_zero, List.set_cons_succ])))
                  (refine walkR_only (fun w' => Ext w2 w') rfl (by decide +kernel) rfl (fun _ h => h) ?_; intro K hK; go_simp; refine (HWt.out _ hE).mono ?_; rintro e w3 ⟨rfl, hx3⟩; refine hK _ _ (hE.trans hx3) ?_; clear hK K; (try simp only [Act.put, List.setIfInBounds_toArray, List.set_cons_zero, List.set_cons_succ]))
                  have hE2 := hE.trans hx3
                  (repeat (first | (refine walkR_still (v := ?_) rfl (by decide +kernel) rfl (fun _ _ _ h => h) hE2 ?_ ?_; rotate_left; (focus (intro w' hw'; obtain ⟨f0, f1⟩ := HCr.out w' hw'; obtain ⟨q1, q2⟩ := HS.out w' hw'; obtain ⟨y1, y2, _⟩ := HP.out w' hw'; go_simp; all_goals (with_reducible rfl))); simp only [Act.put, List.setIfInBounds_toArray, List.set_cons_zero, List.set_cons_succ]) | (refine walkR_skip rfl (by decide +kernel) rfl (fun _ _ _ h => h) hE2 ?_; simp only [Act.put, List.setIfInBounds_toArray, List.set_cons_zero, List.set_cons_succ])))
                  (refine walkR_only (fun w' => Ext w2 w') rfl (by decide +kernel) rfl (fun _ h => h) ?_; intro K hK; go_simp; refine (inside_any _ _ _ _).mono ?_; rintro e w4 ⟨rfl, rfl⟩; refine hK _ _ (hE2) ?_; clear hK K; (try simp only [Act.put, List.setIfInBounds_toArray, List.set_cons_zero, List.set_cons_succ]))
                  (repeat (first | (refine walkR_still (v := ?_) rfl (by decide +kernel) rfl (fun _ _ _ h => h) hE2 ?_ ?_; rotate_left; (focus (intro w' hw'; obtain ⟨f0, f1⟩ := HCr.out w' hw'; obtain ⟨q1, q2⟩ := HS.out w' hw'; obtain ⟨y1, y2, _⟩ := HP.out w' hw'; go_simp; all_goals (with_reducible rfl))); simp only [Act.put, List.setIfInBounds_toArray, List.set_cons_zero, List.set_cons_succ]) | (refine walkR_skip rfl (by decide +kernel) rfl (fun _ _ _ h => h) hE2 ?_; simp only [Act.put, List.setIfInBounds_toArray, List.set_cons_zero, List.set_cons_succ])))
                  (refine walkR_only (fun w' => Ext w2 w') rfl (by decide +kernel) rfl (fun _ h => h) ?_; intro K hK; go_simp; refine (HSame.out _ hE2).mono ?_; rintro e w5 ⟨rfl, m, rfl⟩; refine hK _ _ (hE2.trans (Ext.drewN _ _)) ?_; clear hK K; (try simp only [Act.put, List.setIfInBounds_toArray, List.set_cons_zero, List.set_cons_succ]))
                  have hE3 := hE2.trans (Ext.drewN _ m)
                  (repeat (first | (refine walkR_still (v := ?_) rfl (by decide +kernel) rfl (fun _ _ _ h => h) hE3 ?_ ?_; rotate_left; (focus (intro w' hw'; obtain ⟨f0, f1⟩ := HCr.out w' hw'; obtain ⟨q1, q2⟩ := HS.out w' hw'; obtain ⟨y1, y2, _⟩ := HP.out w' hw'; go_simp; all_goals (with_reducible rfl))); simp only [Act.put, List.setIfInBounds_toArray, List.set_cons_zero, List.set_cons_succ]) | (refine walkR_skip rfl (by decide +kernel) rfl (fun _ _ _ h => h) hE3 ?_; simp only [Act.put, List.setIfInBounds_toArray, List.set_cons_zero, List.set_cons_succ])))
                  (refine walkR_tail (by rfl) (by kernel_rfl) ?_; simp only [List.drop_succ_cons, List.drop_zero])
                  go_wp2
                  go_ret
                  exact ⟨ret_bool HB.out.symm, HX1.out.trans (HX.out.trans (HA2.out.trans hE3))⟩
        · obtain rfl : k = n := by omega
          have HE := hidP (pathB_end (r := R) (L0.out) h60 HJ.out)
          have hbd := (timeAt_bounds (p := xs) (n := k) (fun j hj => stepB_len (HJ.out j hj)) k (Nat.le_refl k))
          obtain ⟨T, hT⟩ : ∃ T, T = timeAt xs k := ⟨_, rfl⟩
          rw [← hT] at HE hbd ⊢
          have htm : Int.tmod T 27720 = T % 27720 := Int.tmod_eq_emod_of_nonneg hbd.1
          clear hT
          by_cases hz : T % 27720 = 0
          · have HR : Hid (pathB R xs = decide (T ≤ 83160)) := by show _ = _; rw [HE.out]; simp [hz]
            go_wp2
            go_ret
            exact ⟨ret_bool HR.out.symm, HX1.out.trans HX.out⟩
          · have HR : Hid (pathB R xs = false) := by show _ = _; rw [HE.out]; simp [hz]
            have hz' : (T % 27720 == 0) = false := by simpa using hz
            go_wp2
            go_ret
            exact ⟨ret_bool HR.out.symm, HX1.out.trans HX.out⟩
    · have HB := hidP (pathB_long (r := R) (p := xs) (by have := L0.out; omega))
      have h60' : 60 < (n : Int) := by omega
      go_wp2
      go_ret
      exact ⟨ret_bool HB.out.symm, HX1.out.trans HX0.out⟩
end Go.Proofs.YtfikkfbnlegflaaGreatDoor

namespace Go.Proofs.YtfikkfbnlegflaaGreatDoor
open Go.RowKit

theorem OwnK.small {α : Type} {K : Knd α} {w : World} {B U : Nat} {a : Option Addr} {n c : Nat} {hs : List Hdr} {xs : List α} (h : OwnK K w B U a n c hs xs) : n ≤ 9223372036854775807 := by
  rcases h.form with ⟨_, h0, _⟩ | ⟨_, _, _, _, _, _, h1, h2⟩
  · omega
  · unfold maxLen at h2; omega
/-- what 'checked' gives -/
def chk (r : Nat) (p : List Stp) : Bool × List Stp := if pathB r (joinS p) then (true, joinS p) else (false, [])
/-- a call returns a path of memory of its own, or none -/
def PathRes (f : FuncId) (args : Array Value) (w : World) (res : Bool × List Stp) : Prop :=
  Calls Tryz.prog f args w fun e w' => ∃ a n c hs, e = .returned (.tuple #[.slice a n c, .bool res.1]) ∧ OwnK stepK w' w.heap.size w'.heap.size a n c hs res.2 ∧ Ext w w'
end Go.Proofs.YtfikkfbnlegflaaGreatDoor

namespace Go.Proofs.YtfikkfbnlegflaaGreatDoor

/-- a simple reflection -/
def refl (r : Nat) (ts : List Int) (i : Nat) (w : List Int) : List Int := (List.range r).map fun k => w.getD k 0 - w.getD i 0 * ts.getD (k * r + i) 0
theorem refl_length (r : Nat) (ts : List Int) (i : Nat) (w : List Int) : (refl r ts i w).length = r := by simp [refl]
theorem refl_get (r : Nat) (ts : List Int) (i : Nat) (w : List Int) (k : Nat) (hk : k < r) : (refl r ts i w).getD k 0 = w.getD k 0 - w.getD i 0 * ts.getD (k * r + i) 0 := by
  simp [refl, List.getD_eq_getElem?_getD, hk]
theorem typeB_entry {r : Nat} {ts : List Int} (h : typeB r ts = true) (m : Nat) : -3 ≤ ts.getD m 0 ∧ ts.getD m 0 ≤ 2 := by
  rw [typeB_eq] at h
  simp only [partsB, entryB, Bool.and_eq_true, List.all_eq_true, List.mem_range, decide_eq_true_eq] at h
  rcases Nat.lt_or_ge m ts.length with hm | hm
  · exact (h.1.2 m hm).1
  · rw [List.getD_eq_getElem?_getD, List.getElem?_eq_none hm]
    simp

/-- a path or none, as a call gives it -/
def optJ : Option (List Stp) → Bool × List Stp
  | some q => (true, q)
  | none => (false, [])
theorem chk_opt (r : Nat) (p : List Stp) : chk r p = optJ (checkS r p) := by
  unfold chk checkS
  split <;> rfl
def lowR (r : Nat) (ts : List Int) (i : Nat) (p : List Stp) : Bool × List Stp := optJ (lowS r (refl r ts i) i p)
theorem check_path {r : Nat} {p q : List Stp} (h : checkS r p = some q) : pathB r q = true := by
  unfold checkS at h
  split at h
  · rename_i hb
    cases h
    exact hb
  · cases h
theorem lowS_path {r : Nat} {R : List Int → List Int} {i : Nat} {p q : List Stp} (h : lowS r R i p = some q) : pathB r q = true := by
  unfold lowS at h
  split at h
  · cases h
  · split at h
    · exact check_path h
    · cases h
/-- the heights at the ends of the steps -/
def hts (i : Nat) (p : List Stp) (n : Nat) : List Int := (List.range (n + 1)).map (htAt i p)
theorem hts_length (i : Nat) (p : List Stp) (n : Nat) : (hts i p n).length = n + 1 := by simp [hts]
theorem hts_get (i : Nat) (p : List Stp) (n k : Nat) (hk : k ≤ n) : (hts i p n).getD k 0 = htAt i p k := by
  simp [hts, List.getD_eq_getElem?_getD, show k < n + 1 by omega]
theorem hts_succ (i : Nat) (p : List Stp) (n : Nat) : hts i p (n + 1) = hts i p n ++ [htAt i p (n + 1)] := by
  simp [hts, List.range_succ]
theorem ht_bound {r : Nat} {p : List Stp} (h : PathP r p) {i : Nat} (hi : i < r) : ∀ k, k ≤ p.length → -1000 * timeAt p k ≤ htAt i p k ∧ htAt i p k ≤ 1000 * timeAt p k
  | 0, _ => by simp [htAt, timeAt]
  | k + 1, hk => by
    have ih := ht_bound h hi k (by omega)
    obtain ⟨hd1, hd2⟩ := h.dur k (by omega)
    obtain ⟨hw1, hw2⟩ := (h.way k (by omega)).2 i hi
    have e1 : htAt i p (k + 1) = htAt i p k + lenAt p k * (wayAt p k).getD i 0 := rfl
    have e2 : timeAt p (k + 1) = timeAt p k + lenAt p k := rfl
    have h1 : lenAt p k * (wayAt p k).getD i 0 ≤ lenAt p k * 1000 := Int.mul_le_mul_of_nonneg_left hw2 (by omega)
    have h2 : lenAt p k * (-1000) ≤ lenAt p k * (wayAt p k).getD i 0 := Int.mul_le_mul_of_nonneg_left hw1 (by omega)
    rw [e1, e2]
    omega
theorem ht_small {r : Nat} {p : List Stp} (h : PathP r p) {i : Nat} (hi : i < r) (k : Nat) (hk : k ≤ p.length) : -83160000 ≤ htAt i p k ∧ htAt i p k ≤ 83160000 := by
  have h1 := ht_bound h hi k hk
  have h2 := timeAt_le (lens_of_path h) hk (Nat.le_refl _)
  have h3 := h.tle
  omega
theorem time_small {r : Nat} {p : List Stp} (h : PathP r p) (k : Nat) (hk : k ≤ p.length) : 0 ≤ timeAt p k ∧ timeAt p k ≤ 83160 := by
  have h1 := timeAt_le (lens_of_path h) (Nat.zero_le k) hk
  have h2 := timeAt_le (lens_of_path h) hk (Nat.le_refl _)
  have h3 := h.tle
  have h4 : timeAt p 0 = 0 := rfl
  omega
theorem min_small {r : Nat} {p : List Stp} (h : PathP r p) {i : Nat} (hi : i < r) : -83160000 ≤ minHt i p p.length ∧ minHt i p p.length ≤ 0 := by
  obtain ⟨k, hk, e⟩ := minHt_at i p p.length
  have h1 := ht_small h hi k hk
  have h2 := minHt_le i p p.length 0 (Nat.zero_le _)
  have h3 : htAt i p 0 = 0 := rfl
  omega
end Go.Proofs.YtfikkfbnlegflaaGreatDoor

namespace Go.Proofs.YtfikkfbnlegflaaGreatDoor
open Go.RowKit

theorem set_self_at (p : List Stp) (k : Nat) : p.set k (wayAt p k, lenAt p k) = p := by
  apply List.ext_getElem?
  intro j
  rw [List.getElem?_set]
  split
  · rename_i e
    subst e
    split
    · rename_i h
      simp [wayAt, lenAt, List.getD_eq_getElem?_getD, h]
    · rename_i h
      rw [List.getElem?_eq_none (by omega)]
  · rfl
theorem addS_ways {P : List Int → Prop} {o : List Stp} {s : Stp} (ho : ∀ i, i < o.length → P (wayAt o i)) (hs : P s.1) : ∀ i, i < (addS o s).length → P (wayAt (addS o s) i) := by
  by_cases h : s.2 = 0
  · rw [addS_zero _ _ h]
    exact ho
  · rcases Nat.eq_zero_or_pos o.length with h0 | h0
    · rw [addS_first h0 _ h]
      obtain rfl := List.eq_nil_of_length_eq_zero h0
      intro i hi
      obtain rfl : i = 0 := by simp at hi; omega
      exact hs
    · obtain ⟨m, hm⟩ : ∃ m, o.length = m + 1 := ⟨o.length - 1, by omega⟩
      rw [addS_at hm _ h]
      intro i hi
      split at hi <;> split
      · rw [List.length_set] at hi
        unfold wayAt
        rw [OwnK.getD_set _ _ _ _ _ (by omega)]
        split
        · exact ho m (by omega)
        · exact ho i hi
      · contradiction
      · contradiction
      · rw [List.length_append, List.length_cons, List.length_nil] at hi
        by_cases hi2 : i < o.length
        · rw [wayAt_app _ _ _ hi2]
          exact ho i hi2
        · obtain rfl : i = o.length := by omega
          rw [wayAt_snoc]
          exact hs
theorem joinTo_ways {P : List Int → Prop} {p : List Stp} (hp : ∀ i, i < p.length → P (wayAt p i)) : ∀ k, k ≤ p.length → ∀ i, i < (joinTo [] p k).length → P (wayAt (joinTo [] p k) i)
  | 0, _, i, hi => by simp [joinTo] at hi
  | k + 1, hk, i, hi => by
    rw [joinTo_succ _ _ (by omega)] at hi ⊢
    exact addS_ways (s := (wayAt p k, lenAt p k)) (joinTo_ways hp k (by omega)) (hp k (by omega)) i hi
theorem Below.own {w0 w w' : World} {N n c : Nat} {a : Option Addr} (hb : Below N w0 w) (hg : w.grownBy w' (Value.slice a n c).ownBlock) (hB : N ≤ w.heap.size) (ha : ∀ b o, a = some ⟨b, o, none⟩ → N ≤ b) (h0 : ∀ p, a = some p → ∃ b, p = ⟨b, 0, none⟩) : Below N w0 w' := by
  refine Below.grown hb hg hB fun k hk => ?_
  cases a with
  | none => simp [Value.ownBlock] at hk
  | some p =>
    obtain ⟨b, rfl⟩ := h0 p rfl
    simp only [Value.ownBlock, Option.some.injEq] at hk
    rw [← hk]
    exact ha b 0 rfl
theorem OwnK.addr {α : Type} {K : Knd α} {w : World} {B U : Nat} {a : Option Addr} {n c : Nat} {hs : List Hdr} {xs : List α} (h : OwnK K w B U a n c hs xs) : ∀ p, a = some p → ∃ b, p = ⟨b, 0, none⟩ := by
  intro p e
  rcases h.form with ⟨rfl, _⟩ | ⟨g, cur, rfl, _⟩
  · cases e
  · cases e; exact ⟨g, rfl⟩

/-- the way of a place -/
def V0 (p : List Stp) (m : Nat) : List Int := wayAt p m

set_option maxRecDepth 100000 in
set_option maxHeartbeats 8000000 in
theorem checked_of (R : Nat) (ta : Option Addr) (tn tc : Nat) (ts : List Int) (B U : Nat) (ap : Option Addr) (np cp : Nat) (hs : List Hdr) (ps : List Stp) (w : World) (hp : OwnK stepK w B U ap np cp hs ps) (hB : B ≤ w.heap.size) (hN : np ≤ 100000)
    (hbp : ∀ k, k < np → (wayAt ps k).length ≤ 1000000 ∧ 0 ≤ lenAt ps k ∧ lenAt ps k ≤ 1000000) (hT : typeB R ts = true)
    (HIs : ∀ w', Ext w w' → Calls Tryz.prog 77 #[carV R ta tn tc] w' fun e w'' => e = .returned (.bool (typeB R ts)) ∧ Ext w' w'') :
    Calls Tryz.prog 92 #[carV R ta tn tc, .slice ap np cp] w fun e w' => ∃ a' n' c' hs', e = .returned (.tuple #[.slice a' n' c', .bool (chk R ps).1]) ∧ OwnK stepK w' B w'.heap.size a' n' c' hs' (chk R ps).2 ∧ Ext w w' := by
  have GP := hidP hp
  have BP := hidP hbp
  have HHs := hidP HIs
  have HT := hidP hT
  have hx1 := Ext.alloc w (.cells #[.int .i64 R, .slice ta tn tc] 31)
  have HC := hidP (fun w' (hx : Ext (w.alloc (.cells #[.int .i64 R, .slice ta tn tc] 31)) w') => (CarAt.new w _ rfl R ta tn tc 31).below hx)
  have HX1 := hidP hx1
  have HB1 : Hid (B ≤ (w.alloc (.cells #[.int .i64 R, .slice ta tn tc] 31)).heap.size) := Nat.le_trans hB hx1.size
  clear hp hbp HIs hT hB hx1
  have HM0 := hidP (OwnK.made0 stepK (w.alloc (.cells #[.int .i64 R, .slice ta tn tc] 31)))
  have HXM := hidP (Ext.alloc (w.alloc (.cells #[.int .i64 R, .slice ta tn tc] 31)) (.cells #[] 69))
  go_enter Tryz.func92, Tryz.ntmps92
  go_wp2
  obtain ⟨w1, hw1⟩ : ∃ w1, w1 = w.alloc (.cells #[.int .i64 R, .slice ta tn tc] 31) := ⟨_, rfl⟩
  have hws : w.heap.size + 1 = w1.heap.size := by rw [hw1]; simp
  rw [← hw1] at HM0 HXM HC HX1 HB1 ⊢
  have HWS := hidP hws
  clear hw1 hws
  go_loopw [6, 13] (fun out i wr => ∃ (k : Nat) (ao : Option Addr) (m co : Nat) (hso : List Hdr), k ≤ np ∧ out = .slice ao m co ∧ i = .int .i64 k ∧ Hid (OwnK stepK wr B wr.heap.size ao m co hso (joinTo [] ps k)) ∧ Hid (Ext w1 wr) ∧ Hid (∀ b o, ao = some ⟨b, o, none⟩ → w1.heap.size ≤ b) ∧ Hid (∀ i, i < m → ∃ j, j < k ∧ hso.getD i (none, 0) = hs.getD j (none, 0))) (fun _ i _ => np - (intOf i).toNat)
  case atStart => exact ⟨0, _, _, _, [], Nat.zero_le _, rfl, rfl, (by rw [HWS.out]; exact HM0.out.weaken HB1.out (Nat.le_refl _)), HXM, fun b o e => by have := HWS.out; simp only [Option.some.injEq, Addr.mk.injEq, and_true] at e; omega, fun i hi => absurd hi (Nat.not_lt_zero _)⟩
  case round =>
    obtain ⟨k, ao, m, co, hso, hk, rfl, rfl, HO, HX, HNew, HMem⟩ := hrel
    by_cases hlt : k < np
    · obtain ⟨b, al, cl, rfl, hhk, p1, p2, _, _, hwo⟩ := (GP.out.below (HX1.out.trans HX.out)).stepCell k hlt
      have Hhk := hidP hhk
      have hbw := BP.out k hlt
      have HSu : Hid (joinTo [] ps (k + 1) = addS (joinTo [] ps k) (wayAt ps k, lenAt ps k)) := joinTo_succ _ _ (by have := GP.out.xl; omega)
      have HAp : Hid (∀ i, i < m → Apart (hso.getD i (none, 0)).1 al) := by
        show ∀ i, _
        intro i hi
        obtain ⟨j, hj, e⟩ := HMem.out i hi
        rw [e]
        have := GP.out.apart j k (by omega) hlt (by omega)
        rw [hhk] at this
        exact this
      have HWo0 : Hid (∀ w', Ext w1 w' → OwnI w' B al (wayAt ps k).length cl (wayAt ps k)) := by
        show ∀ w', _
        intro w' hx
        have := ((GP.out.below HX1.out).below hx).each k hlt
        rw [hhk] at this
        exact this
      have hm : m ≤ k := by
        have := joinTo_length [] ps k
        rw [HO.out.xl] at this
        simpa using this
      have HLn : Hid (∀ i, i < m → 0 ≤ lenAt (joinTo [] ps k) i ∧ lenAt (joinTo [] ps k) i ≤ 1000000000000) := by
        show ∀ i, _
        intro i hi
        have := joinTo_lens (o := []) (p := ps) (C := 1000000) (D := 0) (fun i hi => absurd hi (by simp)) (fun j hj => (BP.out j (by have := GP.out.xl; omega)).2) k (by have := GP.out.xl; omega) (by omega) (by omega) i (by rw [HO.out.xl]; exact hi)
        omega
      have HWn : Hid (∀ i, i < m → (wayAt (joinTo [] ps k) i).length ≤ 1000000) := by
        show ∀ i, _
        intro i hi
        exact joinTo_ways (P := fun W => W.length ≤ 1000000) (fun j hj => (BP.out j (by have := GP.out.xl; omega)).1) k (by have := GP.out.xl; omega) i (by rw [HO.out.xl]; exact hi)
      obtain ⟨W, hW⟩ : ∃ W, W = wayAt ps k := ⟨_, rfl⟩
      obtain ⟨L, hL⟩ : ∃ L, L = lenAt ps k := ⟨_, rfl⟩
      rw [← hW] at p1 hwo hbw HSu HWo0
      rw [← hL] at p2 hbw HSu
      clear hW hL hhk hwo
      have HA2 := hidP (Ext.alloc wr (.cells #[.slice al W.length cl, .int .i64 L] 69))
      have HS := hidP (fun w' (hx : Ext (wr.alloc (.cells #[.slice al W.length cl, .int .i64 L] 69)) w') => (StpAt.new wr _ rfl al W.length cl L 69).below hx)
      have HO2 := hidP (HO.out.below (Ext.alloc wr (.cells #[.slice al W.length cl, .int .i64 L] 69)))
      obtain ⟨w2, hw2⟩ : ∃ w2, w2 = wr.alloc (.cells #[.slice al W.length cl, .int .i64 L] 69) := ⟨_, rfl⟩
      rw [← hw2] at HA2 HS HO2
      have HX2 := hidP (HX.out.trans HA2.out)
      have HWo := HWo0
      have hE : Ext w2 w2.drew := Ext.drew w2
      cases m with
      | zero =>
        have hlen0 : (joinTo [] ps k).length = 0 := HO.out.xl
        go_wp2
        rw [← hw2]
        clear hw2 p1 p2
        (refine walkR_start (fun w' => Ext w2 w') 12 (by kernel_rfl) ?_; simp only [numbered, List.take_succ_cons, List.take_zero, Nat.zero_add, Nat.reduceAdd, List.length_cons, List.length_nil])
        (repeat (first | (refine walkR_still (v := ?_) rfl (by decide +kernel) rfl (fun _ _ _ h => h) hE ?_ ?_; rotate_left; (focus (intro w' hw'; skip; go_simp; all_goals (with_reducible rfl))); simp only [Act.put, List.setIfInBounds_toArray, List.set_cons_zero, List.set_cons_succ]) | (refine walkR_skip rfl (by decide +kernel) rfl (fun _ _ _ h => h) hE ?_; simp only [Act.put, List.setIfInBounds_toArray, List.set_cons_zero, List.set_cons_succ])))
        (refine walkR_tail (by rfl) (by kernel_rfl) ?_; simp only [List.drop_succ_cons, List.drop_zero])
        by_cases hL : 0 < L
        · have HSu2 : Hid (joinTo [] ps (k + 1) = joinTo [] ps k ++ [(W, L)]) := by show _ = _; rw [HSu.out, addS_first hlen0 _ (by show L ≠ 0; omega)]
          obtain ⟨q1, q2⟩ := HS.out _ hE
          have HO3 := hidP (HO2.out.below hE)
          obtain ⟨w3, hw3⟩ : ∃ w3, w3 = w2.drew := ⟨_, rfl⟩
          have HE3 : Hid (Ext w2 w3) := by rw [hw3]; exact hE
          rw [← hw3] at HO3 q1 q2 ⊢
          clear hw3
          have HX4 := hidP (HX2.out.trans (HE3.out.trans (Ext.alloc w3 (.cells #[.slice al W.length cl, .int .i64 L] 69))))
          have HO4 := hidP (HO3.out.below (Ext.alloc w3 (.cells #[.slice al W.length cl, .int .i64 L] 69)))
          have HI4 := hidP (HWo.out _ HX4.out)
          have HFa := hidP (HO4.out.off_ints HI4.out)
          have HCe : Hid (∀ j, j < stepK.size → (w3.alloc (.cells #[.slice al W.length cl, .int .i64 L] 69)).cell? ⟨w3.heap.size, j, none⟩ = (stepK.cells al cl (W, L))[j]?) := fun j _ => (cell_top _ _ _ _ _ rfl).trans (by simp [stepK])
          go_wp2_with (at_builtin; refine wpList_append_elem2 stepK 28 (.agg #[.slice none 0 0, .int .i64 0]) 32 rfl (.tmp 46) (.tmp 48) rfl Tryz.underlying28 Tryz.info69 rfl (by omega) B _ ao 0 co hso _ rfl HO4.out w3.heap.size 1 (al, cl) (W, L) rfl HCe.out HI4.out HAp.out HFa.out (by omega) (Nat.le_trans HB1.out HX4.out.size) ?_; intro a5 c5 w5 ho5 hg5 hn5; have HX5 := hidP (Below.own HX4.out hg5 HX4.out.size HNew.out HO4.out.addr); have HO5 := hidP ho5; have HN5 := hidP hn5; clear ho5 hg5 hn5)
          go_roundw
          case rel =>
            refine ⟨k + 1, a5, 0 + 1, c5, hso ++ [(al, cl)], by omega, rfl, by go_num, by rw [HSu2.out]; exact HO5.out, HX5.out, fun b o e => ?_, fun i hi => ?_⟩
            · rcases HN5.out with h | h
              · exact HNew.out b o (h ▸ e)
              · exact Nat.le_trans HX4.out.size (h b o e)
            · by_cases hi2 : i < 0
              · obtain ⟨j, hj, e⟩ := HMem.out i hi2
                exact ⟨j, by omega, by rw [← e]; exact getD_left _ _ _ _ (by rw [HO.out.hl]; exact hi2)⟩
              · obtain rfl : i = 0 := by omega
                exact ⟨k, by omega, by rw [Hhk.out, getD_right _ _ _ _ (by rw [HO.out.hl]; exact Nat.le_refl _), HO.out.hl, Nat.sub_self]; rfl⟩
          case measure => simp [intOf]; omega
        · obtain rfl : L = 0 := by omega
          have HSu2 : Hid (joinTo [] ps (k + 1) = joinTo [] ps k) := by
            show _ = _
            rw [HSu.out, addS_zero _ _ rfl]
          obtain ⟨q1, q2⟩ := HS.out _ hE
          have HX4 := hidP (HX2.out.trans hE)
          have HO4 := hidP (HO2.out.below hE)
          go_wp2
          go_roundw
          case rel => exact ⟨k + 1, ao, 0, co, hso, by omega, rfl, by go_num, by rw [HSu2.out]; exact HO4.out.weaken (Nat.le_refl _) (HA2.out.trans hE).size, HX4.out, HNew.out, fun i hi => by obtain ⟨j, hj, e⟩ := HMem.out i hi; exact ⟨j, by omega, e⟩⟩
          case measure => simp [intOf]; omega
      | succ m =>
        have hlenS : (joinTo [] ps k).length = m + 1 := HO.out.xl
        obtain ⟨g, aV, cV, rfl, _, _, _, _, _, _⟩ := HO2.out.stepCell m (by omega)
        have HSt := hidP (fun w' (h : OwnK stepK w' B wr.heap.size (some ⟨g, 0, none⟩) (m + 1) co hso (joinTo [] ps k)) => h.stored m 1 (by omega) (by decide) (.int .i64 (lenAt (joinTo [] ps k) m + L)) (wayAt (joinTo [] ps k) m, lenAt (joinTo [] ps k) m + L) rfl rfl rfl)
        have HOc : Hid (∀ w', Ext w2 w' → ∃ aV cV, w'.cell? ⟨g, m * 2, none⟩ = some (.slice aV (wayAt (joinTo [] ps k) m).length cV) ∧ w'.cell? ⟨g, m * 2 + 1, none⟩ = some (.int .i64 (lenAt (joinTo [] ps k) m)) ∧ w'.frozen? ⟨g, m * 2 + 1, none⟩ = false ∧ IntsAt w' aV (wayAt (joinTo [] ps k) m).length (wayAt (joinTo [] ps k) m) ∧ hso.getD m (none, 0) = (aV, cV)) := by
          show ∀ w', _
          intro w' hx
          obtain ⟨g', aV, cV, e, hh, c1, c2, _, f2, ho⟩ := (HO2.out.below hx).stepCell m (by omega)
          simp only [Option.some.injEq, Addr.mk.injEq, and_true] at e
          obtain rfl := e
          exact ⟨aV, cV, c1, c2, f2, ho.ints, hh⟩
        obtain ⟨⟨aV, cV⟩, hVV⟩ : ∃ h : Hdr, h = hso.getD m (none, 0) := ⟨_, rfl⟩
        have hVl := HWn.out m (by omega)
        have hMl := HLn.out m (by omega)
        have HSuE : Hid (V0 (joinTo [] ps k) m = W → joinTo [] ps (k + 1) = (joinTo [] ps k).set m (wayAt (joinTo [] ps k) m, lenAt (joinTo [] ps k) m + L)) := by
          show _ → _
          intro e
          rw [HSu.out]
          by_cases h0 : L = 0
          · rw [addS_zero _ _ h0, h0, Int.add_zero, set_self_at]
          · rw [addS_at hlenS _ h0, if_pos (show wayAt (joinTo [] ps k) m = (W, L).1 from e)]
        have HSuN : Hid (V0 (joinTo [] ps k) m ≠ W → L ≠ 0 → joinTo [] ps (k + 1) = joinTo [] ps k ++ [(W, L)]) := by
          show _ → _
          intro e h0
          rw [HSu.out, addS_at hlenS _ h0, if_neg (show ¬ wayAt (joinTo [] ps k) m = (W, L).1 from e)]
        obtain ⟨V, hV⟩ : ∃ V, V = wayAt (joinTo [] ps k) m := ⟨_, rfl⟩
        obtain ⟨M, hM⟩ : ∃ M, M = lenAt (joinTo [] ps k) m := ⟨_, rfl⟩
        unfold V0 at HSuE HSuN
        rw [← hV] at HOc hVl HSt HSuE HSuN
        rw [← hM] at HOc hMl HSt HSuE
        have HOc2 : Hid (∀ w', Ext w2 w' → w'.cell? ⟨g, m * 2, none⟩ = some (.slice aV V.length cV) ∧ w'.cell? ⟨g, m * 2 + 1, none⟩ = some (.int .i64 M) ∧ w'.frozen? ⟨g, m * 2 + 1, none⟩ = false ∧ IntsAt w' aV V.length V) := by
          show ∀ w', _
          intro w' hx
          obtain ⟨a1, c1, h1, h2, h3, h4, h5⟩ := HOc.out w' hx
          rw [← hVV] at h5
          simp only [Prod.mk.injEq] at h5
          obtain ⟨rfl, rfl⟩ := h5
          exact ⟨h1, h2, h3, h4⟩
        have HEq := hidP (fun w' (hx : Ext w2 w') => (equalI_any aV al V.length cV W.length cl V W w' (HOc2.out w' hx).2.2.2 (HWo.out w' (HX2.out.trans hx)).ints (by omega) (by omega)).mono (fun (e : Ending) (w'' : World) (h : e = .returned (.bool (V == W)) ∧ ∃ m, w'' = w'.drewN m) => (⟨h.1, by obtain ⟨_, q, rfl⟩ := h; exact Ext.drewN _ _⟩ : e = .returned (.bool (V == W)) ∧ Ext w' w'')))
        have hwr : IntKind.i64.wrap (M + L) = M + L := wrap_in (by omega) (by omega)
        have hm0 : (0 : Int) ≤ (m : Int) := by omega
        have hm1 : (0 : Int) < (m : Int) + 1 := by omega
        have hm5 : (m : Int) < (m : Int) + 1 := by omega
        have hm4 : IntKind.i64.wrap (m : Int) = m := wrap_in (by omega) (by omega)
        clear hV hM hVV HOc hVl
        cases hb : (V == W)
        · rw [hb] at HEq
          have HVW : Hid (V ≠ W) := by
            show _ ≠ _
            simpa using hb
          clear hb HSt HSuE
          go_wp2
          rw [← hw2]
          clear hw2 p1 p2
          (refine walkR_start (fun w' => Ext w2 w') 12 (by kernel_rfl) ?_; simp only [numbered, List.take_succ_cons, List.take_zero, Nat.zero_add, Nat.reduceAdd, List.length_cons, List.length_nil])
          (repeat (first | (refine walkR_still (v := ?_) rfl (by decide +kernel) rfl (fun _ _ _ h => h) hE ?_ ?_; rotate_left; (focus (intro w' hw'; obtain ⟨q1, q2⟩ := HS.out w' hw'; obtain ⟨y1, y2, y3, _⟩ := HOc2.out w' hw'; go_simp; all_goals (with_reducible rfl))); simp only [Act.put, List.setIfInBounds_toArray, List.set_cons_zero, List.set_cons_succ]) | (refine walkR_skip rfl (by decide +kernel) rfl (fun _ _ _ h => h) hE ?_; simp only [Act.put, List.setIfInBounds_toArray, List.set_cons_zero, List.set_cons_succ])))
          (refine walkR_only (fun w' => Ext w2 w') rfl (by decide +kernel) rfl (fun _ h => h) ?_; intro K hK; go_simp; refine (HEq.out _ hE).mono ?_; rintro e w25 ⟨rfl, hx25⟩; refine hK _ _ (hE.trans hx25) ?_; clear hK K; (try simp only [Act.put, List.setIfInBounds_toArray, List.set_cons_zero, List.set_cons_succ]))
          have hE2 := hE.trans hx25
          clear hx25
          (repeat (first | (refine walkR_still (v := ?_) rfl (by decide +kernel) rfl (fun _ _ _ h => h) hE2 ?_ ?_; rotate_left; (focus (intro w' hw'; skip; go_simp; all_goals (with_reducible rfl))); simp only [Act.put, List.setIfInBounds_toArray, List.set_cons_zero, List.set_cons_succ]) | (refine walkR_skip rfl (by decide +kernel) rfl (fun _ _ _ h => h) hE2 ?_; simp only [Act.put, List.setIfInBounds_toArray, List.set_cons_zero, List.set_cons_succ])))
          (refine walkR_tail (by rfl) (by kernel_rfl) ?_; simp only [List.drop_succ_cons, List.drop_zero])
          by_cases hL : 0 < L
          · have HSu2 : Hid (joinTo [] ps (k + 1) = joinTo [] ps k ++ [(W, L)]) := HSuN.out HVW.out (by omega)
            obtain ⟨q1, q2⟩ := HS.out _ hE2
            have HO3 := hidP (HO2.out.below hE2)
            obtain ⟨w3, hw3⟩ : ∃ w3, w3 = w25 := ⟨_, rfl⟩
            have HE3 : Hid (Ext w2 w3) := by rw [hw3]; exact hE2
            rw [← hw3] at HO3 q1 q2 ⊢
            clear hw3
            have HX4 := hidP (HX2.out.trans (HE3.out.trans (Ext.alloc w3 (.cells #[.slice al W.length cl, .int .i64 L] 69))))
            have HO4 := hidP (HO3.out.below (Ext.alloc w3 (.cells #[.slice al W.length cl, .int .i64 L] 69)))
            have HI4 := hidP (HWo.out _ HX4.out)
            have HFa := hidP (HO4.out.off_ints HI4.out)
            have HCe : Hid (∀ j, j < stepK.size → (w3.alloc (.cells #[.slice al W.length cl, .int .i64 L] 69)).cell? ⟨w3.heap.size, j, none⟩ = (stepK.cells al cl (W, L))[j]?) := fun j _ => (cell_top _ _ _ _ _ rfl).trans (by simp [stepK])
            go_wp2_with (at_builtin; refine wpList_append_elem2 stepK 28 (.agg #[.slice none 0 0, .int .i64 0]) 32 rfl (.tmp 46) (.tmp 48) rfl Tryz.underlying28 Tryz.info69 rfl (by omega) B _ (some ⟨g, 0, none⟩) (m + 1) co hso _ rfl HO4.out w3.heap.size 1 (al, cl) (W, L) rfl HCe.out HI4.out HAp.out HFa.out (by omega) (Nat.le_trans HB1.out HX4.out.size) ?_; intro a5 c5 w5 ho5 hg5 hn5; have HX5 := hidP (Below.own HX4.out hg5 HX4.out.size HNew.out HO4.out.addr); have HO5 := hidP ho5; have HN5 := hidP hn5; clear ho5 hg5 hn5)
            go_roundw
            case rel =>
              refine ⟨k + 1, a5, (m + 1) + 1, c5, hso ++ [(al, cl)], by omega, rfl, by go_num, by rw [HSu2.out]; exact HO5.out, HX5.out, fun b o e => ?_, fun i hi => ?_⟩
              · rcases HN5.out with h | h
                · exact HNew.out b o (h ▸ e)
                · exact Nat.le_trans HX4.out.size (h b o e)
              · by_cases hi2 : i < (m + 1)
                · obtain ⟨j, hj, e⟩ := HMem.out i hi2
                  exact ⟨j, by omega, by rw [← e]; exact getD_left _ _ _ _ (by rw [HO.out.hl]; exact hi2)⟩
                · obtain rfl : i = (m + 1) := by omega
                  exact ⟨k, by omega, by rw [Hhk.out, getD_right _ _ _ _ (by rw [HO.out.hl]; exact Nat.le_refl _), HO.out.hl, Nat.sub_self]; rfl⟩
            case measure => simp [intOf]; omega
          · obtain rfl : L = 0 := by omega
            have HSu2 : Hid (joinTo [] ps (k + 1) = joinTo [] ps k) := by
              show _ = _
              rw [HSu.out, addS_zero _ _ rfl]
            obtain ⟨q1, q2⟩ := HS.out _ hE2
            have HX4 := hidP (HX2.out.trans hE2)
            have HO4 := hidP (HO2.out.below hE2)
            go_wp2
            go_roundw
            case rel => exact ⟨k + 1, (some ⟨g, 0, none⟩), (m + 1), co, hso, by omega, rfl, by go_num, by rw [HSu2.out]; exact HO4.out.weaken (Nat.le_refl _) (HA2.out.trans hE2).size, HX4.out, HNew.out, fun i hi => by obtain ⟨j, hj, e⟩ := HMem.out i hi; exact ⟨j, by omega, e⟩⟩
            case measure => simp [intOf]; omega
        · rw [hb] at HEq
          have HSu2 : Hid (joinTo [] ps (k + 1) = (joinTo [] ps k).set m (V, M + L)) := HSuE.out (by simpa using hb)
          clear hb HSuE HSuN
          go_wp2
          rw [← hw2]
          clear hw2 p1 p2
          (refine walkR_start (fun w' => Ext w2 w') 12 (by kernel_rfl) ?_; simp only [numbered, List.take_succ_cons, List.take_zero, Nat.zero_add, Nat.reduceAdd, List.length_cons, List.length_nil])
          (repeat (first | (refine walkR_still (v := ?_) rfl (by decide +kernel) rfl (fun _ _ _ h => h) hE ?_ ?_; rotate_left; (focus (intro w' hw'; obtain ⟨q1, q2⟩ := HS.out w' hw'; obtain ⟨y1, y2, y3, _⟩ := HOc2.out w' hw'; go_simp; all_goals (with_reducible rfl))); simp only [Act.put, List.setIfInBounds_toArray, List.set_cons_zero, List.set_cons_succ]) | (refine walkR_skip rfl (by decide +kernel) rfl (fun _ _ _ h => h) hE ?_; simp only [Act.put, List.setIfInBounds_toArray, List.set_cons_zero, List.set_cons_succ])))
          (refine walkR_only (fun w' => Ext w2 w') rfl (by decide +kernel) rfl (fun _ h => h) ?_; intro K hK; go_simp; refine (HEq.out _ hE).mono ?_; rintro e w25 ⟨rfl, hx25⟩; refine hK _ _ (hE.trans hx25) ?_; clear hK K; (try simp only [Act.put, List.setIfInBounds_toArray, List.set_cons_zero, List.set_cons_succ]))
          have hE2 := hE.trans hx25
          clear hx25
          (repeat (first | (refine walkR_still (v := ?_) rfl (by decide +kernel) rfl (fun _ _ _ h => h) hE2 ?_ ?_; rotate_left; (focus (intro w' hw'; skip; go_simp; all_goals (with_reducible rfl))); simp only [Act.put, List.setIfInBounds_toArray, List.set_cons_zero, List.set_cons_succ]) | (refine walkR_skip rfl (by decide +kernel) rfl (fun _ _ _ h => h) hE2 ?_; simp only [Act.put, List.setIfInBounds_toArray, List.set_cons_zero, List.set_cons_succ])))
          (refine walkR_tail (by rfl) (by kernel_rfl) ?_; simp only [List.drop_succ_cons, List.drop_zero])
          go_wp2
          obtain ⟨w3, hw3⟩ : ∃ w3, w3 = w25 := ⟨_, rfl⟩
          have HE3 : Hid (Ext w2 w3) := by rw [hw3]; exact hE2
          rw [← hw3]
          clear hw3
          have hE3 := HE3.out.trans (Ext.drew w3)
          (refine walkR_start (fun w' => Ext w2 w') 11 (by kernel_rfl) ?_; simp only [numbered, List.take_succ_cons, List.take_zero, Nat.zero_add, Nat.reduceAdd, List.length_cons, List.length_nil])
          (repeat (first | (refine walkR_still (v := ?_) rfl (by decide +kernel) rfl (fun _ _ _ h => h) hE3 ?_ ?_; rotate_left; (focus (intro w' hw'; obtain ⟨q1, q2⟩ := HS.out w' hw'; obtain ⟨y1, y2, y3, _⟩ := HOc2.out w' hw'; go_simp; all_goals (with_reducible rfl))); simp only [Act.put, List.setIfInBounds_toArray, List.set_cons_zero, List.set_cons_succ]) | (refine walkR_skip rfl (by decide +kernel) rfl (fun _ _ _ h => h) hE3 ?_; simp only [Act.put, List.setIfInBounds_toArray, List.set_cons_zero, List.set_cons_succ])))
          (refine walkR_tail (by rfl) (by kernel_rfl) ?_; simp only [List.drop_succ_cons, List.drop_zero])
          obtain ⟨y1, y2, y3, _⟩ := HOc2.out _ hE3
          have HO4 := hidP (HSt.out _ ((HO.out.below HA2.out).below hE3))
          have hgN := hidP (HNew.out g 0 rfl)
          have HX4 := hidP (show Ext w1 (w3.drew.setCell ⟨g, m * 2 + 1, none⟩ (.int .i64 (M + L))) from Below.setCell (p := ⟨g, m * 2 + 1, none⟩) (HX2.out.trans hE3) hgN.out _)
          go_wp2
          go_roundw
          case rel =>
            refine ⟨k + 1, some ⟨g, 0, none⟩, m + 1, co, hso, by omega, rfl, by go_num, ?_, HX4.out, HNew.out, fun i hi => by obtain ⟨j, hj, e⟩ := HMem.out i hi; exact ⟨j, by omega, e⟩⟩
            rw [HSu2.out]
            refine OwnK.weaken HO4.out (Nat.le_refl _) ?_
            have := (HA2.out.trans hE3).size
            simpa [World.setCell] using this
          case measure => simp [intOf]; omega
    · obtain rfl : np = k := by omega
      have HJ : Hid (joinTo [] ps np = joinS ps) := by
        show _ = _
        rw [joinS_to, ← GP.out.xl]
      rw [HJ.out] at HO
      have HPO := hidP (pathOk_of R ta tn tc ts ao m co (joinS ps) wr HO.out.termsAt (by
        have := HO.out.row.1
        rcases HO.out.form with ⟨_, h0, _⟩ | ⟨_, _, _, _, _, _, h1, h2⟩
        · omega
        · unfold maxLen at h2; omega) (fun w' hx => HHs.out w' ((HX1.out.trans HX.out).trans hx)))
      rw [HT.out, Bool.true_and] at HPO
      obtain ⟨f0, f1⟩ := HC.out wr HX.out
      rw [show ((R : Int)).toNat = R from rfl] at HPO
      cases hpb : pathB R (joinS ps)
      · rw [hpb] at HPO
        have HCk : Hid (chk R ps = (false, [])) := by
          show _ = _
          unfold chk
          rw [hpb]
          rfl
        clear hpb
        go_wp2_with fail
        refine HPO.out.mono ?_
        rintro e w2 ⟨rfl, hx⟩
        have HX2 := hidP ((HX1.out.trans HX.out).trans hx)
        clear hx f0 f1
        go_wp2
        refine bodyPost_ret (v := .tuple #[.slice none 0 0, .bool false]) (by simp [results, Tryz.results92, go_sem]) rfl ⟨none, 0, 0, [], by rw [HCk.out], ?_, HX2.out⟩
        rw [HCk.out]
        exact OwnK.nil stepK _ _ _
      · rw [hpb] at HPO
        have HCk : Hid (chk R ps = (true, joinS ps)) := by
          show _ = _
          unfold chk
          rw [hpb]
          rfl
        clear hpb
        go_wp2_with fail
        refine HPO.out.mono ?_
        rintro e w2 ⟨rfl, hx⟩
        have HX2 := hidP ((HX1.out.trans HX.out).trans hx)
        have HO2 := hidP ((HO.out.below hx).weaken (Nat.le_refl _) hx.size)
        clear hx f0 f1
        go_wp2
        refine bodyPost_ret (v := .tuple #[.slice ao m co, .bool true]) (by simp [results, Tryz.results92, go_sem]) rfl ⟨ao, m, co, hso, by rw [HCk.out], ?_, HX2.out⟩
        rw [HCk.out]
        exact HO2.out
end Go.Proofs.YtfikkfbnlegflaaGreatDoor

namespace Go.Proofs.YtfikkfbnlegflaaGreatDoor
open Go.RowKit

variable {α : Type}
end Go.Proofs.YtfikkfbnlegflaaGreatDoor

namespace Go.Proofs.YtfikkfbnlegflaaGreatDoor
open Go.RowKit

def svs (xs : List ByteArray) : List Value := xs.map Value.string
theorem svs_length (xs : List ByteArray) : (svs xs).length = xs.length := by simp [svs]
theorem svs_one (xs : List ByteArray) : ∀ u ∈ svs xs, u.oneCell' = true := by
  intro u hu
  simp only [svs, List.mem_map] at hu
  obtain ⟨x, _, rfl⟩ := hu
  rfl
theorem svs_get (xs : List ByteArray) (i : Nat) (x : ByteArray) (h : xs[i]? = some x) : (svs xs)[i]? = some (.string x) := by simp [svs, h]
/-- an owned slice of strings, not nil -/
structure OwnS (w : World) (B : Nat) (a : Option Addr) (n c : Nat) (xs : List ByteArray) : Prop where
  row : w.ownsRow B 9 1 (.slice a n c) n (svs xs)
  nn : a ≠ none
theorem OwnS.len {w : World} {B : Nat} {a : Option Addr} {n c : Nat} {xs : List ByteArray} (h : OwnS w B a n c xs) : xs.length = n := by
  have := h.row.1
  simpa [svs_length] using this
theorem OwnS.form {w : World} {B : Nat} {a : Option Addr} {n c : Nat} {xs : List ByteArray} (h : OwnS w B a n c xs) : ∃ g, a = some ⟨g, 0, none⟩ ∧ B ≤ g ∧ g < w.heap.size ∧ n ≤ c ∧ c ≤ maxLen ∧ ∀ j x, xs[j]? = .some x → w.cell? ⟨g, 0 + j, none⟩ = .some (.string x) := by
  rcases h.row.2 with ⟨he, h0⟩ | ⟨g, cap, cur, he, hB, hg, hnc, hcm, hcs, ht⟩
  · simp only [Value.slice.injEq] at he
    exact absurd he.1 h.nn
  · have h2 := h.row
    simp only [Value.slice.injEq, true_and] at he
    obtain ⟨rfl, rfl⟩ := he
    refine ⟨g, rfl, hB, (Array.getElem?_eq_some_iff.1 hg).1, hnc, hcm, fun j x hx => ?_⟩
    have hj : j < xs.length := (List.getElem?_eq_some_iff.1 hx).1
    have h3 := h2.cellAt j (by have := h.len; omega)
    rw [svs_get xs j x hx] at h3
    rw [Nat.zero_add]
    exact h3
theorem OwnS.grown {w w' : World} {B : Nat} {a : Option Addr} {n c : Nat} {xs : List ByteArray} (h : OwnS w B a n c xs) {row : Option Nat} (hg : w.grownBy w' row) (hne : ∀ g o, a = .some ⟨g, o, none⟩ → .some g ≠ row) : OwnS w' B a n c xs := by
  refine ⟨h.row.kept hg ?_, h.nn⟩
  obtain ⟨g, rfl, _⟩ := h.form
  exact .inr (hne g 0 rfl)
theorem OwnS.below {w w' : World} {B : Nat} {a : Option Addr} {n c : Nat} {xs : List ByteArray} (h : OwnS w B a n c xs) (hb : Ext w w') : OwnS w' B a n c xs :=
  h.grown (row := none) ⟨hb.os, hb.tape, hb.output, hb.size, fun k hk _ => hb.block k hk⟩ (by simp)
theorem OwnS.made (w : World) (B : Nat) (hB : B ≤ w.heap.size) : OwnS (w.alloc (.cells #[] 9)) B (.some ⟨w.heap.size, 0, none⟩) 0 0 [] := by
  refine ⟨?_, by simp⟩
  have := World.ownsRow_lit (e := 9) (size := 1) (base := B) w #[] 0 hB (by unfold maxLen; omega) (by simp)
  simpa [svs] using this
theorem Tryz.info9 : (Tryz.prog.info? 9).map (fun i => (i.zero, i.size, i.bytes)) = some (some (.string ⟨#[]⟩), 1, 16) := by kernel_rfl
/-- append of one string -/
theorem wpList_append_str {ops : Array Oper} {rest : List Oper} {o : Oper} {a : Act} {Q : Exit → Act → World → Prop} {w : World} (hgd : o.guard = none) (s x : Operand)
    (ho : o.op = .call { callee := .builtin .append, args := #[s, x], argTypes := #[100, 100] })
    (B : Nat) (av : Option Addr) (nv cv : Nat) (xs : List ByteArray) (hs : a.eval s = .slice av nv cv) (hown : OwnS w B av nv cv xs)
    (g c : Nat) (y : ByteArray) (hx : a.eval x = .slice (some ⟨g, 0, none⟩) 1 c) (hy : w.cell? ⟨g, 0, none⟩ = some (.string y)) (hsm : nv ≤ 1000000000) (hB : B ≤ w.heap.size)
    (h : ∀ a' c' w', OwnS w' B a' (nv + 1) c' (xs ++ [y]) → w.grownBy w' (Value.slice av nv cv).ownBlock → wpList Tryz.prog ops Q rest (a.put o.dst (.slice a' (nv + 1) c')) w') : wpList Tryz.prog ops Q (o :: rest) a w := by
  obtain ⟨i, hi, hz0, hz1, hz2⟩ := info_parts Tryz.info9
  refine wpList_append_own w hgd s x 100 ho B 9 i (.string ⟨#[]⟩) 1 16 Tryz.underlying100 hi hz0 hz1 hz2 rfl (by decide) _ nv (svs xs) hs hown.row ⟨g, 0, none⟩ 1 c (svs [y]) hx (by simp [svs]) ?_ (svs_one [y]) (by unfold maxLen; omega) (by omega) hB ?_
  · intro j u hu
    cases j with
    | zero =>
      simp only [svs, List.map_cons, List.map_nil, List.getElem?_cons_zero, Option.some.injEq] at hu
      subst hu
      rw [add_none]
      exact hy
    | succ j => simp [svs] at hu
  · intro v' w' hr hg _
    rw [show svs xs ++ svs [y] = svs (xs ++ [y]) by simp [svs]] at hr
    rcases hr.2 with ⟨_, h0⟩ | ⟨g', cap, cur, he, _⟩
    · omega
    · subst he
      exact h _ _ w' ⟨hr, by simp⟩ hg
theorem OwnS.ext {w w' : World} {B : Nat} {a : Option Addr} {n c : Nat} {xs : List ByteArray} (h : OwnS w B a n c xs) (hg : w.grownBy w' (Value.slice a n c).ownBlock) {w0 : World} (hb : Ext w0 w) (hB : w0.heap.size ≤ B) : Ext w0 w' := by
  refine Below.grown hb hg hb.size fun k hk => ?_
  obtain ⟨g, rfl, h1, _⟩ := h.form
  simp only [Value.ownBlock, Option.some.injEq] at hk
  omega

/-! ### numbers as text -/
def str (l : List UInt8) : ByteArray := ⟨l.toArray⟩
theorem str_size (l : List UInt8) : (str l).size = l.length := by simp [str, ByteArray.size]
theorem str_append (l m : List UInt8) : str l ++ str m = str (l ++ m) := by
  apply ByteArray.ext
  simp [str]
end Go.Proofs.YtfikkfbnlegflaaGreatDoor

namespace Go.Proofs.YtfikkfbnlegflaaGreatDoor
open Go.RowKit

/-- a slice of strings, read -/
structure StrsAt (w : World) (a : Option Addr) (n : Nat) (ss : List ByteArray) : Prop where
  len : ss.length = n
  get : ∀ i, i < n → ∃ b o, a = some ⟨b, o, none⟩ ∧ w.cell? ⟨b, o + i, none⟩ = some (.string (ss.getD i ByteArray.empty))
theorem StrsAt.below {w w' : World} {a : Option Addr} {n : Nat} {ss : List ByteArray} (h : StrsAt w a n ss) (hb : Ext w w') : StrsAt w' a n ss := by
  refine ⟨h.len, fun i hi => ?_⟩
  obtain ⟨b, o, rfl, hc⟩ := h.get i hi
  exact ⟨b, o, rfl, (hb.cell (p := ⟨b, o + i, none⟩) (World.block_lt_of_cell? w _ hc)).trans hc⟩
theorem StrsAt.nil (w : World) (a : Option Addr) : StrsAt w a 0 [] := ⟨rfl, fun i h => by omega⟩
theorem strs_alloc (w : World) (ss : List ByteArray) (E : TypeId) : StrsAt (w.alloc (.cells (svs ss).toArray E)) (some ⟨w.heap.size, 0, none⟩) ss.length ss := by
  refine ⟨rfl, fun i hi => ⟨w.heap.size, 0, rfl, ?_⟩⟩
  rw [cell_top _ _ _ _ _ rfl, Nat.zero_add, List.getElem?_toArray]
  simp [svs, hi]
theorem OwnS.strs {w : World} {B : Nat} {a : Option Addr} {n c : Nat} {xs : List ByteArray} (h : OwnS w B a n c xs) : StrsAt w a n xs := by
  refine ⟨h.len, fun i hi => ?_⟩
  obtain ⟨g, rfl, _, _, _, _, hc⟩ := h.form
  have hl := h.len
  exact ⟨g, 0, rfl, hc i _ (by simp [show i < xs.length by omega])⟩

def nameS : List ByteArray := pNames.map str
theorem partNames_any (w : World) : Calls Tryz.prog 163 #[] w fun e w' => ∃ b, e = .returned (.slice (some ⟨b, 0, none⟩) 12 12) ∧ StrsAt w' (some ⟨b, 0, none⟩) 12 nameS ∧ Ext w w' := by
  go_enter Tryz.func163, Tryz.ntmps163
  go_wp2
  go_ret
  exact ⟨_, rfl, strs_alloc w nameS 9, Ext.alloc _ _⟩
theorem l5Names_any (w : World) : Calls Tryz.prog 105 #[] w fun e w' => ∃ b, e = .returned (.slice (some ⟨b, 0, none⟩) 12 12) ∧ StrsAt w' (some ⟨b, 0, none⟩) 12 nameS ∧ Ext w w' := by
  go_enter Tryz.func105, Tryz.ntmps105
  go_wp2
  go_ret
  exact ⟨_, rfl, strs_alloc w nameS 9, Ext.alloc _ _⟩

theorem UpdI.far {w w' : World} {g o n : Nat} {ys : List Int} (h : UpdI w w' (some ⟨g, o, none⟩) n ys) {b i : Nat} {v : Value} (hc : w.cell? ⟨b, i, none⟩ = some v) (hne : b ≠ g) : w'.cell? ⟨b, i, none⟩ = some v :=
  (World.cell?_of_block (a := ⟨b, i, none⟩) (h.other b (World.block_lt_of_cell? w _ hc) fun b' o' e _ => by cases e; exact hne)).trans hc
theorem UpdI.farF {w w' : World} {g o n : Nat} {ys : List Int} (h : UpdI w w' (some ⟨g, o, none⟩) n ys) {b i : Nat} (hb : b < w.heap.size) (hne : b ≠ g) : w'.frozen? ⟨b, i, none⟩ = w.frozen? ⟨b, i, none⟩ := by
  have := h.other b hb fun b' o' e _ => by cases e; exact hne
  simp only [World.frozen?, this]
theorem OwnI.setFar {w : World} {B g n c : Nat} {xs : List Int} (h : OwnI w B (some ⟨g, 0, none⟩) n c xs) (b i : Nat) (v : Value) (hne : g ≠ b) : OwnI (w.setCell ⟨b, i, none⟩ v) B (some ⟨g, 0, none⟩) n c xs :=
  h.grown (row := some b) ⟨rfl, rfl, rfl, by simp [World.setCell], fun k _ hk => Below.heap_setCell _ _ _ _ (fun e => hk (by rw [e]))⟩ (fun g' o e => by cases e; simpa using hne)
/-- places in a matrix of rank at most 4 -/
theorem idx4 {r i j : Int} (hr : r ≤ 4) (hi0 : 0 ≤ i) (hi : i < r) (_hj0 : 0 ≤ j) (hj : j < r) : 0 ≤ i * r ∧ i * r ≤ 12 ∧ i * r + j < r * r ∧ r * r ≤ 16 := by
  have h1 : (i + 1) * r ≤ r * r := Int.mul_le_mul_of_nonneg_right (by omega) (by omega)
  have h2 : 0 ≤ i * r := Int.mul_nonneg hi0 (by omega)
  have h3 : r * r ≤ 4 * 4 := Int.mul_le_mul hr hr (by omega) (by omega)
  have h4 : i * r ≤ 3 * 4 := Int.mul_le_mul (by omega) hr (by omega) (by omega)
  rw [Int.add_mul, Int.one_mul] at h1
  omega

theorem cartAt_any (r : Int) (a : Option Addr) (n c : Nat) (xs : List Int) (i j : Nat) (w : World) (h : IntsAt w a n xs) (hn : (n : Int) = r * r) (hr : r ≤ 4) (hi : (i : Int) < r) (hj : (j : Int) < r) :
    Calls Tryz.prog 154 #[carV r a n c, .int .i64 i, .int .i64 j] w fun e w' => e = .returned (.int .i64 (atM xs r.toNat i j)) ∧ Ext w w' := by
  obtain ⟨R, rfl⟩ : ∃ R : Nat, r = R := ⟨r.toNat, by omega⟩
  obtain ⟨h0, h1, h2, h3⟩ := idx4 hr (Int.natCast_nonneg i) hi (Int.natCast_nonneg j) hj
  rw [← hn] at h2 h3
  have hx : i * R + j < n := by
    have : ((i * R + j : Nat) : Int) < n := by rw [Int.natCast_add, Int.natCast_mul]; exact h2
    omega
  obtain ⟨b, o, rfl, hc⟩ := (h.below (Ext.alloc w (.cells #[.int .i64 R, .slice a n c] 31))).get _ hx
  have HA : Hid (xs.getD (i * R + j) 0 = atM xs (R : Int).toNat i j) := rfl
  rw [HA.out] at hc
  have hp : 0 ≤ (i : Int) * R + j := by omega
  have hCA := CarAt.new w _ rfl R (some ⟨b, o, none⟩) n c 31
  obtain ⟨f0, f1⟩ := hCA
  clear h hn
  go_enter Tryz.func154, Tryz.ntmps154
  go_wp2
  go_ret
  exact ⟨rfl, Ext.alloc _ _⟩
theorem l5At_any (r : Int) (a : Option Addr) (n c : Nat) (xs : List Int) (i j : Nat) (w : World) (h : IntsAt w a n xs) (hn : (n : Int) = r * r) (hr : r ≤ 4) (hi : (i : Int) < r) (hj : (j : Int) < r) :
    Calls Tryz.prog 119 #[carV r a n c, .int .i64 i, .int .i64 j] w fun e w' => e = .returned (.int .i64 (atM xs r.toNat i j)) ∧ Ext w w' := by
  obtain ⟨R, rfl⟩ : ∃ R : Nat, r = R := ⟨r.toNat, by omega⟩
  obtain ⟨h0, h1, h2, h3⟩ := idx4 hr (Int.natCast_nonneg i) hi (Int.natCast_nonneg j) hj
  rw [← hn] at h2 h3
  have hx : i * R + j < n := by
    have : ((i * R + j : Nat) : Int) < n := by rw [Int.natCast_add, Int.natCast_mul]; exact h2
    omega
  obtain ⟨b, o, rfl, hc⟩ := (h.below (Ext.alloc w (.cells #[.int .i64 R, .slice a n c] 31))).get _ hx
  have HA : Hid (xs.getD (i * R + j) 0 = atM xs (R : Int).toNat i j) := rfl
  rw [HA.out] at hc
  have hp : 0 ≤ (i : Int) * R + j := by omega
  have hCA := CarAt.new w _ rfl R (some ⟨b, o, none⟩) n c 31
  obtain ⟨f0, f1⟩ := hCA
  clear h hn
  go_enter Tryz.func119, Tryz.ntmps119
  go_wp2
  go_ret
  exact ⟨rfl, Ext.alloc _ _⟩

theorem callFunc_put (args : Array Value) (w : World) : Sem.run Tryz.prog (callFunc 174 args) w = .ok (.enter 174 args) w := by
  kernel_rfl
theorem callFunc_both (args : Array Value) (w : World) : Sem.run Tryz.prog (callFunc 175 args) w = .ok (.enter 175 args) w := by
  kernel_rfl
/-- one entry is written -/
theorem put_any (i j v n : Int) (bc bn g m c : Nat) (v0 : Value) (w : World) (h1 : w.cell? ⟨bc, 1, none⟩ = some (.slice (some ⟨g, 0, none⟩) m c)) (h2 : w.cell? ⟨bn, 0, none⟩ = some (.int .i64 n))
    (hi : 1 ≤ i) (hi2 : i ≤ n) (hj : 1 ≤ j) (hj2 : j ≤ n) (hn : n ≤ 4) (hm : (m : Int) = n * n) (hc : w.cell? ⟨g, ((i - 1) * n + j).toNat - 1, none⟩ = some v0) (hf : w.frozen? ⟨g, ((i - 1) * n + j).toNat - 1, none⟩ = false) :
    Calls Tryz.prog 174 #[.int .i64 i, .int .i64 j, .int .i64 v, .pointer (some ⟨bc, 0, none⟩), .pointer (some ⟨bn, 0, none⟩)] w fun e w' => e = .returned (.tuple #[]) ∧ w' = w.setCell ⟨g, ((i - 1) * n + j).toNat - 1, none⟩ (.int .i64 v) := by
  obtain ⟨k0, k1, k2, k3⟩ := idx4 (r := n) (i := i - 1) (j := j - 1) hn (by omega) (by omega) (by omega) (by omega)
  rw [← hm] at k2 k3
  have hp : 0 ≤ (i - 1) * n + j - 1 := by omega
  have hl : (i - 1) * n + j - 1 < m := by omega
  clear hm
  go_enter Tryz.func174, Tryz.ntmps174
  go_wp2
  go_end0
  exact ⟨rfl, rfl⟩
/-- a place in a matrix of rank n, as a number -/
theorem place4 {i j n : Int} {m : Nat} (hn : n ≤ 4) (hm : (m : Int) = n * n) (hi : 1 ≤ i) (hi2 : i ≤ n) (hj : 1 ≤ j) (hj2 : j ≤ n) : ((i - 1) * n + j).toNat - 1 < m := by
  obtain ⟨k0, k1, k2, k3⟩ := idx4 (r := n) (i := i - 1) (j := j - 1) hn (by omega) (by omega) (by omega) (by omega)
  omega
theorem put_upd (i j v n : Int) (bc bn g m c : Nat) (xs : List Int) (w0 w : World) (h1 : w.cell? ⟨bc, 1, none⟩ = some (.slice (some ⟨g, 0, none⟩) m c)) (h2 : w.cell? ⟨bn, 0, none⟩ = some (.int .i64 n))
    (hi : 1 ≤ i) (hi2 : i ≤ n) (hj : 1 ≤ j) (hj2 : j ≤ n) (hn : n ≤ 4) (hm : (m : Int) = n * n) (hx : UpdI w0 w (some ⟨g, 0, none⟩) m xs) (hf : ∀ t, t < m → w0.frozen? ⟨g, t, none⟩ = false) :
    Calls Tryz.prog 174 #[.int .i64 i, .int .i64 j, .int .i64 v, .pointer (some ⟨bc, 0, none⟩), .pointer (some ⟨bn, 0, none⟩)] w fun e w' => e = .returned (.tuple #[]) ∧ UpdI w0 w' (some ⟨g, 0, none⟩) m (xs.set (((i - 1) * n + j).toNat - 1) v) := by
  have hl := place4 hn hm hi hi2 hj hj2
  obtain ⟨q, hz⟩ := hx.cellInt _ hl
  rw [Nat.zero_add] at q hz
  refine (put_any i j v n bc bn g m c _ w h1 h2 hi hi2 hj hj2 hn hm q (hz.trans (hf _ hl))).mono ?_
  rintro e w' ⟨rfl, rfl⟩
  refine ⟨rfl, ?_⟩
  have := hx.store _ hl v
  rwa [Nat.zero_add] at this
/-- what the closures hold -/
structure PutAt (w : World) (bp bc bn g m c : Nat) (n : Int) : Prop where
  hp : w.cell? ⟨bp, 0, none⟩ = some (.func (.func 174) #[] #[.pointer (some ⟨bc, 0, none⟩), .pointer (some ⟨bn, 0, none⟩)])
  h1 : w.cell? ⟨bc, 1, none⟩ = some (.slice (some ⟨g, 0, none⟩) m c)
  h2 : w.cell? ⟨bn, 0, none⟩ = some (.int .i64 n)
  np : bp ≠ g
  nc : bc ≠ g
  nn : bn ≠ g
theorem PutAt.upd {w w' : World} {bp bc bn g m c : Nat} {n : Int} (h : PutAt w bp bc bn g m c n) {ys : List Int} (hu : UpdI w w' (some ⟨g, 0, none⟩) m ys) : PutAt w' bp bc bn g m c n :=
  ⟨hu.far h.hp h.np, hu.far h.h1 h.nc, hu.far h.h2 h.nn, h.np, h.nc, h.nn⟩
theorem both_upd (i j n : Int) (bp bc bn g m c : Nat) (xs : List Int) (w0 w : World) (hP : PutAt w0 bp bc bn g m c n)
    (hi : 1 ≤ i) (hi2 : i ≤ n) (hj : 1 ≤ j) (hj2 : j ≤ n) (hn : n ≤ 4) (hm : (m : Int) = n * n) (hx : UpdI w0 w (some ⟨g, 0, none⟩) m xs) (hf : ∀ t, t < m → w0.frozen? ⟨g, t, none⟩ = false) :
    Calls Tryz.prog 175 #[.int .i64 i, .int .i64 j, .pointer (some ⟨bp, 0, none⟩)] w fun e w' => e = .returned (.tuple #[]) ∧ UpdI w0 w' (some ⟨g, 0, none⟩) m ((xs.set (((i - 1) * n + j).toNat - 1) (-1)).set (((j - 1) * n + i).toNat - 1) (-1)) := by
  obtain ⟨f0, f1, f2, _, _, _⟩ := hP.upd hx
  have h1 := hidP (put_upd i j (-1) n bc bn g m c xs w0 w f1 f2 hi hi2 hj hj2 hn hm hx hf)
  have h2 := hidP (fun w1 (hx1 : UpdI w0 w1 (some ⟨g, 0, none⟩) m (xs.set (((i - 1) * n + j).toNat - 1) (-1))) => put_upd j i (-1) n bc bn g m c _ w0 w1 (hP.upd hx1).h1 (hP.upd hx1).h2 hj hj2 hi hi2 hn hm hx1 hf)
  have H := hidP hP
  have kp := callFunc_put
  clear hP hx hf hm f1 f2
  go_enter Tryz.func175, Tryz.ntmps175
  go_wp2_with fail
  refine h1.out.mono ?_
  rintro e w1 ⟨rfl, hx1⟩
  obtain ⟨g0, _, _, _, _, _⟩ := H.out.upd hx1
  have h3 := hidP (h2.out w1 hx1)
  clear hx1 f0
  go_wp2_with fail
  refine h3.out.mono ?_
  rintro e w2 ⟨rfl, hx2⟩
  go_wp2
  go_end0
  exact ⟨rfl, hx2⟩
end Go.Proofs.YtfikkfbnlegflaaGreatDoor

namespace Go.Proofs.YtfikkfbnlegflaaGreatDoor
open Go.RowKit

theorem containsS_any (a : Option Addr) (n c : Nat) (ss : List ByteArray) (x : ByteArray) (w : World) (h : StrsAt w a n ss) (hn : n ≤ 1000000000000) :
    Calls Tryz.prog 173 #[.slice a n c, .string x] w fun e w' => e = .returned (.bool (Lib.containsS ss x)) ∧ w = w' := by
  have hl := h.len
  rcases Nat.eq_zero_or_pos n with rfl | h0
  · have : ss = [] := List.eq_nil_of_length_eq_zero hl
    subst this
    exact (Tryz.slices_Contains_string_empty a c x w).mono fun e w' ⟨he, hw⟩ => ⟨he, hw.symm⟩
  · obtain ⟨b, o, rfl, _⟩ := h.get 0 h0
    refine (Tryz.slices_Contains_string b o n c ss x w (by omega) (by omega) fun j hj => ?_).mono fun e w' ⟨he, hw⟩ => ⟨?_, hw.symm⟩
    · obtain ⟨b', o', e, hc⟩ := h.get j (by omega)
      simp only [Option.some.injEq, Addr.mk.injEq, and_true] at e
      obtain ⟨rfl, rfl⟩ := e
      exact hc
    · rw [he, List.take_of_length_le (by omega)]

def chainM (n : Nat) (d4 : Bool) : Nat → List Int
  | 0 => List.replicate (n * n) 0
  | i + 1 => if decide (i + 1 < n) && !d4 then (((chainM n d4 i).set (i * n + i) 2).set (i * n + (i + 1)) (-1)).set ((i + 1) * n + i) (-1) else (chainM n d4 i).set (i * n + i) 2
def letterN (k : Nat) : Nat := if k < 4 then 65 else if k < 7 then 66 else if k < 9 then 67 else if k = 9 then 68 else if k = 10 then 70 else 71
theorem place_nat (a b n : Nat) : (((a : Int) + 1 - 1) * (n : Int) + ((b : Int) + 1)).toNat - 1 = a * n + b := by
  have : ((a : Int) + 1 - 1) * (n : Int) + ((b : Int) + 1) = ((a * n + b + 1 : Nat) : Int) := by
    rw [Int.add_sub_cancel, Int.natCast_add, Int.natCast_add, Int.natCast_mul]
    omega
  rw [this]
  omega
set_option maxRecDepth 100000 in
set_option maxHeartbeats 4000000 in
theorem partCartan_any (k : Nat) (hk : k < 12) (s : ByteArray) (hs : s = nameS.getD k ByteArray.empty) (w : World) :
    Calls Tryz.prog 165 #[.string s] w fun e w' => ∃ a, e = .returned (.tuple #[carV (pRank k) a (pRank k * pRank k) (pRank k * pRank k), .bool true]) ∧ OwnI w' w.heap.size a (pRank k * pRank k) (pRank k * pRank k) (pMat k) ∧ Ext w w' := by
  have hc : Lib.containsS nameS s = true := by
    subst hs
    have : ∀ k, k < 12 → Lib.containsS nameS (nameS.getD k ByteArray.empty) = true := by decide +kernel
    exact this k hk
  have h2 : s.size = 2 := by
    subst hs
    have : ∀ k, k < 12 → (nameS.getD k ByteArray.empty).size = 2 := by decide +kernel
    exact this k hk
  have h2' : 1 < s.size := by omega
  obtain ⟨hn1, hn4⟩ := pRank_pos k hk
  have hb : ((s[1].toNat : Int) - 48) % 256 = (pRank k : Int) := by
    have key : ∀ k, k < 12 → ((((nameS.getD k ByteArray.empty).data[1]?.getD 0).toNat : Int) - 48) % 256 = (pRank k : Int) := by decide +kernel
    have := key k hk
    rw [← hs] at this
    rw [← this]
    congr 2
    have h3 : 1 < s.data.size := h2'
    rw [Array.getElem?_eq_getElem h3]
    rfl
  have hD : (s.toList == [68, 52]) = (k == 9) := by
    have key : ∀ k, k < 12 → ((nameS.getD k ByteArray.empty).toList == [68, 52]) = (k == 9) := by decide +kernel
    rw [hs]
    exact key k hk
  have HD := hidP hD
  have HL0 : Hid (∀ c, letterN k = c → s[0].toNat = c) := by
    rintro c rfl
    have key : ∀ k, k < 12 → ((nameS.getD k ByteArray.empty).data[0]?.getD 0).toNat = letterN k := by decide +kernel
    have := key k hk
    rw [← hs] at this
    rw [← this]
    have h3 : 0 < s.data.size := by have : s.data.size = 2 := h2; omega
    rw [Array.getElem?_eq_getElem h3]
    rfl
  clear hD
  obtain ⟨d4, hd4⟩ : ∃ d, d = (k == 9) := ⟨_, rfl⟩
  rw [← hd4] at HD
  generalize hnk : pRank k = n at *
  have HK := hidP hnk
  have HK4 := hidP hd4
  clear hnk hd4
  have HC := hidP hc
  have HN := hidP (fun w' => partNames_any w')
  clear hc hs
  go_enter Tryz.func165, Tryz.ntmps165
  go_wp2_with fail
  refine (HN.out _).mono ?_
  rintro e w1 ⟨bn, rfl, hs1, hx1⟩
  have HX1 := hidP ((Ext.alloc w (.cells #[.int .i64 0, .slice none 0 0] 31)).trans hx1)
  have HX1a := hidP hx1
  have HB2 : Hid (w.heap.size < w1.heap.size) := by show _ < _; have := hx1.size; simp at this; omega
  have H1 := hidP (containsS_any _ 12 12 nameS s w1 hs1 (by omega))
  rw [HC.out] at H1
  clear hs1 hx1
  go_wp2_with fail
  refine H1.out.mono ?_
  rintro e w' ⟨rfl, rfl⟩
  go_wp2
  have hx4 := Ext.alloc w1 (.cells #[.int .i64 n] 3)
  have hq4 : (w1.alloc (.cells #[.int .i64 n] 3)).cell? ⟨w1.heap.size, 0, none⟩ = some (.int .i64 n) := (cell_top _ _ _ _ _ rfl).trans rfl
  obtain ⟨b4, hb4⟩ : ∃ b, b = w1.heap.size := ⟨_, rfl⟩
  obtain ⟨w4, hw4⟩ : ∃ w, w = w1.alloc (.cells #[.int .i64 n] 3) := ⟨_, rfl⟩
  rw [← hb4] at hq4 ⊢
  rw [← hw4] at hx4 hq4 ⊢
  have hnn : (n : Int) * n ≤ 16 := by
    have := Nat.mul_le_mul hn4 hn4
    have h : ((n * n : Nat) : Int) ≤ ((4 * 4 : Nat) : Int) := by exact_mod_cast this
    rw [Int.natCast_mul] at h
    exact h
  have hnn0 : 0 ≤ (n : Int) * n := Int.mul_nonneg (by omega) (by omega)
  have hmk := make_ints ((n : Int) * n) hnn0 (by omega)
  have hwr : IntKind.i64.wrap ((n : Int) * n) = (n : Int) * n := wrap_in (by omega) (by omega)
  have hmn : ((n : Int) * n).toNat = n * n := by rw [← Int.natCast_mul]; rfl
  rw [hmn] at hmk
  clear hmn hw4 hb4 hb
  go_region_held3 (fun w' => w'.cell? ⟨b4, 0, none⟩ = some (.int .i64 n)) (go_keep) (fail)
  all_goals first
    | (
        have hz := OwnI.made w4 w.heap.size (n * n) (by have := HX1.out.size; have := hx4.size; omega) (by unfold maxLen; omega)
        have hxa := Ext.alloc w4 (.cells (Array.replicate (n * n) (.int .i64 0)) 3)
        have hxb := Ext.alloc (w4.alloc (.cells (Array.replicate (n * n) (.int .i64 0)) 3)) (.cells #[.int .i64 n, .slice (some ⟨w4.heap.size, 0, none⟩) (n * n) (n * n)] 31)
        have hcar := CarAt.new (w4.alloc (.cells (Array.replicate (n * n) (.int .i64 0)) 3)) (w4.heap.size + 1) (by simp) n (some ⟨w4.heap.size, 0, none⟩) (n * n) (n * n) 31
        obtain ⟨w5, hw5⟩ : ∃ w5, w5 = ((w4.alloc (Obj.cells (Array.replicate (n * n) (Value.int IntKind.i64 0)) 3)).alloc (Obj.cells #[Value.int IntKind.i64 ↑n, Value.slice (some ⟨w4.heap.size, 0, none⟩) (n * n) (n * n)] 31)).drew := ⟨_, rfl⟩
        have hx5 : Ext w4 w5 := by rw [hw5]; exact (hxa.trans hxb).trans (Ext.drew _)
        have ho5 : OwnI w5 w.heap.size (some ⟨w4.heap.size, 0, none⟩) (n * n) (n * n) (List.replicate (n * n) 0) := by rw [hw5]; exact (hz.below hxb).below (Ext.drew _)
        have hc5 : CarAt w5 (w4.heap.size + 1) n (some ⟨w4.heap.size, 0, none⟩) (n * n) (n * n) := by rw [hw5]; exact hcar.below (Ext.drew _)
        rw [← hw5]
        clear hw5 hz hxa hxb hcar
        obtain ⟨g, hg⟩ : ∃ g, g = w4.heap.size := ⟨_, rfl⟩
        obtain ⟨b5, hb5⟩ : ∃ b, b = w4.heap.size + 1 := ⟨_, rfl⟩
        have hne : b5 ≠ g := by omega
        have hg4 : w4.heap.size ≤ g := by omega
        rw [← hb5] at hc5 ⊢
        rw [← hg] at ho5 hc5 ⊢
        clear hg hb5)
    | (
        have hxa := Ext.alloc w4 (.cells #[.int .i64 n, .slice (some ⟨w4.heap.size + 1, 0, none⟩) (n * n) (n * n)] 31)
        have hz := OwnI.made (w4.alloc (.cells #[.int .i64 n, .slice (some ⟨w4.heap.size + 1, 0, none⟩) (n * n) (n * n)] 31)) w.heap.size (n * n) (by have := HX1.out.size; have := hx4.size; have := hxa.size; omega) (by unfold maxLen; omega)
        have hxb := Ext.alloc (w4.alloc (.cells #[.int .i64 n, .slice (some ⟨w4.heap.size + 1, 0, none⟩) (n * n) (n * n)] 31)) (.cells (Array.replicate (n * n) (.int .i64 0)) 3)
        have hcar := (CarAt.new w4 w4.heap.size rfl n (some ⟨w4.heap.size + 1, 0, none⟩) (n * n) (n * n) 31).below hxb
        rw [show (w4.alloc (.cells #[.int .i64 n, .slice (some ⟨w4.heap.size + 1, 0, none⟩) (n * n) (n * n)] 31)).heap.size = w4.heap.size + 1 by simp] at hz
        obtain ⟨w5, hw5⟩ : ∃ w5, w5 = ((w4.alloc (Obj.cells #[Value.int IntKind.i64 ↑n, Value.slice (some ⟨w4.heap.size + 1, 0, none⟩) (n * n) (n * n)] 31)).alloc (Obj.cells (Array.replicate (n * n) (Value.int IntKind.i64 0)) 3)).drew := ⟨_, rfl⟩
        have hx5 : Ext w4 w5 := by rw [hw5]; exact (hxa.trans hxb).trans (Ext.drew _)
        have ho5 : OwnI w5 w.heap.size (some ⟨w4.heap.size + 1, 0, none⟩) (n * n) (n * n) (List.replicate (n * n) 0) := by rw [hw5]; exact hz.below (Ext.drew _)
        have hc5 : CarAt w5 w4.heap.size n (some ⟨w4.heap.size + 1, 0, none⟩) (n * n) (n * n) := by rw [hw5]; exact hcar.below (Ext.drew _)
        rw [← hw5]
        clear hw5 hz hxa hxb hcar
        obtain ⟨g, hg⟩ : ∃ g, g = w4.heap.size + 1 := ⟨_, rfl⟩
        obtain ⟨b5, hb5⟩ : ∃ b, b = w4.heap.size := ⟨_, rfl⟩
        have hne : b5 ≠ g := by omega
        have hg4 : w4.heap.size ≤ g := by omega
        rw [← hg] at ho5 hc5 ⊢
        rw [← hb5] at hc5 ⊢
        clear hg hb5)
  all_goals
    have H5 := hidP ho5
    have HC5 := hidP hc5
    have HX5 := hidP ((HX1.out.trans hx4).trans hx5)
    have HX45 := hidP hx5
    have HX16 := hidP hx4
    have HG := hidP hne
    have HG4 := hidP hg4
    have hcp := callFunc_put
    have hcb := callFunc_both
    clear ho5 hc5 hx5 hx4 hne hg4 hwr hmk HC HN
    go_wp2
    have hx6 := Ext.alloc w5 (.cells #[.func (.func 174) #[] #[.pointer (some ⟨b5, 0, none⟩), .pointer (some ⟨b4, 0, none⟩)]] 156)
    have hq6 : (w5.alloc (.cells #[.func (.func 174) #[] #[.pointer (some ⟨b5, 0, none⟩), .pointer (some ⟨b4, 0, none⟩)]] 156)).cell? ⟨w5.heap.size, 0, none⟩ = some (.func (.func 174) #[] #[.pointer (some ⟨b5, 0, none⟩), .pointer (some ⟨b4, 0, none⟩)]) := (cell_top _ _ _ _ _ rfl).trans rfl
    obtain ⟨b6, hb6⟩ : ∃ b, b = w5.heap.size := ⟨_, rfl⟩
    obtain ⟨w6, hw6⟩ : ∃ w, w = w5.alloc (.cells #[.func (.func 174) #[] #[.pointer (some ⟨b5, 0, none⟩), .pointer (some ⟨b4, 0, none⟩)]] 156) := ⟨_, rfl⟩
    rw [← hb6] at hq6 ⊢
    rw [← hw6] at hx6 hq6 ⊢
    have hb4 : b4 < w4.heap.size := World.block_lt_of_cell? w4 _ hq4
    have hg5 : g < w5.heap.size := (H5.out.at_base g 0 rfl).2
    have n1 : b6 ≠ g := by omega
    have n3 : b4 ≠ g := by have := HG4.out; omega
    have h46 : b4 < w6.heap.size := Nat.lt_of_lt_of_le hb4 (Nat.le_trans (show w4.heap.size ≤ w5.heap.size from HX45.out.size) hx6.size)
    have HGW : Hid (g ≠ w.heap.size) := by show _ ≠ _; have := HG4.out; have := HB2.out; have := HX16.out.size; omega
    have HGB : Hid (w.heap.size ≤ g) := by show _ ≤ _; have := HG4.out; have := HB2.out; have := HX16.out.size; omega
    have HP6 : Hid (PutAt w6 b6 b5 b4 g (n * n) (n * n) n) :=
      ⟨hq6, (HC5.out.below hx6).c1, (hx6.cell (p := ⟨b4, 0, none⟩) (Nat.lt_of_lt_of_le hb4 HX45.out.size)).trans ((HX45.out.cell (p := ⟨b4, 0, none⟩) hb4).trans hq4), n1, HG.out, n3⟩
    clear n1 n3 hb4 hg5
    have H6 := hidP (H5.out.below hx6)
    have HX6 := hidP (HX5.out.trans hx6)
    have HF6 : Hid (∀ t, t < n * n → w6.frozen? ⟨g, t, none⟩ = false) := fun t ht => by
      have := H6.out.unfrozen t g 0 ht rfl
      rwa [Nat.zero_add] at this
    have HC6 := hidP (HC5.out.below hx6)
    have HR6 : Hid (∀ v fin, UpdI w6 v (some ⟨g, 0, none⟩) (n * n) fin → v.cell? ⟨w.heap.size, 0, none⟩ = some (.int .i64 0) ∧ v.cell? ⟨w.heap.size, 1, none⟩ = some (.slice none 0 0) ∧ v.frozen? ⟨w.heap.size, 0, none⟩ = false ∧ v.frozen? ⟨w.heap.size, 1, none⟩ = false ∧ w.heap.size < v.heap.size) := fun v fin hu => by
      have hx := (HX1a.out.trans (HX16.out.trans HX45.out)).trans hx6
      obtain ⟨a0, a1⟩ := new_cell (w := w) (b := w.heap.size) rfl hx 0
      obtain ⟨b0, b1⟩ := new_cell (w := w) (b := w.heap.size) rfl hx 1
      have hlt : w.heap.size < w6.heap.size := by have := hx.size; simp at this; omega
      exact ⟨hu.far a0 (Ne.symm HGW.out), hu.far b0 (Ne.symm HGW.out), (hu.farF hlt (Ne.symm HGW.out)).trans a1, (hu.farF hlt (Ne.symm HGW.out)).trans b1, Nat.lt_of_lt_of_le hlt hu.size⟩
    have HU0 := hidP (UpdI.start H6.out.ints)
    have hb26 : w.heap.size < w6.heap.size := by have := HX45.out.size; have := hx6.size; have := HB2.out; have := HX16.out.size; omega
    have hm : ((n * n : Nat) : Int) = (n : Int) * n := Int.natCast_mul n n
    have HMM := hidP hm
    clear hm
    clear hq6 hx6 H5 HC5 HX5 HX45 hw6 hb6 hq4
    go_loopw [8] (fun i wr => ∃ q : Nat, q ≤ n ∧ i = .int .i64 ((q : Int) + 1) ∧ Hid (UpdI w6 wr (some ⟨g, 0, none⟩) (n * n) (chainM n d4 q))) (fun i _ => n + 1 - (intOf i).toNat)
    case atStart => exact ⟨0, Nat.zero_le _, rfl, HU0⟩
    case round =>
      obtain ⟨q, hq, rfl, HU⟩ := hrel
      by_cases hlt : q < n
      · have HPU := hidP (put_upd ((q : Int) + 1) ((q : Int) + 1) 2 n b5 b4 g (n * n) (n * n) _ w6 wr (HP6.out.upd HU.out).h1 (HP6.out.upd HU.out).h2 (by omega) (by omega) (by omega) (by omega) (by omega) HMM.out HU.out HF6.out)
        rw [place_nat] at HPU
        obtain ⟨f0, f1, f2, _, _, _⟩ := HP6.out.upd HU.out
        go_wp2_with fail
        refine HPU.out.mono ?_
        rintro e w7 ⟨rfl, hu7⟩
        have HU7 := hidP hu7
        clear hu7 f0 f1 f2 HPU
        obtain ⟨f0, f1, f2, _, _, _⟩ := HP6.out.upd HU7.out
        by_cases hq1 : q + 1 < n
        · have hq1' : (q : Int) + 1 < n := by omega
          cases d4
          · have hd := HD.out
            have HE : Hid (chainM n false (q + 1) = (((chainM n false q).set (q * n + q) 2).set (q * n + (q + 1)) (-1)).set ((q + 1) * n + q) (-1)) := by
              show _ = _
              rw [chainM, if_pos (by simp [hq1])]
            have HBU := hidP (both_upd ((q : Int) + 1) ((q : Int) + 1 + 1) n b6 b5 b4 g (n * n) (n * n) _ w6 w7 HP6.out (by omega) (by omega) (by omega) (by omega) (by omega) HMM.out HU7.out HF6.out)
            rw [show (q : Int) + 1 + 1 = ((q + 1 : Nat) : Int) + 1 by omega, place_nat, place_nat, ← HE.out] at HBU
            simp only [Int.natCast_add, Int.cast_ofNat_Int] at HBU
            go_wp2_with fail
            refine HBU.out.mono ?_
            rintro e w8 ⟨rfl, hu8⟩
            have HU8 := hidP hu8
            clear hu8 f0 f1 f2 HBU
            go_wp2
            go_roundw
            case rel => exact ⟨q + 1, by omega, by go_num, HU8⟩
            case measure => simp [intOf]; omega
          · have hd := HD.out
            have HE : Hid (chainM n true (q + 1) = (chainM n true q).set (q * n + q) 2) := by
              show _ = _
              rw [chainM, if_neg (by simp)]
            rw [← HE.out] at HU7
            go_wp2
            go_roundw
            case rel => exact ⟨q + 1, by omega, by go_num, HU7⟩
            case measure => simp [intOf]; omega
        · have hq1' : ¬ (q : Int) + 1 < n := by omega
          have HE : Hid (chainM n d4 (q + 1) = (chainM n d4 q).set (q * n + q) 2) := by
            show _ = _
            rw [chainM, if_neg (by simp [hq1])]
          rw [← HE.out] at HU7
          go_wp2
          go_roundw
          case rel => exact ⟨q + 1, by omega, by go_num, HU7⟩
          case measure => simp [intOf]; omega
      · obtain rfl : q = n := by omega
        have HKQ := HK
        have hcase : k < 4 ∨ (4 ≤ k ∧ k < 7) ∨ (7 ≤ k ∧ k < 9) ∨ k = 9 ∨ k = 10 ∨ k = 11 := by omega
        rcases hcase with hkc | hkc | hkc | hkc | hkc | hkc
        · have h0 : s[0].toNat = 65 := HL0.out 65 (by unfold letterN; rw [if_pos hkc])
          have HCK := hidP hkc
          clear hkc
          obtain ⟨fin, hfin⟩ : ∃ l, l = pMat k := ⟨_, rfl⟩
          have HUF : Hid (UpdI w6 wr (some ⟨g, 0, none⟩) (q * q) fin) := by
            have h := HU.out
            show UpdI _ _ _ _ _
            rw [hfin]
            obtain rfl | rfl | rfl | rfl : k = 0 ∨ k = 1 ∨ k = 2 ∨ k = 3 := by have := HCK.out; omega
            all_goals
              have hd := HK4.out
              have hn := HK.out
              subst hd
              subst hn
              exact h
          have HFN := hidP hfin
          clear hfin
          obtain ⟨g0, g1⟩ := HC6.out
          have f0 := HUF.out.far g0 HG.out
          obtain ⟨f2, f1, f3, _, _, _⟩ := HP6.out.upd HUF.out
          obtain ⟨r0, r1, r2, r3, r4⟩ := HR6.out wr fin HUF.out
          have HEnd : Hid (OwnI ((wr.setCell ⟨w.heap.size, 0, none⟩ (.int .i64 q)).setCell ⟨w.heap.size, 1, none⟩ (.slice (some ⟨g, 0, none⟩) (q * q) (q * q))) w.heap.size (some ⟨g, 0, none⟩) (q * q) (q * q) (pMat k) ∧ Ext w ((wr.setCell ⟨w.heap.size, 0, none⟩ (.int .i64 q)).setCell ⟨w.heap.size, 1, none⟩ (.slice (some ⟨g, 0, none⟩) (q * q) (q * q)))) := by
            refine ⟨?_, ?_⟩
            · have h := HUF.out.own H6.out
              rw [HFN.out] at h
              exact (h.setFar _ 0 _ (HGW.out)).setFar _ 1 _ (HGW.out)
            · have h : Ext w wr := HUF.out.below HX6.out HX6.out.size fun b o e _ => by cases e; exact HGB.out
              exact (h.setNew _ _ (Nat.le_refl _) _).setNew _ _ (Nat.le_refl _) _
          clear g0 g1
          go_wp2
          refine bodyPost_ret (v := .tuple #[carV q (some ⟨g, 0, none⟩) (q * q) (q * q), .bool true]) (by simp [results, Tryz.results165, go_sem, r0, r1]) rfl ⟨some ⟨g, 0, none⟩, rfl, ?_, ?_⟩
          · exact HEnd.out.1
          · exact HEnd.out.2
        · have h0 : s[0].toNat = 66 := HL0.out 66 (by unfold letterN; rw [if_neg (by omega), if_pos (by omega)])
          have hq2 : 2 ≤ q := by
            have key : ∀ k, k < 12 → (4 ≤ k ∧ k < 7) → 2 ≤ pRank k := by decide
            rw [← HK.out]
            exact key k hk hkc
          have HCK := hidP hkc
          clear hkc
          obtain ⟨f0, f1, f2, _, _, _⟩ := HP6.out.upd HU.out
          have HPU := hidP (put_upd ((q : Int)) ((q : Int) - 1) (-2) q b5 b4 g (q * q) (q * q) _ w6 wr (HP6.out.upd HU.out).h1 (HP6.out.upd HU.out).h2 (by omega) (by omega) (by omega) (by omega) (by omega) HMM.out HU.out HF6.out)
          go_wp2_with fail
          refine HPU.out.mono ?_
          rintro e v1 ⟨rfl, hu⟩
          have HU11 := hidP hu
          clear hu f0 f1 f2 HPU
          obtain ⟨fin, hfin⟩ : ∃ l, l = pMat k := ⟨_, rfl⟩
          have HUF : Hid (UpdI w6 v1 (some ⟨g, 0, none⟩) (q * q) fin) := by
            have h := HU11.out
            show UpdI _ _ _ _ _
            rw [hfin]
            obtain rfl | rfl | rfl : k = 4 ∨ k = 5 ∨ k = 6 := by have := HCK.out; omega
            all_goals
              have hd := HK4.out
              have hn := HK.out
              subst hd
              subst hn
              exact h
          have HFN := hidP hfin
          clear hfin
          obtain ⟨g0, g1⟩ := HC6.out
          have f0 := HUF.out.far g0 HG.out
          obtain ⟨f2, f1, f3, _, _, _⟩ := HP6.out.upd HUF.out
          obtain ⟨r0, r1, r2, r3, r4⟩ := HR6.out v1 fin HUF.out
          have HEnd : Hid (OwnI ((v1.setCell ⟨w.heap.size, 0, none⟩ (.int .i64 q)).setCell ⟨w.heap.size, 1, none⟩ (.slice (some ⟨g, 0, none⟩) (q * q) (q * q))) w.heap.size (some ⟨g, 0, none⟩) (q * q) (q * q) (pMat k) ∧ Ext w ((v1.setCell ⟨w.heap.size, 0, none⟩ (.int .i64 q)).setCell ⟨w.heap.size, 1, none⟩ (.slice (some ⟨g, 0, none⟩) (q * q) (q * q)))) := by
            refine ⟨?_, ?_⟩
            · have h := HUF.out.own H6.out
              rw [HFN.out] at h
              exact (h.setFar _ 0 _ (HGW.out)).setFar _ 1 _ (HGW.out)
            · have h : Ext w v1 := HUF.out.below HX6.out HX6.out.size fun b o e _ => by cases e; exact HGB.out
              exact (h.setNew _ _ (Nat.le_refl _) _).setNew _ _ (Nat.le_refl _) _
          clear g0 g1
          go_wp2
          refine bodyPost_ret (v := .tuple #[carV q (some ⟨g, 0, none⟩) (q * q) (q * q), .bool true]) (by simp [results, Tryz.results165, go_sem, r0, r1]) rfl ⟨some ⟨g, 0, none⟩, rfl, ?_, ?_⟩
          · exact HEnd.out.1
          · exact HEnd.out.2
        · have h0 : s[0].toNat = 67 := HL0.out 67 (by unfold letterN; rw [if_neg (by omega), if_neg (by omega), if_pos (by omega)])
          have hq2 : 3 ≤ q := by
            have key : ∀ k, k < 12 → (7 ≤ k ∧ k < 9) → 3 ≤ pRank k := by decide
            rw [← HK.out]
            exact key k hk hkc
          have HCK := hidP hkc
          clear hkc
          obtain ⟨f0, f1, f2, _, _, _⟩ := HP6.out.upd HU.out
          have HPU := hidP (put_upd ((q : Int) - 1) ((q : Int)) (-2) q b5 b4 g (q * q) (q * q) _ w6 wr (HP6.out.upd HU.out).h1 (HP6.out.upd HU.out).h2 (by omega) (by omega) (by omega) (by omega) (by omega) HMM.out HU.out HF6.out)
          go_wp2_with fail
          refine HPU.out.mono ?_
          rintro e v1 ⟨rfl, hu⟩
          have HU11 := hidP hu
          clear hu f0 f1 f2 HPU
          obtain ⟨fin, hfin⟩ : ∃ l, l = pMat k := ⟨_, rfl⟩
          have HUF : Hid (UpdI w6 v1 (some ⟨g, 0, none⟩) (q * q) fin) := by
            have h := HU11.out
            show UpdI _ _ _ _ _
            rw [hfin]
            obtain rfl | rfl : k = 7 ∨ k = 8 := by have := HCK.out; omega
            all_goals
              have hd := HK4.out
              have hn := HK.out
              subst hd
              subst hn
              exact h
          have HFN := hidP hfin
          clear hfin
          obtain ⟨g0, g1⟩ := HC6.out
          have f0 := HUF.out.far g0 HG.out
          obtain ⟨f2, f1, f3, _, _, _⟩ := HP6.out.upd HUF.out
          obtain ⟨r0, r1, r2, r3, r4⟩ := HR6.out v1 fin HUF.out
          have HEnd : Hid (OwnI ((v1.setCell ⟨w.heap.size, 0, none⟩ (.int .i64 q)).setCell ⟨w.heap.size, 1, none⟩ (.slice (some ⟨g, 0, none⟩) (q * q) (q * q))) w.heap.size (some ⟨g, 0, none⟩) (q * q) (q * q) (pMat k) ∧ Ext w ((v1.setCell ⟨w.heap.size, 0, none⟩ (.int .i64 q)).setCell ⟨w.heap.size, 1, none⟩ (.slice (some ⟨g, 0, none⟩) (q * q) (q * q)))) := by
            refine ⟨?_, ?_⟩
            · have h := HUF.out.own H6.out
              rw [HFN.out] at h
              exact (h.setFar _ 0 _ (HGW.out)).setFar _ 1 _ (HGW.out)
            · have h : Ext w v1 := HUF.out.below HX6.out HX6.out.size fun b o e _ => by cases e; exact HGB.out
              exact (h.setNew _ _ (Nat.le_refl _) _).setNew _ _ (Nat.le_refl _) _
          clear g0 g1
          go_wp2
          refine bodyPost_ret (v := .tuple #[carV q (some ⟨g, 0, none⟩) (q * q) (q * q), .bool true]) (by simp [results, Tryz.results165, go_sem, r0, r1]) rfl ⟨some ⟨g, 0, none⟩, rfl, ?_, ?_⟩
          · exact HEnd.out.1
          · exact HEnd.out.2
        · have h0 : s[0].toNat = 68 := HL0.out 68 (by unfold letterN; rw [if_neg (by omega), if_neg (by omega), if_neg (by omega), if_pos hkc])
          have hq2 : 4 ≤ q := by
            have key : ∀ k, k < 12 → (k = 9) → 4 ≤ pRank k := by decide
            rw [← HK.out]
            exact key k hk hkc
          have HCK := hidP hkc
          clear hkc
          obtain ⟨f0, f1, f2, _, _, _⟩ := HP6.out.upd HU.out
          have HPU := hidP (both_upd (2) (1) q b6 b5 b4 g (q * q) (q * q) _ w6 wr HP6.out (by omega) (by omega) (by omega) (by omega) (by omega) HMM.out HU.out HF6.out)
          go_wp2_with fail
          refine HPU.out.mono ?_
          rintro e v1 ⟨rfl, hu⟩
          have HU11 := hidP hu
          clear hu f0 f1 f2 HPU
          obtain ⟨f0, f1, f2, _, _, _⟩ := HP6.out.upd HU11.out
          have HPU := hidP (both_upd (2) (3) q b6 b5 b4 g (q * q) (q * q) _ w6 v1 HP6.out (by omega) (by omega) (by omega) (by omega) (by omega) HMM.out HU11.out HF6.out)
          go_wp2_with fail
          refine HPU.out.mono ?_
          rintro e v2 ⟨rfl, hu⟩
          have HU12 := hidP hu
          clear hu f0 f1 f2 HPU
          obtain ⟨f0, f1, f2, _, _, _⟩ := HP6.out.upd HU12.out
          have HPU := hidP (both_upd (2) (4) q b6 b5 b4 g (q * q) (q * q) _ w6 v2 HP6.out (by omega) (by omega) (by omega) (by omega) (by omega) HMM.out HU12.out HF6.out)
          go_wp2_with fail
          refine HPU.out.mono ?_
          rintro e v3 ⟨rfl, hu⟩
          have HU13 := hidP hu
          clear hu f0 f1 f2 HPU
          obtain ⟨fin, hfin⟩ : ∃ l, l = pMat k := ⟨_, rfl⟩
          have HUF : Hid (UpdI w6 v3 (some ⟨g, 0, none⟩) (q * q) fin) := by
            have h := HU13.out
            show UpdI _ _ _ _ _
            rw [hfin]
            obtain rfl := HCK.out
            have hd := HK4.out
            have hn := HK.out
            subst hd
            subst hn
            exact h
          have HFN := hidP hfin
          clear hfin
          obtain ⟨g0, g1⟩ := HC6.out
          have f0 := HUF.out.far g0 HG.out
          obtain ⟨f2, f1, f3, _, _, _⟩ := HP6.out.upd HUF.out
          obtain ⟨r0, r1, r2, r3, r4⟩ := HR6.out v3 fin HUF.out
          have HEnd : Hid (OwnI ((v3.setCell ⟨w.heap.size, 0, none⟩ (.int .i64 q)).setCell ⟨w.heap.size, 1, none⟩ (.slice (some ⟨g, 0, none⟩) (q * q) (q * q))) w.heap.size (some ⟨g, 0, none⟩) (q * q) (q * q) (pMat k) ∧ Ext w ((v3.setCell ⟨w.heap.size, 0, none⟩ (.int .i64 q)).setCell ⟨w.heap.size, 1, none⟩ (.slice (some ⟨g, 0, none⟩) (q * q) (q * q)))) := by
            refine ⟨?_, ?_⟩
            · have h := HUF.out.own H6.out
              rw [HFN.out] at h
              exact (h.setFar _ 0 _ (HGW.out)).setFar _ 1 _ (HGW.out)
            · have h : Ext w v3 := HUF.out.below HX6.out HX6.out.size fun b o e _ => by cases e; exact HGB.out
              exact (h.setNew _ _ (Nat.le_refl _) _).setNew _ _ (Nat.le_refl _) _
          clear g0 g1
          go_wp2
          refine bodyPost_ret (v := .tuple #[carV q (some ⟨g, 0, none⟩) (q * q) (q * q), .bool true]) (by simp [results, Tryz.results165, go_sem, r0, r1]) rfl ⟨some ⟨g, 0, none⟩, rfl, ?_, ?_⟩
          · exact HEnd.out.1
          · exact HEnd.out.2
        · have h0 : s[0].toNat = 70 := HL0.out 70 (by unfold letterN; rw [if_neg (by omega), if_neg (by omega), if_neg (by omega), if_neg (by omega), if_pos hkc])
          have hq2 : 4 ≤ q := by
            have key : ∀ k, k < 12 → (k = 10) → 4 ≤ pRank k := by decide
            rw [← HK.out]
            exact key k hk hkc
          have HCK := hidP hkc
          clear hkc
          obtain ⟨f0, f1, f2, _, _, _⟩ := HP6.out.upd HU.out
          have HPU := hidP (put_upd (3) (2) (-2) q b5 b4 g (q * q) (q * q) _ w6 wr (HP6.out.upd HU.out).h1 (HP6.out.upd HU.out).h2 (by omega) (by omega) (by omega) (by omega) (by omega) HMM.out HU.out HF6.out)
          go_wp2_with fail
          refine HPU.out.mono ?_
          rintro e v1 ⟨rfl, hu⟩
          have HU11 := hidP hu
          clear hu f0 f1 f2 HPU
          obtain ⟨fin, hfin⟩ : ∃ l, l = pMat k := ⟨_, rfl⟩
          have HUF : Hid (UpdI w6 v1 (some ⟨g, 0, none⟩) (q * q) fin) := by
            have h := HU11.out
            show UpdI _ _ _ _ _
            rw [hfin]
            obtain rfl := HCK.out
            have hd := HK4.out
            have hn := HK.out
            subst hd
            subst hn
            exact h
          have HFN := hidP hfin
          clear hfin
          obtain ⟨g0, g1⟩ := HC6.out
          have f0 := HUF.out.far g0 HG.out
          obtain ⟨f2, f1, f3, _, _, _⟩ := HP6.out.upd HUF.out
          obtain ⟨r0, r1, r2, r3, r4⟩ := HR6.out v1 fin HUF.out
          have HEnd : Hid (OwnI ((v1.setCell ⟨w.heap.size, 0, none⟩ (.int .i64 q)).setCell ⟨w.heap.size, 1, none⟩ (.slice (some ⟨g, 0, none⟩) (q * q) (q * q))) w.heap.size (some ⟨g, 0, none⟩) (q * q) (q * q) (pMat k) ∧ Ext w ((v1.setCell ⟨w.heap.size, 0, none⟩ (.int .i64 q)).setCell ⟨w.heap.size, 1, none⟩ (.slice (some ⟨g, 0, none⟩) (q * q) (q * q)))) := by
            refine ⟨?_, ?_⟩
            · have h := HUF.out.own H6.out
              rw [HFN.out] at h
              exact (h.setFar _ 0 _ (HGW.out)).setFar _ 1 _ (HGW.out)
            · have h : Ext w v1 := HUF.out.below HX6.out HX6.out.size fun b o e _ => by cases e; exact HGB.out
              exact (h.setNew _ _ (Nat.le_refl _) _).setNew _ _ (Nat.le_refl _) _
          clear g0 g1
          go_wp2
          refine bodyPost_ret (v := .tuple #[carV q (some ⟨g, 0, none⟩) (q * q) (q * q), .bool true]) (by simp [results, Tryz.results165, go_sem, r0, r1]) rfl ⟨some ⟨g, 0, none⟩, rfl, ?_, ?_⟩
          · exact HEnd.out.1
          · exact HEnd.out.2
        · have h0 : s[0].toNat = 71 := HL0.out 71 (by unfold letterN; rw [if_neg (by omega), if_neg (by omega), if_neg (by omega), if_neg (by omega), if_neg (by omega)])
          have hq2 : 2 ≤ q := by
            have key : ∀ k, k < 12 → (k = 11) → 2 ≤ pRank k := by decide
            rw [← HK.out]
            exact key k hk hkc
          have HCK := hidP hkc
          clear hkc
          obtain ⟨f0, f1, f2, _, _, _⟩ := HP6.out.upd HU.out
          have HPU := hidP (put_upd (1) (2) (-3) q b5 b4 g (q * q) (q * q) _ w6 wr (HP6.out.upd HU.out).h1 (HP6.out.upd HU.out).h2 (by omega) (by omega) (by omega) (by omega) (by omega) HMM.out HU.out HF6.out)
          go_wp2_with fail
          refine HPU.out.mono ?_
          rintro e v1 ⟨rfl, hu⟩
          have HU11 := hidP hu
          clear hu f0 f1 f2 HPU
          obtain ⟨fin, hfin⟩ : ∃ l, l = pMat k := ⟨_, rfl⟩
          have HUF : Hid (UpdI w6 v1 (some ⟨g, 0, none⟩) (q * q) fin) := by
            have h := HU11.out
            show UpdI _ _ _ _ _
            rw [hfin]
            obtain rfl := HCK.out
            have hd := HK4.out
            have hn := HK.out
            subst hd
            subst hn
            exact h
          have HFN := hidP hfin
          clear hfin
          obtain ⟨g0, g1⟩ := HC6.out
          have f0 := HUF.out.far g0 HG.out
          obtain ⟨f2, f1, f3, _, _, _⟩ := HP6.out.upd HUF.out
          obtain ⟨r0, r1, r2, r3, r4⟩ := HR6.out v1 fin HUF.out
          have HEnd : Hid (OwnI ((v1.setCell ⟨w.heap.size, 0, none⟩ (.int .i64 q)).setCell ⟨w.heap.size, 1, none⟩ (.slice (some ⟨g, 0, none⟩) (q * q) (q * q))) w.heap.size (some ⟨g, 0, none⟩) (q * q) (q * q) (pMat k) ∧ Ext w ((v1.setCell ⟨w.heap.size, 0, none⟩ (.int .i64 q)).setCell ⟨w.heap.size, 1, none⟩ (.slice (some ⟨g, 0, none⟩) (q * q) (q * q)))) := by
            refine ⟨?_, ?_⟩
            · have h := HUF.out.own H6.out
              rw [HFN.out] at h
              exact (h.setFar _ 0 _ (HGW.out)).setFar _ 1 _ (HGW.out)
            · have h : Ext w v1 := HUF.out.below HX6.out HX6.out.size fun b o e _ => by cases e; exact HGB.out
              exact (h.setNew _ _ (Nat.le_refl _) _).setNew _ _ (Nat.le_refl _) _
          clear g0 g1
          go_wp2
          refine bodyPost_ret (v := .tuple #[carV q (some ⟨g, 0, none⟩) (q * q) (q * q), .bool true]) (by simp [results, Tryz.results165, go_sem, r0, r1]) rfl ⟨some ⟨g, 0, none⟩, rfl, ?_, ?_⟩
          · exact HEnd.out.1
          · exact HEnd.out.2
end Go.Proofs.YtfikkfbnlegflaaGreatDoor

namespace Go.Proofs.YtfikkfbnlegflaaGreatDoor
open Go.RowKit

def natI (l : List Nat) : List Int := l.map fun x : Nat => (x : Int)
theorem natI_length (l : List Nat) : (natI l).length = l.length := by simp [natI]
theorem natI_getD (l : List Nat) (j : Nat) : (natI l).getD j 0 = (l.getD j 0 : Nat) := by
  simp only [natI, List.getD_eq_getElem?_getD, List.getElem?_map]
  cases l[j]? <;> simp
theorem natI_contains (l : List Nat) (i : Nat) : (natI l).contains (i : Int) = l.contains i := by
  rw [Bool.eq_iff_iff]
  simp only [natI, List.contains_eq_mem, decide_eq_true_eq, List.mem_map]
  exact ⟨fun ⟨a, h, e⟩ => by obtain rfl : a = i := by omega
                             exact h, fun h => ⟨i, h, rfl⟩⟩
theorem natI_append (l m : List Nat) : natI (l ++ m) = natI l ++ natI m := by simp [natI]
/-- an entry's cell -/
theorem IntsAt.entry {w : World} {a : Option Addr} {r : Nat} {xs : List Int} (h : IntsAt w a (r * r) xs) {i j : Nat} (hi : i < r) (hj : j < r) :
    ∃ b o, a = some ⟨b, o, none⟩ ∧ w.cell? ⟨b, o + (i * r + j), none⟩ = some (.int .i64 (atM xs r i j)) ∧ i * r + j < r * r := by
  have h1 : i * r + j < r * r := by
    have : (i + 1) * r ≤ r * r := Nat.mul_le_mul_right _ hi
    rw [Nat.add_mul, Nat.one_mul] at this
    omega
  obtain ⟨b, o, rfl, hc⟩ := h.get _ h1
  exact ⟨b, o, rfl, hc, h1⟩
theorem IntsAt.entryC {w : World} {b o r : Nat} {xs : List Int} (h : IntsAt w (some ⟨b, o, none⟩) (r * r) xs) {i j : Nat} (hi : i < r) (hj : j < r) : w.cell? ⟨b, o + (i * r + j), none⟩ = some (.int .i64 (atM xs r i j)) := by
  obtain ⟨b', o', e, hc, _⟩ := h.entry hi hj
  simp only [Option.some.injEq, Addr.mk.injEq, and_true] at e
  obtain ⟨rfl, rfl⟩ := e
  exact hc
/-- sums for a place in a matrix -/
structure PlaceF (i j r : Nat) : Prop where
  w1 : IntKind.i64.wrap ((i : Int) * r) = (i : Int) * r
  w2 : IntKind.i64.wrap ((i : Int) * r + j) = (i : Int) * r + j
  p0 : 0 ≤ (i : Int) * r + j
  p1 : (i : Int) * r + j < (r : Int) * r
  pn : ((i : Int) * r + j).toNat = i * r + j
theorem placeF {i j r : Nat} (hr : r ≤ 4) (hi : i < r) (hj : j < r) : PlaceF i j r := by
  obtain ⟨h0, h1, h2, h3⟩ := idx4 (r := (r : Int)) (i := i) (j := j) (by omega) (by omega) (by omega) (by omega) (by omega)
  refine ⟨wrap_in (by omega) (by omega), wrap_in (by omega) (by omega), by omega, h2, ?_⟩
  rw [← Int.natCast_mul, ← Int.natCast_add]
  rfl

set_option maxRecDepth 100000 in
set_option maxHeartbeats 4000000 in
theorem reordered_any (r : Nat) (hr : r ≤ 4) (xs due : List Int) : ∀ (f : Nat) (rows : List Nat) (ac ad a : Option Addr) (cc cd n c : Nat) (w : World), IntsAt w ac (r * r) xs → IntsAt w ad (r * r) due → IntsAt w a n (natI rows) → (a = none → c = 0) → n + f = r → (∀ x ∈ rows, x < r) →
    Calls Tryz.prog 143 #[carV r ac (r * r) cc, carV r ad (r * r) cd, .slice a n c] w fun e w' => e = .returned (.bool (searchB (List.range r) r (rowChk xs r due r) f rows)) ∧ Ext w w' := by
  intro f
  induction f with
  | zero =>
    intro rows ac ad a cc cd n c w h1 h2 h3 h4 h5 h6
    have hl := h3.len
    rw [natI_length] at hl
    have HS : Hid (searchB (List.range r) r (rowChk xs r due r) 0 rows = true) := by
      show _ = _
      simp [searchB]
      omega
    obtain rfl : n = r := by omega
    have hx := hidP ((Ext.alloc w (.cells #[.int .i64 n, .slice ac (n * n) cc] 31)).trans (Ext.alloc _ (.cells #[.int .i64 n, .slice ad (n * n) cd] 31)))
    clear h1 h2 h3 h4 hl h6
    go_enter Tryz.func143, Tryz.ntmps143
    go_wp2
    go_ret
    exact ⟨ret_bool HS.out.symm, hx.out⟩
  | succ f ih =>
    intro rows ac ad a cc cd n c w h1 h2 h3 h4 h5 h6
    have hl := h3.len
    rw [natI_length] at hl
    have hnr : ((n : Int) == r) = false := by simp; omega
    have hnr2 : n < r := by omega
    have hx := hidP ((Ext.alloc w (.cells #[.int .i64 r, .slice ac (r * r) cc] 31)).trans (Ext.alloc _ (.cells #[.int .i64 r, .slice ad (r * r) cd] 31)))
    have HC := hidP ((CarAt.new w _ rfl r ac (r * r) cc 31).below (Ext.alloc _ (.cells #[.int .i64 r, .slice ad (r * r) cd] 31)))
    have HD := hidP (CarAt.new (w.alloc (.cells #[.int .i64 r, .slice ac (r * r) cc] 31)) (w.heap.size + 1) (by simp) r ad (r * r) cd 31)
    have H1 := hidP (h1.below hx.out)
    have H2 := hidP (h2.below hx.out)
    have H3 := hidP (h3.below hx.out)
    have H6 := hidP h6
    have HNil := hidP h4
    have HL := hidP hl
    have HN5 := hidP h5
    obtain ⟨B, hB⟩ : ∃ B : Nat → Bool, B = fun i => !rows.contains i && rowChk xs r due r rows i && searchB (List.range r) r (rowChk xs r due r) f (rows ++ [i]) := ⟨_, rfl⟩
    have HB := hidP (fun i => congrFun hB i)
    have HS : Hid (searchB (List.range r) r (rowChk xs r due r) (f + 1) rows = (List.range r).any B) := by
      show _ = _
      rw [hB, searchB, decide_eq_false (by omega), Bool.false_or]
    rw [HS.out]
    clear h1 h2 h3 h4 hl h6 h5 hB HS
    go_enter Tryz.func143, Tryz.ntmps143
    go_wp2
    obtain ⟨w0, hw0⟩ : ∃ w0, w0 = (w.alloc (.cells #[.int .i64 r, .slice ac (r * r) cc] 31)).alloc (.cells #[.int .i64 r, .slice ad (r * r) cd] 31) := ⟨_, rfl⟩
    obtain ⟨b3, hb3⟩ : ∃ b, b = w.heap.size := ⟨_, rfl⟩
    rw [← hb3] at HC HD ⊢
    rw [← hw0] at hx HC HD H1 H2 H3 ⊢
    obtain ⟨b4, hb4⟩ : ∃ b, b = b3 + 1 := ⟨_, rfl⟩
    rw [← hb4] at HD ⊢
    clear hw0 hb3 hb4
    go_loopw [20] (fun t wr => ∃ i : Nat, i ≤ r ∧ t = .int .i64 i ∧ Hid (∀ q, q < i → B q = false) ∧ Hid (Ext w0 wr)) (fun t _ => r - (intOf t).toNat)
    case atStart => exact ⟨0, Nat.zero_le _, rfl, fun q hq => by omega, Ext.refl _⟩
    case round =>
      obtain ⟨i, hi, rfl, HJ, HX⟩ := hrel
      obtain ⟨f0, f1⟩ := HC.out.below HX.out
      obtain ⟨g0, g1⟩ := HD.out.below HX.out
      by_cases hlt : i < r
      · have HCT := hidP (fun q => containsI_any a n c (natI rows) (i : Int) (wr.drewN q) ((H3.out.below HX.out).drewN q) (by omega))
        rw [natI_contains] at HCT
        obtain ⟨bx, ox, rfl, qx, lx⟩ := (H1.out.below HX.out).entry hlt hlt
        obtain ⟨bd, od, rfl, qd, ld⟩ := (H2.out.below HX.out).entry hnr2 hnr2
        cases hcon : rows.contains i
        · rw [hcon] at HCT
          by_cases hdi : atM xs r i i = atM due r n n
          · have hdi' : (atM xs r i i != atM due r n n) = false := by simpa using hdi
            obtain ⟨F, hF⟩ : ∃ F : Nat → Bool, F = fun j => atM xs r i (rows.getD j 0) == atM due r n j && atM xs r (rows.getD j 0) i == atM due r j n := ⟨_, rfl⟩
            have HF := hidP (fun j => congrFun hF j)
            have HBI : Hid (B i = ((List.range n).all F && searchB (List.range r) r (rowChk xs r due r) f (rows ++ [i]))) := by
              show _ = _
              rw [HB.out i]
              unfold rowChk
              rw [HL.out, hcon, hdi, hF]
              simp
            have HPF := hidP (placeF hr hlt hlt)
            have HPG := hidP (placeF hr hnr2 hnr2)
            clear hdi hcon hF
            go_wp2
            obtain ⟨k1, k2, k3, k4, k5⟩ := HPF.out
            obtain ⟨l1, l2, l3, l4, l5⟩ := HPG.out
            go_quiet ((go_at_call 167; exact Calls.quiet_of_same (HCT.out _)))
            clear k1 k2 k3 k4 k5 l1 l2 l3 l4 l5 HPF HPG hdi'
            go_wp2
            obtain ⟨w1, hw1⟩ : ∃ w1, w1 = wr.drewN nq := ⟨_, rfl⟩
            have HX1 : Hid (Ext wr w1) := by rw [hw1]; exact Ext.drewN _ _
            rw [← hw1]
            clear hw1 qx qd lx ld f0 f1 g0 g1
            go_loopw [9, 51] (fun u t wx => ∃ j : Nat, j ≤ n ∧ t = .int .i64 j ∧ u = .bool ((List.range j).all F) ∧ Hid (Ext w1 wx)) (fun _ t _ => n - (intOf t).toNat)
            case atStart => exact ⟨0, Nat.zero_le _, rfl, rfl, Ext.refl _⟩
            case round =>
              obtain ⟨j, hj, rfl, rfl, HXj⟩ := hrel
              have HXa := hidP (HX.out.trans (HX1.out.trans HXj.out))
              have HAS : Hid ((List.range (j + 1)).all F = ((List.range j).all F && F j)) := by
                show _ = _
                rw [List.range_succ, List.all_append]
                simp
              by_cases hjn : j < n
              · obtain ⟨f0, f1⟩ := HC.out.below HXa.out
                obtain ⟨g0, g1⟩ := HD.out.below HXa.out
                have hrj : rows.getD j 0 < r := H6.out _ (by rw [List.getD_eq_getElem?_getD, List.getElem?_eq_getElem (by rw [HL.out]; exact hjn)]; exact List.getElem_mem _)
                have hjr : j < r := by omega
                obtain ⟨b, o, rfl, qj⟩ := (H3.out.below HXa.out).get j hjn
                rw [natI_getD] at qj
                have HFJ := hidP (HF.out j)
                generalize rows.getD j 0 = rj at *
                cases hfj : (List.range j).all F
                · rw [hfj] at HAS
                  go_wp2
                  go_quiet (fail)
                  go_wp2
                  go_roundw
                  case rel => exact ⟨j + 1, by omega, by go_num, by rw [HAS.out]; rfl, HXj.out.trans (Ext.drewN _ _)⟩
                  case measure => simp [intOf]; omega
                · rw [hfj, Bool.true_and] at HAS
                  have e1 := (H1.out.below HXa.out).entryC hlt hrj
                  have e2 := (H2.out.below HXa.out).entryC hnr2 hjr
                  have e3 := (H1.out.below HXa.out).entryC hrj hlt
                  have e4 := (H2.out.below HXa.out).entryC hjr hnr2
                  generalize atM xs r i rj = x1 at *
                  generalize atM due r n j = y1 at *
                  generalize atM xs r rj i = x2 at *
                  generalize atM due r j n = y2 at *
                  have P1 := hidP (placeF hr hlt hrj)
                  have P2 := hidP (placeF hr hnr2 hjr)
                  have P3 := hidP (placeF hr hrj hlt)
                  have P4 := hidP (placeF hr hjr hnr2)
                  cases hp : (x1 == y1)
                  · rw [hp, Bool.false_and] at HFJ
                    go_wp2
                    obtain ⟨k1, k2, k3, k4, k5⟩ := P1.out
                    obtain ⟨l1, l2, l3, l4, l5⟩ := P2.out
                    go_quiet (fail)
                    clear k1 k2 k3 k4 k5 l1 l2 l3 l4 l5
                    go_wp2
                    go_roundw
                    case rel => exact ⟨j + 1, by omega, by go_num, by rw [HAS.out, HFJ.out], HXj.out.trans (Ext.drewN _ _)⟩
                    case measure => simp [intOf]; omega
                  · rw [hp, Bool.true_and] at HFJ
                    go_wp2
                    obtain ⟨k1, k2, k3, k4, k5⟩ := P1.out
                    obtain ⟨l1, l2, l3, l4, l5⟩ := P2.out
                    obtain ⟨m1, m2, m3, m4, m5⟩ := P3.out
                    obtain ⟨n1, n2, n3, n4, n5⟩ := P4.out
                    go_quiet (fail)
                    clear k1 k2 k3 k4 k5 l1 l2 l3 l4 l5 m1 m2 m3 m4 m5 n1 n2 n3 n4 n5
                    go_wp2
                    go_roundw
                    case rel => exact ⟨j + 1, by omega, by go_num, by rw [HAS.out, HFJ.out], HXj.out.trans (Ext.drewN _ _)⟩
                    case measure => simp [intOf]; omega
              · obtain rfl : j = n := by omega
                obtain ⟨f0, f1⟩ := HC.out.below HXa.out
                obtain ⟨g0, g1⟩ := HD.out.below HXa.out
                have hE : Ext wr wr.drew := Ext.drew wr
                cases hfa : (List.range j).all F
                · rw [hfa, Bool.false_and] at HBI
                  go_wp2
                  (refine walkR_start (fun w' => Ext wr w') 10 (by kernel_rfl) ?_; simp only [numbered, List.take_succ_cons, List.take_zero, Nat.zero_add, Nat.reduceAdd, List.length_cons, List.length_nil])
                  (repeat (first | (refine walkR_still (v := ?_) rfl (by decide +kernel) rfl (fun _ _ _ h => h) hE ?_ ?_; rotate_left; (focus (intro w' hw'; skip; go_simp; all_goals (with_reducible rfl))); simp only [Act.put, List.setIfInBounds_toArray, List.set_cons_zero, List.set_cons_succ]) | (refine walkR_skip rfl (by decide +kernel) rfl (fun _ _ _ h => h) hE ?_; simp only [Act.put, List.setIfInBounds_toArray, List.set_cons_zero, List.set_cons_succ])))
                  (refine walkR_tail (by rfl) (by kernel_rfl) ?_; simp only [List.drop_succ_cons, List.drop_zero])
                  go_wp2
                  go_roundw
                  case rel =>
                    refine ⟨i + 1, by omega, by go_num, fun q hq => ?_, HXa.out.trans hE⟩
                    rcases Nat.lt_succ_iff_lt_or_eq.1 hq with h3 | rfl
                    · exact HJ.out q h3
                    · exact HBI.out
                  case measure => simp [intOf]; omega
                · rw [hfa, Bool.true_and] at HBI
                  have HCl := hidP (fun w' (hx : Ext wr w') => clone_any a j c (natI rows) w' ((H3.out.below HXa.out).below hx) HNil.out (by omega))
                  have HI := hidP ih
                  have HWB := hidP (fun w' (hx : Ext wr w') => (⟨HC.out.below (HXa.out.trans hx), HD.out.below (HXa.out.trans hx)⟩ : _ ∧ _))
                  clear f0 f1 g0 g1 ih
                  go_wp2
                  (refine walkR_start (fun w' => Ext wr w') 9 (by kernel_rfl) ?_; simp only [numbered, List.take_succ_cons, List.take_zero, Nat.zero_add, Nat.reduceAdd, List.length_cons, List.length_nil])
                  (repeat (first | (refine walkR_still (v := ?_) rfl (by decide +kernel) rfl (fun _ _ _ h => h) hE ?_ ?_; rotate_left; (focus (intro w' hw'; obtain ⟨⟨f0, f1⟩, g0, g1⟩ := HWB.out w' hw'; go_simp; all_goals (with_reducible rfl))); simp only [Act.put, List.setIfInBounds_toArray, List.set_cons_zero, List.set_cons_succ]) | (refine walkR_skip rfl (by decide +kernel) rfl (fun _ _ _ h => h) hE ?_; simp only [Act.put, List.setIfInBounds_toArray, List.set_cons_zero, List.set_cons_succ])))
                  (refine walkR_later ?_; simp only [List.cons_append, List.nil_append])
                  (repeat (first | (refine walkR_still (v := ?_) rfl (by decide +kernel) rfl (fun _ _ _ h => h) hE ?_ ?_; rotate_left; (focus (intro w' hw'; skip; go_simp; all_goals (with_reducible rfl))); simp only [Act.put, List.setIfInBounds_toArray, List.set_cons_zero, List.set_cons_succ]) | (refine walkR_skip rfl (by decide +kernel) rfl (fun _ _ _ h => h) hE ?_; simp only [Act.put, List.setIfInBounds_toArray, List.set_cons_zero, List.set_cons_succ])))
                  (refine walkR_later ?_; simp only [List.cons_append, List.nil_append]); (refine walkR_later ?_; simp only [List.cons_append, List.nil_append])
                  refine walkR_two (fun v u w' => ∃ a1 c1 b1, v = .slice a1 j c1 ∧ u = .slice (some ⟨b1, 0, none⟩) 1 1 ∧ OwnI w' wr.heap.size a1 j c1 (natI rows) ∧ w'.cell? ⟨b1, 0, none⟩ = some (.int .i64 i)) (fun v w' => ∃ a1 c1, v = .slice a1 j c1 ∧ OwnI w' wr.heap.size a1 j c1 (natI rows)) (fun u w' => ∃ b1, u = .slice (some ⟨b1, 0, none⟩) 1 1 ∧ w'.cell? ⟨b1, 0, none⟩ = some (.int .i64 i)) rfl rfl (by decide +kernel) rfl rfl (by decide) rfl rfl (fun _ => rfl) (fun _ => rfl) ?_ ?_ ?_ ?_ ?_
                  · intro K hK
                    go_simp
                    refine (HCl.out _ hE).mono ?_
                    rintro e w2 ⟨a1, c1, rfl, ho, hx⟩
                    exact hK _ _ (hE.trans hx) ⟨a1, c1, rfl, ho⟩
                  · rintro v w2 hx ⟨a1, c1, rfl, ho⟩ K hK
                    go_simp
                    exact hK _ _ (hx.trans (Ext.alloc _ _)) ⟨a1, c1, _, rfl, rfl, ho.below (Ext.alloc _ _), (cell_top _ _ _ _ _ rfl).trans rfl⟩
                  · intro K hK
                    go_simp
                    exact hK _ _ (hE.trans (Ext.alloc _ _)) ⟨_, rfl, (cell_top _ _ _ _ _ rfl).trans rfl⟩
                  · rintro u w2 hx ⟨b1, rfl, hb⟩ K hK
                    go_simp
                    refine (HCl.out _ hx).mono ?_
                    rintro e w3 ⟨a1, c1, rfl, ho, hx3⟩
                    exact hK _ _ (hx.trans hx3) ⟨a1, c1, b1, rfl, rfl, ho.base hx.size, (hx3.cell (p := ⟨b1, 0, none⟩) (World.block_lt_of_cell? _ _ hb)).trans hb⟩
                  · rintro v u w2 hx2 ⟨a1, c1, b1, rfl, rfl, ho2, hb2⟩
                    (try simp only [Act.put, List.setIfInBounds_toArray, List.set_cons_zero, List.set_cons_succ])
                    have hi1 : IntsAt w2 (some ⟨b1, 0, none⟩) 1 [(i : Int)] := ⟨rfl, fun q hq => ⟨b1, 0, rfl, by
                      obtain rfl : q = 0 := by omega
                      simpa using hb2⟩⟩
                    (refine walkR_only (fun w' => Ext wr w') rfl (by decide +kernel) rfl ?_ ?_)
                    · exact fun _ h => h
                    intro K hK
                    refine wp_append_ints (.tmp 109) (.tmp 111) rfl wr.heap.size a1 j c1 (natI rows) rfl ho2 ⟨b1, 0, none⟩ 1 1 [(i : Int)] rfl hi1 (by omega) hx2.size ?_
                    intro a3 c3 w3 ho3 hg3
                    have hx3 := grown_ext hg3 hx2 hx2.size ho2.addr_base
                    refine hK _ _ hx3 ?_
                    clear hK K
                    (try simp only [Act.put, List.setIfInBounds_toArray, List.set_cons_zero, List.set_cons_succ])
                    (refine walkR_tail (by rfl) (by kernel_rfl) ?_; simp only [List.drop_succ_cons, List.drop_zero])
                    rw [show natI rows ++ [(i : Int)] = natI (rows ++ [i]) by rw [natI_append]; rfl] at ho3
                    have HR := hidP (HI.out (rows ++ [i]) _ _ _ cc cd _ _ w3 ((H1.out.below HXa.out).below hx3) ((H2.out.below HXa.out).below hx3) ho3.ints ho3.nil_cap (by have := HN5.out; omega) (fun x hx => by
                      simp only [List.mem_append, List.mem_singleton] at hx
                      rcases hx with hx | rfl
                      · exact H6.out x hx
                      · exact hlt))
                    have HX3 := hidP hx3
                    clear ho3 hg3 ho2 hb2 hi1 hx2 hx3
                    generalize hsb : searchB (List.range r) r (rowChk xs r due r) f (rows ++ [i]) = sb at *
                    cases sb
                    · go_wp2_with fail
                      refine HR.out.mono ?_
                      rintro e w4 ⟨rfl, hx4⟩
                      go_wp2
                      go_roundw
                      case rel =>
                        refine ⟨i + 1, by omega, by go_num, fun q hq => ?_, (HXa.out.trans HX3.out).trans hx4⟩
                        rcases Nat.lt_succ_iff_lt_or_eq.1 hq with h3 | rfl
                        · exact HJ.out q h3
                        · exact HBI.out
                      case measure => simp [intOf]; omega
                    · have HE : Hid ((List.range r).any B = true) := by
                        show _ = _
                        rw [List.any_eq_true]
                        exact ⟨i, List.mem_range.2 hlt, HBI.out⟩
                      go_wp2_with fail
                      refine HR.out.mono ?_
                      rintro e w4 ⟨rfl, hx4⟩
                      go_wp2
                      go_ret
                      exact ⟨ret_bool HE.out.symm, ((hx.out.trans HXa.out).trans HX3.out).trans hx4⟩
          · have hdi' : (atM xs r i i != atM due r n n) = true := by simpa using hdi
            have HBI : Hid (B i = false) := by
              show _ = _
              rw [HB.out i]
              unfold rowChk
              rw [HL.out]
              simp [hdi]
            have HPF := hidP (placeF hr hlt hlt)
            have HPG := hidP (placeF hr hnr2 hnr2)
            clear hdi hcon
            go_wp2
            obtain ⟨k1, k2, k3, k4, k5⟩ := HPF.out
            obtain ⟨l1, l2, l3, l4, l5⟩ := HPG.out
            go_quiet ((go_at_call 167; exact Calls.quiet_of_same (HCT.out _)))
            clear k1 k2 k3 k4 k5 l1 l2 l3 l4 l5
            go_wp2
            go_roundw
            case rel =>
              refine ⟨i + 1, by omega, by go_num, fun q hq => ?_, HX.out.trans (Ext.drewN _ _)⟩
              rcases Nat.lt_succ_iff_lt_or_eq.1 hq with h3 | rfl
              · exact HJ.out q h3
              · exact HBI.out
            case measure => simp [intOf]; omega
        · rw [hcon] at HCT
          have HBI : Hid (B i = false) := by
            show _ = _
            rw [HB.out i, hcon]
            rfl
          clear hcon
          go_wp2
          go_quiet ((go_at_call 167; exact Calls.quiet_of_same (HCT.out _)))
          go_wp2
          go_roundw
          case rel =>
            refine ⟨i + 1, by omega, by go_num, fun q hq => ?_, HX.out.trans (Ext.drewN _ _)⟩
            rcases Nat.lt_succ_iff_lt_or_eq.1 hq with h3 | rfl
            · exact HJ.out q h3
            · exact HBI.out
          case measure => simp [intOf]; omega
      · obtain rfl : i = r := by omega
        have HE : Hid ((List.range i).any B = false) := by
          show _ = _
          rw [List.any_eq_false]
          intro q hq
          rw [HJ.out q (List.mem_range.1 hq)]
          simp
        go_wp2
        go_ret
        exact ⟨ret_bool HE.out.symm, hx.out.trans HX.out⟩
end Go.Proofs.YtfikkfbnlegflaaGreatDoor
