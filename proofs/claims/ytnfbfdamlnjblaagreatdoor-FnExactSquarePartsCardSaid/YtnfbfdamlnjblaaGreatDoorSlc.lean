/-
  The library's functions on slices of integers: IndexFunc, ContainsFunc, Clone.
-/
import Derived.Test.YtnfbfdamlnjblaaGreatDoorInS
import Derived.Test.YtnfbfdamlnjblaaGreatDoorInt
import Derived.Test.YtnfbfdamlnjblaaGreatDoorVec
import Derived.Laws.AppendOwnNone
namespace Go.Proofs.YtnfbfdamlnjblaaGreatDoor
open Go.RowKit

/-- the place of the first number that a test lets by, -1 if there is none -/
def idxFrom (f : Int → Bool) (k : Nat) : List Int → Int
  | [] => -1
  | x :: l => if f x then k else idxFrom f (k + 1) l
def idxL (f : Int → Bool) (l : List Int) : Int := idxFrom f 0 l
theorem idxFrom_none (f : Int → Bool) (k : Nat) (l : List Int) (h : ∀ j, j < l.length → f (l.getD j 0) = false) : idxFrom f k l = -1 := by
  induction l generalizing k with
  | nil => rfl
  | cons x l ih =>
    have h0 := h 0 (by simp)
    simp only [List.getD_cons_zero] at h0
    simp only [idxFrom, h0, Bool.false_eq_true, if_false]
    exact ih (k + 1) fun j hj => by have := h (j + 1) (by simpa using hj); simpa using this
theorem idxFrom_at (f : Int → Bool) (k : Nat) (l : List Int) (i : Nat) (hi : i < l.length) (h : ∀ j, j < i → f (l.getD j 0) = false) (ht : f (l.getD i 0) = true) : idxFrom f k l = ((k + i : Nat) : Int) := by
  induction l generalizing k i with
  | nil => simp at hi
  | cons x l ih =>
    cases i with
    | zero =>
      simp only [List.getD_cons_zero] at ht
      simp [idxFrom, ht]
    | succ i =>
      have h0 := h 0 (by omega)
      simp only [List.getD_cons_zero] at h0
      simp only [idxFrom, h0, Bool.false_eq_true, if_false]
      rw [ih (k + 1) i (by simpa using hi) (fun j hj => by have := h (j + 1) (by omega); simpa using this) (by simpa using ht)]
      congr 1
      omega
theorem idxL_none {f : Int → Bool} {l : List Int} (h : ∀ j, j < l.length → f (l.getD j 0) = false) : idxL f l = -1 := idxFrom_none f 0 l h
theorem idxL_at {f : Int → Bool} {l : List Int} {i : Nat} (hi : i < l.length) (h : ∀ j, j < i → f (l.getD j 0) = false) (ht : f (l.getD i 0) = true) : idxL f l = (i : Int) := by
  have := idxFrom_at f 0 l i hi h ht
  simpa [idxL] using this
theorem any_of {f : Int → Bool} {l : List Int} : l.any f = true ↔ ∃ j, j < l.length ∧ f (l.getD j 0) = true := by
  rw [List.any_eq_true]
  constructor
  · rintro ⟨x, hx, hf⟩
    obtain ⟨j, hj, rfl⟩ := List.mem_iff_getElem.1 hx
    exact ⟨j, hj, by rw [getD_lt _ hj]; exact hf⟩
  · rintro ⟨j, hj, hf⟩
    rw [getD_lt _ hj] at hf
    exact ⟨_, List.getElem_mem hj, hf⟩
theorem idxL_any (f : Int → Bool) (l : List Int) : decide (0 ≤ idxL f l) = l.any f := by
  by_cases h : l.any f = true
  · obtain ⟨j, hj, hf⟩ := any_of.1 h
    obtain ⟨i, hi⟩ : ∃ i, i = (l.findIdx f) := ⟨_, rfl⟩
    have h1 : i < l.length := by rw [hi]; exact List.findIdx_lt_length_of_exists ⟨l[j], List.getElem_mem hj, by rw [← getD_lt _ hj]; exact hf⟩
    have h2 : f (l.getD i 0) = true := by rw [getD_lt _ h1]; subst hi; exact List.findIdx_getElem
    have h3 : ∀ k, k < i → f (l.getD k 0) = false := fun k hk => by
      rw [getD_lt _ (by omega)]
      subst hi
      simpa using List.not_of_lt_findIdx hk
    rw [idxL_at h1 h3 h2, h]
    simp
  · have h' : l.any f = false := by simpa using h
    rw [h', idxL_none fun j hj => by
      cases hb : f (l.getD j 0)
      · rfl
      · exact absurd (any_of.2 ⟨j, hj, hb⟩) h]
    decide

set_option maxRecDepth 100000 in
set_option maxHeartbeats 1000000 in
theorem indexFunc_any (F : FuncId) (caps : Array Value) (f : Int → Bool) (a : Option Addr) (n c : Nat) (xs : List Int) (w : World) (h : IntsAt w a n xs) (hn : n ≤ 1000000000000)
    (hF : ∀ (args : Array Value) (w : World), Sem.run Tryz.prog (callFunc F args) w = .ok (.enter F args) w)
    (hf : ∀ x, Calls Tryz.prog F (#[.int .i64 x] ++ caps) w fun e w' => e = .returned (.bool (f x)) ∧ w = w') :
    Calls Tryz.prog 164 #[.slice a n c, .func (.func F) #[] caps] w fun e w' => e = .returned (.int .i64 (idxL f xs)) ∧ w = w' := by
  have G := hidP h.get
  have L := hidP h.len
  have HF := hidP hf
  clear h hf
  go_enter Tryz.func164, Tryz.ntmps164
  go_wp2
  go_loop [8] (fun i => ∃ k : Nat, k ≤ n ∧ Hid (∀ j, j < k → f (xs.getD j 0) = false) ∧ i = .int .i64 k) (fun i => n - (intOf i).toNat)
  case atStart => exact ⟨0, Nat.zero_le _, fun j h => by omega, rfl⟩
  case round =>
    obtain ⟨k, hk, HJ, rfl⟩ := hrel
    by_cases hlt : k < n
    · obtain ⟨b, o, rfl, q⟩ := G.out k hlt
      by_cases ht : f (xs.getD k 0) = true
      · have HI := hidP (idxL_at (by have := L.out; omega) HJ.out ht)
        have HT := hidP ht
        clear ht
        go_wp2_with fail
        refine (HF.out _).mono ?_
        rintro e w' ⟨rfl, rfl⟩
        have ht : f (xs[k]?.getD 0) = true := HT.out
        go_wp2
        go_ret
        exact ⟨ret_int HI.out.symm, rfl⟩
      · have ht' : f (xs.getD k 0) = false := by simpa using ht
        have HT := hidP ht'
        clear ht ht'
        go_wp2_with fail
        refine (HF.out _).mono ?_
        rintro e w' ⟨rfl, rfl⟩
        have ht : f (xs[k]?.getD 0) = false := HT.out
        go_wp2
        go_round
        case rel =>
          refine ⟨k + 1, by omega, fun j hj => ?_, by go_num⟩
          rcases Nat.lt_succ_iff_lt_or_eq.1 hj with h3 | rfl
          · exact HJ.out j h3
          · exact HT.out
        case measure => simp [intOf]; omega
    · have HI := hidP (idxL_none (f := f) (l := xs) fun j hj => HJ.out j (by have := L.out; omega))
      go_wp2
      go_ret
      exact ⟨ret_int HI.out.symm, rfl⟩

set_option maxHeartbeats 1000000 in
theorem containsFunc_any (F : FuncId) (caps : Array Value) (f : Int → Bool) (a : Option Addr) (n c : Nat) (xs : List Int) (w : World) (h : IntsAt w a n xs) (hn : n ≤ 1000000000000)
    (hF : ∀ (args : Array Value) (w : World), Sem.run Tryz.prog (callFunc F args) w = .ok (.enter F args) w)
    (hf : ∀ x, Calls Tryz.prog F (#[.int .i64 x] ++ caps) w fun e w' => e = .returned (.bool (f x)) ∧ w = w') :
    Calls Tryz.prog 150 #[.slice a n c, .func (.func F) #[] caps] w fun e w' => e = .returned (.bool (xs.any f)) ∧ w = w' := by
  have H := hidP (indexFunc_any F caps f a n c xs w h hn hF hf)
  have HA := hidP (idxL_any f xs)
  clear h hf hF
  go_enter Tryz.func150, Tryz.ntmps150
  go_wp2_with (go_at_call 164; refine H.out.mono ?_; rintro e w' ⟨rfl, rfl⟩)
  go_ret
  exact ⟨ret_bool HA.out, rfl⟩
end Go.Proofs.YtnfbfdamlnjblaaGreatDoor
