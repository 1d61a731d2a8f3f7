/-
  Words: comparing lists of integers, by the library, the program and the reference.
-/
import Derived.Test.YtnfbfdamlnjblaaGreatDoorInS
import Derived.Test.YtnfbfdamlnjblaaGreatDoorInt
import Derived.Test.YtnfbfdamlnjblaaGreatDoorReg
namespace Go.Proofs.YtnfbfdamlnjblaaGreatDoor
open Go.RowKit

def cmpI (a b : Int) : Int := if a < b then -1 else if b < a then 1 else 0
def lexC : List Int → List Int → Int
  | [], [] => 0
  | [], _ :: _ => -1
  | _ :: _, [] => 1
  | x :: xs, y :: ys => if cmpI x y != 0 then cmpI x y else lexC xs ys
def cmpW (xs ys : List Int) : Int := if cmpI xs.length ys.length != 0 then cmpI xs.length ys.length else lexC xs ys
def firstNZ : List Int → Int
  | [] => 0
  | x :: xs => if x != 0 then x else firstNZ xs

theorem cmpI_self (a : Int) : cmpI a a = 0 := by simp [cmpI]
theorem cmpI_zero {a b : Int} (h : cmpI a b = 0) : a = b := by unfold cmpI at h; split at h; omega; split at h <;> omega
theorem cmpI_range (a b : Int) : -1 ≤ cmpI a b ∧ cmpI a b ≤ 1 := by unfold cmpI; split; omega; split <;> omega
theorem lexC_range (xs ys : List Int) : -1 ≤ lexC xs ys ∧ lexC xs ys ≤ 1 := by
  induction xs generalizing ys with
  | nil => cases ys <;> simp [lexC]
  | cons x xs ih =>
    cases ys with
    | nil => simp [lexC]
    | cons y ys => simp only [lexC]; split; exact cmpI_range x y; exact ih ys
theorem cmpW_range (xs ys : List Int) : -1 ≤ cmpW xs ys ∧ cmpW xs ys ≤ 1 := by unfold cmpW; split; exact cmpI_range _ _; exact lexC_range _ _
theorem lexC_drop (xs ys : List Int) (k : Nat) (h1 : k ≤ xs.length) (h2 : k ≤ ys.length) (h : ∀ j, j < k → xs.getD j 0 = ys.getD j 0) : lexC xs ys = lexC (xs.drop k) (ys.drop k) := by
  induction k generalizing xs ys with
  | zero => rfl
  | succ k ih =>
    match xs, ys with
    | [], _ => simp at h1
    | _ :: _, [] => simp at h2
    | x :: xs, y :: ys =>
      have h0 := h 0 (by omega)
      simp only [List.getD_cons_zero] at h0
      subst h0
      simp only [lexC, cmpI_self, List.drop_succ_cons, bne_self_eq_false, Bool.false_eq_true, if_false]
      exact ih xs ys (by simpa using h1) (by simpa using h2) (fun j hj => by have := h (j + 1) (by omega); simpa using this)
theorem lexC_at (xs ys : List Int) (k : Nat) (h1 : k < xs.length) (h2 : k < ys.length) (h : ∀ j, j < k → xs.getD j 0 = ys.getD j 0) (hne : cmpI (xs.getD k 0) (ys.getD k 0) ≠ 0) : lexC xs ys = cmpI (xs.getD k 0) (ys.getD k 0) := by
  rw [lexC_drop xs ys k (by omega) (by omega) h, List.drop_eq_getElem_cons h1, List.drop_eq_getElem_cons h2]
  simp only [List.getD_eq_getElem?_getD, List.getElem?_eq_getElem h1, List.getElem?_eq_getElem h2, Option.getD_some] at hne ⊢
  simp [lexC, hne]
theorem lexC_end_x (xs ys : List Int) (h1 : xs.length < ys.length) (h : ∀ j, j < xs.length → xs.getD j 0 = ys.getD j 0) : lexC xs ys = -1 := by
  rw [lexC_drop xs ys xs.length (by omega) (by omega) h, List.drop_length, List.drop_eq_getElem_cons h1]
  rfl
theorem lexC_end_y (xs ys : List Int) (h1 : ys.length < xs.length) (h : ∀ j, j < ys.length → xs.getD j 0 = ys.getD j 0) : lexC xs ys = 1 := by
  rw [lexC_drop xs ys ys.length (by omega) (by omega) h, List.drop_length, List.drop_eq_getElem_cons h1]
  rfl
theorem lexC_end (xs ys : List Int) (h1 : ys.length = xs.length) (h : ∀ j, j < ys.length → xs.getD j 0 = ys.getD j 0) : lexC xs ys = 0 := by
  rw [lexC_drop xs ys ys.length (by omega) (by omega) h, List.drop_length, h1, List.drop_length]
  rfl

theorem isNaN_any (x : Int) (w : World) : Calls Tryz.prog 179 #[.int .i64 x] w fun e w' => e = .returned (.bool false) ∧ w = w' := by
  have h : (x != x) = false := by simp
  go_enter Tryz.func179, Tryz.ntmps179
  go_wp2
  go_ret
  exact ⟨rfl, rfl⟩
set_option maxHeartbeats 1000000 in
theorem compareInt_any (a b : Int) (w : World) : Calls Tryz.prog 158 #[.int .i64 a, .int .i64 b] w fun e w' => e = .returned (.int .i64 (cmpI a b)) ∧ w = w' := by
  rcases Int.lt_trichotomy a b with h | h | h
  · have HC : Hid (cmpI a b = -1) := by show _ = _; unfold cmpI; rw [if_pos h]
    go_enter Tryz.func158, Tryz.ntmps158
    go_wp2_with (go_at_call 179; refine (isNaN_any _ _).mono ?_; rintro e w' ⟨rfl, rfl⟩)
    go_ret
    exact ⟨ret_int HC.out.symm, rfl⟩
  · have HC : Hid (cmpI a b = 0) := by show _ = _; rw [h, cmpI_self]
    have h1 : ¬ a < b := by omega
    have h2 : ¬ b < a := by omega
    clear h
    go_enter Tryz.func158, Tryz.ntmps158
    go_wp2_with (go_at_call 179; refine (isNaN_any _ _).mono ?_; rintro e w' ⟨rfl, rfl⟩)
    go_ret
    exact ⟨ret_int HC.out.symm, rfl⟩
  · have HC : Hid (cmpI a b = 1) := by show _ = _; unfold cmpI; rw [if_neg (by omega), if_pos h]
    have h1 : ¬ a < b := by omega
    go_enter Tryz.func158, Tryz.ntmps158
    go_wp2_with (go_at_call 179; refine (isNaN_any _ _).mono ?_; rintro e w' ⟨rfl, rfl⟩)
    go_ret
    exact ⟨ret_int HC.out.symm, rfl⟩
theorem firstNZ_none (xs : List Int) (h : ∀ j, j < xs.length → xs.getD j 0 = 0) : firstNZ xs = 0 := by
  induction xs with
  | nil => rfl
  | cons x xs ih =>
    have h0 := h 0 (by simp)
    simp only [List.getD_cons_zero] at h0
    simp only [firstNZ, h0, bne_self_eq_false, Bool.false_eq_true, if_false]
    exact ih fun j hj => by have := h (j + 1) (by simpa using hj); simpa using this
theorem firstNZ_at (xs : List Int) (k : Nat) (hk : k < xs.length) (h : ∀ j, j < k → xs.getD j 0 = 0) (hne : xs.getD k 0 ≠ 0) : firstNZ xs = xs.getD k 0 := by
  induction xs generalizing k with
  | nil => simp at hk
  | cons x xs ih =>
    cases k with
    | zero => simp only [List.getD_cons_zero] at hne ⊢; simp [firstNZ, hne]
    | succ k =>
      have h0 := h 0 (by omega)
      simp only [List.getD_cons_zero] at h0
      simp only [firstNZ, h0, bne_self_eq_false, Bool.false_eq_true, if_false]
      have := ih k (by simpa using hk) (fun j hj => by have := h (j + 1) (by omega); simpa using this) (by simpa using hne)
      simpa using this
set_option maxHeartbeats 1000000 in
theorem or_any (a : Option Addr) (n c : Nat) (xs : List Int) (w : World) (h : IntsAt w a n xs) (hn : n ≤ 9223372036854775807) :
    Calls Tryz.prog 157 #[.slice a n c] w fun e w' => e = .returned (.int .i64 (firstNZ xs)) ∧ w = w' := by
  have G := hidP h
  clear h
  go_enter Tryz.func157, Tryz.ntmps157
  go_wp2
  go_loop [8] (fun i => ∃ k : Nat, k ≤ n ∧ Hid (∀ j, j < k → xs.getD j 0 = 0) ∧ i = .int .i64 k) (fun i => n - (intOf i).toNat)
  case atStart => exact ⟨0, Nat.zero_le _, fun j h => by omega, rfl⟩
  case round =>
    obtain ⟨k, hk, HJ, rfl⟩ := hrel
    by_cases hlt : k < n
    · obtain ⟨b, o, rfl, q⟩ := G.out.get k hlt
      have HL := hidP G.out.len
      by_cases hok : xs.getD k 0 = 0
      · have HO := hidP hok
        have hd : (xs[k]?.getD 0 != 0) = false := by rw [← List.getD_eq_getElem?_getD, hok]; rfl
        clear hok
        go_wp2
        go_round
        case rel =>
          refine ⟨k + 1, by omega, fun j hj => ?_, by go_num⟩
          rcases Nat.lt_succ_iff_lt_or_eq.1 hj with h3 | rfl
          · exact HJ.out j h3
          · exact HO.out
        case measure => simp [intOf]; omega
      · have HB := hidP (firstNZ_at xs k (by have := HL.out; omega) HJ.out hok)
        have hd : (xs[k]?.getD 0 != 0) = true := by rw [← List.getD_eq_getElem?_getD]; exact bne_iff_ne.2 hok
        clear hok
        go_wp2
        go_ret
        exact ⟨ret_int (by rw [HB.out, List.getD_eq_getElem?_getD]), rfl⟩
    · have HB := hidP (firstNZ_none xs fun j hj => HJ.out j (by have := G.out.len; omega))
      go_wp2
      go_ret
      exact ⟨ret_int HB.out.symm, rfl⟩
set_option maxHeartbeats 1000000 in
theorem compareInts_any (a a' : Option Addr) (n n' c c' : Nat) (xs ys : List Int) (w : World) (h : IntsAt w a n xs) (h' : IntsAt w a' n' ys) (hn : n ≤ 9223372036854775807) (hn' : n' ≤ 9223372036854775807) :
    Calls Tryz.prog 136 #[.slice a n c, .slice a' n' c'] w fun e w' => e = .returned (.int .i64 (lexC xs ys)) ∧ w = w' := by
  have G := hidP h
  have G' := hidP h'
  have L := hidP h.len
  have L' := hidP h'.len
  clear h h'
  go_enter Tryz.func136, Tryz.ntmps136
  go_wp2
  go_loop [11] (fun i => ∃ k : Nat, k ≤ n ∧ k ≤ n' ∧ Hid (∀ j, j < k → xs.getD j 0 = ys.getD j 0) ∧ i = .int .i64 k) (fun i => n - (intOf i).toNat)
  case atStart => exact ⟨0, Nat.zero_le _, Nat.zero_le _, fun j h => by omega, rfl⟩
  case round =>
    obtain ⟨k, hk, hk', HJ, rfl⟩ := hrel
    by_cases hlt : k < n
    · obtain ⟨b, o, rfl, q⟩ := G.out.get k hlt
      by_cases hlt' : k < n'
      · obtain ⟨b', o', rfl, q'⟩ := G'.out.get k hlt'
        by_cases hok : cmpI (xs.getD k 0) (ys.getD k 0) = 0
        · have HO := hidP (cmpI_zero hok)
          have HK := hidP hok
          clear hok
          go_wp2_with (go_at_call 158; refine (compareInt_any _ _ _).mono ?_; rintro e w' ⟨rfl, rfl⟩; have hd : (cmpI (xs[k]?.getD 0) (ys[k]?.getD 0) != 0) = false := by rw [← List.getD_eq_getElem?_getD, ← List.getD_eq_getElem?_getD, HK.out]; rfl)
          go_round
          case rel =>
            refine ⟨k + 1, by omega, by omega, fun j hj => ?_, by go_num⟩
            rcases Nat.lt_succ_iff_lt_or_eq.1 hj with h3 | rfl
            · exact HJ.out j h3
            · exact HO.out
          case measure => simp [intOf]; omega
        · have HB := hidP (lexC_at xs ys k (by have := L.out; omega) (by have := L'.out; omega) HJ.out hok)
          have HK := hidP hok
          clear hok
          go_wp2_with (go_at_call 158; refine (compareInt_any _ _ _).mono ?_; rintro e w' ⟨rfl, rfl⟩; have hd : (cmpI (xs[k]?.getD 0) (ys[k]?.getD 0) != 0) = true := by rw [← List.getD_eq_getElem?_getD, ← List.getD_eq_getElem?_getD]; exact bne_iff_ne.2 HK.out)
          go_ret
          exact ⟨ret_int (by rw [HB.out, List.getD_eq_getElem?_getD, List.getD_eq_getElem?_getD]), rfl⟩
      · have HB := hidP (lexC_end_y xs ys (by have := L.out; have := L'.out; omega) fun j hj => HJ.out j (by have := L'.out; omega))
        go_wp2
        go_ret
        exact ⟨ret_int HB.out.symm, rfl⟩
    · obtain rfl : k = n := by omega
      by_cases hl : k < n'
      · have HB := hidP (lexC_end_x xs ys (by have := L.out; have := L'.out; omega) fun j hj => HJ.out j (by have := L.out; omega))
        go_wp2
        go_ret
        exact ⟨ret_int HB.out.symm, rfl⟩
      · have HB := hidP (lexC_end xs ys (by have := L.out; have := L'.out; omega) fun j hj => HJ.out j (by have := L'.out; omega))
        go_wp2
        go_ret
        exact ⟨ret_int HB.out.symm, rfl⟩
theorem pair_ints (w : World) (x y : Int) (E : TypeId) : IntsAt (w.alloc (.cells #[.int .i64 x, .int .i64 y] E)) (some ⟨w.heap.size, 0, none⟩) 2 [x, y] := by
  have := ints_alloc w [x, y] E
  simpa [ivs] using this
set_option maxHeartbeats 1000000 in
theorem compareWords_any (a a' : Option Addr) (n n' c c' : Nat) (xs ys : List Int) (w : World) (h : IntsAt w a n xs) (h' : IntsAt w a' n' ys) (hn : n ≤ 9223372036854775807) (hn' : n' ≤ 9223372036854775807) :
    Calls Tryz.prog 129 #[.slice a n c, .slice a' n' c'] w fun e w' => e = .returned (.int .i64 (cmpW xs ys)) ∧ Ext w w' := by
  have HC := hidP (compareInts_any a a' n n' c c' xs ys w h h' hn hn')
  have HE : Hid (firstNZ [cmpI n n', lexC xs ys] = cmpW xs ys) := by
    show _ = _
    unfold cmpW
    rw [h.len, h'.len]
    simp only [firstNZ]
    split
    · rfl
    · split
      · rfl
      · rename_i h; simpa using Eq.symm (by simpa using h)
  have HP := hidP (pair_ints w (cmpI n n') (lexC xs ys) 3)
  clear h h'
  go_enter Tryz.func129, Tryz.ntmps129
  go_wp2_with (first | (go_at_call 158; refine (compareInt_any _ _ _).mono ?_; rintro e w' ⟨rfl, rfl⟩) | (go_at_call 136; refine HC.out.mono ?_; rintro e w' ⟨rfl, rfl⟩) | (go_at_call 157; refine (or_any _ _ _ _ _ HP.out (by omega)).mono ?_; rintro e w' ⟨rfl, rfl⟩))
  go_ret
  exact ⟨ret_int HE.out, Ext.alloc _ _⟩
set_option maxHeartbeats 1000000 in
theorem l6Above_any (a a' : Option Addr) (n n' c c' : Nat) (xs ys : List Int) (w : World) (h : IntsAt w a n xs) (h' : IntsAt w a' n' ys) (hn : n ≤ 9223372036854775807) (hn' : n' ≤ 9223372036854775807) :
    Calls Tryz.prog 140 #[.slice a n c, .slice a' n' c'] w fun e w' => e = .returned (.bool (decide (0 < lexC xs ys))) ∧ Ext w w' := by
  have G := hidP h
  have G' := hidP h'
  have L := hidP h.len
  have L' := hidP h'.len
  clear h h'
  go_enter Tryz.func140, Tryz.ntmps140
  go_wp2
  go_loopw [5] (fun i wr => ∃ k m : Nat, k ≤ n ∧ k ≤ n' ∧ Hid (∀ j, j < k → xs.getD j 0 = ys.getD j 0) ∧ i = .int .i64 k ∧ wr = w.drewN m) (fun i _ => n - (intOf i).toNat)
  case atStart => exact ⟨0, 0, Nat.zero_le _, Nat.zero_le _, fun j h => by omega, rfl, rfl⟩
  case round =>
    obtain ⟨k, m, hk, hk', HJ, rfl, rfl⟩ := hrel
    by_cases hlt : k < n
    · obtain ⟨b, o, rfl, q⟩ := G.out.get k hlt
      by_cases hlt' : k < n'
      · obtain ⟨b', o', rfl, q'⟩ := G'.out.get k hlt'
        by_cases hd : xs.getD k 0 = ys.getD k 0
        · have hb : (xs[k]?.getD 0 != ys[k]?.getD 0) = false := by simpa [List.getD_eq_getElem?_getD] using hd
          have HD := hidP hd
          clear hd
          go_wp2
          go_quiet (fail)
          go_wp2
          go_roundw
          case rel =>
            refine ⟨k + 1, m + nq, by omega, by omega, fun j hj => ?_, by go_num, by simp⟩
            rcases Nat.lt_succ_iff_lt_or_eq.1 hj with h3 | rfl
            · exact HJ.out j h3
            · exact HD.out
          case measure => simp [intOf]; omega
        · have hb : (xs[k]?.getD 0 != ys[k]?.getD 0) = true := by simpa [List.getD_eq_getElem?_getD] using hd
          have HB := hidP (lexC_at xs ys k (by have := L.out; omega) (by have := L'.out; omega) HJ.out (fun e => hd (cmpI_zero e)))
          have HD : Hid (decide (0 < lexC xs ys) = decide (ys[k]?.getD 0 < xs[k]?.getD 0)) := by
            show _ = _
            rw [HB.out, List.getD_eq_getElem?_getD, List.getD_eq_getElem?_getD]
            unfold cmpI
            split
            · simp; omega
            · split
              · simp; omega
              · simp; omega
          clear hd
          go_wp2
          go_quiet (fail)
          go_wp2
          go_quiet (fail)
          go_wp2
          go_ret
          refine ⟨ret_bool HD.out.symm, ?_⟩
          simp only [World.drewN_drewN]
          exact Ext.drewN _ _
      · have HB := hidP (lexC_end_y xs ys (by have := L.out; have := L'.out; omega) fun j hj => HJ.out j (by have := L'.out; omega))
        have HD : Hid (decide (0 < lexC xs ys) = true) := by show _ = _; rw [HB.out]; rfl
        have hgt : n' < n := by omega
        go_wp2
        go_ret
        exact ⟨ret_bool HD.out.symm, Ext.drewN _ _⟩
    · obtain rfl : k = n := by omega
      by_cases hl : k < n'
      · have HB := hidP (lexC_end_x xs ys (by have := L.out; have := L'.out; omega) fun j hj => HJ.out j (by have := L.out; omega))
        have HD : Hid (decide (0 < lexC xs ys) = false) := by show _ = _; rw [HB.out]; rfl
        have hgt : ¬ n' < k := by omega
        go_wp2
        go_ret
        exact ⟨ret_bool HD.out.symm, Ext.drewN _ _⟩
      · have HB := hidP (lexC_end xs ys (by have := L.out; have := L'.out; omega) fun j hj => HJ.out j (by have := L'.out; omega))
        have HD : Hid (decide (0 < lexC xs ys) = false) := by show _ = _; rw [HB.out]; rfl
        have hgt : ¬ n' < k := by omega
        go_wp2
        go_ret
        exact ⟨ret_bool HD.out.symm, Ext.drewN _ _⟩
theorem lexC_swap (xs ys : List Int) : lexC ys xs = - lexC xs ys := by
  induction xs generalizing ys with
  | nil => cases ys <;> simp [lexC]
  | cons x xs ih =>
    cases ys with
    | nil => simp [lexC]
    | cons y ys =>
      have h1 : cmpI y x = - cmpI x y := by unfold cmpI; split <;> split <;> (try split) <;> omega
      simp only [lexC, ih ys, h1]
      by_cases h : cmpI x y = 0
      · simp [h]
      · simp [h]
set_option maxHeartbeats 1000000 in
theorem l11Before_any (a a' : Option Addr) (n n' c c' : Nat) (xs ys : List Int) (w : World) (h : IntsAt w a n xs) (h' : IntsAt w a' n' ys) (hn : n ≤ 9223372036854775807) (hn' : n' ≤ 9223372036854775807) :
    Calls Tryz.prog 114 #[.slice a n c, .slice a' n' c'] w fun e w' => e = .returned (.bool (decide (cmpW xs ys < 0))) ∧ Ext w w' := by
  have HC := hidP (l6Above_any a' a n' n c' c ys xs w h' h hn' hn)
  by_cases hne : n = n'
  · have HD : Hid (decide (cmpW xs ys < 0) = decide (0 < lexC ys xs)) := by
      show _ = _
      unfold cmpW
      rw [h.len, h'.len, hne, cmpI_self]
      simp only [bne_self_eq_false, Bool.false_eq_true, if_false]
      rw [lexC_swap xs ys]
      congr 1
      simp
    have hb : (((n : Nat) : Int) != (n' : Nat)) = false := by simp [hne]
    clear h h' hne
    go_enter Tryz.func114, Tryz.ntmps114
    go_wp2_with (go_at_call 140; refine HC.out.mono ?_; rintro e w' ⟨rfl, hx⟩)
    go_ret
    exact ⟨ret_bool HD.out.symm, hx⟩
  · have HD : Hid (decide (cmpW xs ys < 0) = decide (n < n')) := by
      show _ = _
      have : cmpI (n : Int) n' ≠ 0 := fun e => hne (by have := cmpI_zero e; omega)
      unfold cmpW
      rw [h.len, h'.len]
      simp only [bne_iff_ne, ne_eq, this, not_false_eq_true, if_true]
      unfold cmpI at this ⊢
      split
      · simp; omega
      · split
        · simp; omega
        · simp; omega
    have hb : (((n : Nat) : Int) != (n' : Nat)) = true := bne_iff_ne.2 (by omega)
    clear h h' hne
    go_enter Tryz.func114, Tryz.ntmps114
    go_wp2
    go_ret
    exact ⟨ret_bool HD.out.symm, Ext.refl _⟩
end Go.Proofs.YtnfbfdamlnjblaaGreatDoor
