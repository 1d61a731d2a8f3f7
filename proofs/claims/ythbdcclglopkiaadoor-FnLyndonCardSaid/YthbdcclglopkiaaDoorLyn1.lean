/-
  The program's small functions on words: isLyndon, isFreeWord, IsLyndon, cutAt, CutWord.
-/
import Derived.Test.YthbdcclglopkiaaDoorLyn
import Derived.Test.YthbdcclglopkiaaDoorOwnB
namespace Go.Proofs.YthbdcclglopkiaaDoor
open Go.RowKit

theorem IntsAt.dropped {w : World} {b o n : Nat} {xs : List Int} (h : IntsAt w (some ⟨b, o, none⟩) n xs) (i : Nat) (hi : i ≤ n) : IntsAt w (some ⟨b, o + i, none⟩) (n - i) (xs.drop i) := by
  have := h.part i (n - i) (by omega)
  rwa [List.take_of_length_le (by rw [List.length_drop, h.len]; omega)] at this
theorem IntsAt.first {w : World} {b o n : Nat} {xs : List Int} (h : IntsAt w (some ⟨b, o, none⟩) n xs) (i : Nat) (hi : i ≤ n) : IntsAt w (some ⟨b, o, none⟩) i (xs.take i) := by
  have := h.part 0 i (by omega)
  simpa using this
set_option maxHeartbeats 1000000 in
theorem isLyndon_any (a : Option Addr) (n c : Nat) (xs : List Int) (w : World) (h : IntsAt w a n xs) (hnc : n ≤ c) (_hc : c ≤ maxLen) (hn : n ≤ 1000000000000) :
    Calls Tryd.prog 32 #[.slice a n c] w fun e w' => e = .returned (.bool (lynB xs)) ∧ w = w' := by
  have G := hidP h
  have L := hidP h.len
  clear h
  go_enter Tryd.func32, Tryd.ntmps32
  go_wp2
  go_loop [3] (fun i => ∃ k : Nat, 1 ≤ k ∧ (k ≤ n ∨ k = 1) ∧ Hid (∀ j, j < k → 0 < j → lexC xs (xs.drop j) < 0) ∧ i = .int .i64 k) (fun i => n - (intOf i).toNat)
  case atStart => exact ⟨1, Nat.le_refl _, .inr rfl, fun j h h0 => by omega, rfl⟩
  case round =>
    obtain ⟨k, hk1, hk, HJ, rfl⟩ := hrel
    by_cases hlt : k < n
    · obtain ⟨b, o, rfl, q⟩ := G.out.get k hlt
      have HC := hidP (compareInts_any (some ⟨b, o, none⟩) (some ⟨b, o + k, none⟩) n (n - k) c (c - k) xs (xs.drop k) w G.out (G.out.dropped k (by omega)) (by omega) (by omega))
      obtain ⟨z, hz⟩ : ∃ z, z = lexC xs (xs.drop k) := ⟨_, rfl⟩
      rw [← hz] at HC
      have HZ := hidP hz
      clear hz q
      by_cases hl : z < 0
      · have HJ2 : Hid (∀ j, j < k + 1 → 0 < j → lexC xs (xs.drop j) < 0) := by
          intro j hj h0
          rcases Nat.lt_succ_iff_lt_or_eq.1 hj with h3 | rfl
          · exact HJ.out j h3 h0
          · rw [← HZ.out]; exact hl
        have hng : ¬ (0 ≤ z) := by omega
        go_wp2_with fail
        refine HC.out.mono ?_
        rintro e w' ⟨rfl, rfl⟩
        go_wp2
        go_round
        case rel => exact ⟨k + 1, by omega, by omega, HJ2, by go_num⟩
        case measure => simp [intOf]; omega
      · have hge : 0 ≤ z := by omega
        have HB := hidP (lynB_not (w := xs) k (by omega) (by rw [L.out]; exact hlt) (by rw [← HZ.out]; exact hge))
        go_wp2_with fail
        refine HC.out.mono ?_
        rintro e w' ⟨rfl, rfl⟩
        go_wp2
        go_ret
        exact ⟨ret_bool HB.out.symm, rfl⟩
    · have HB := hidP (lynB_all (w := xs) fun j hj h0 => HJ.out j (by have := L.out; omega) h0)
      go_wp2
      go_ret
      exact ⟨ret_bool HB.out.symm, rfl⟩
theorem isFreeWord1_any (x : Int) (w : World) : Calls Tryd.prog 47 #[.int .i64 x] w fun e w' => e = .returned (.bool (!insB x 0 3)) ∧ w = w' := by
  go_enter Tryd.func47, Tryd.ntmps47
  go_wp2_with (go_at_call 34; refine (inside_any _ _ _ _).mono ?_; rintro e w' ⟨rfl, rfl⟩)
  go_ret
  exact ⟨rfl, rfl⟩
theorem callFunc_isFreeWord1 (args : Array Value) (w : World) : Sem.run Tryd.prog (callFunc 47 args) w = .ok (.enter 47 args) w := by
  kernel_rfl
set_option maxHeartbeats 1000000 in
theorem isFreeWord_any (a : Option Addr) (n c : Nat) (xs : List Int) (w : World) (h : IntsAt w a n xs) (hn : n ≤ 1000000000000) :
    Calls Tryd.prog 31 #[.slice a n c] w fun e w' => e = .returned (.bool (freeB xs)) ∧ w = w' := by
  have HC := hidP (containsFunc_any 47 #[] (fun x => !insB x 0 3) a n c xs w h hn callFunc_isFreeWord1 (fun x => isFreeWord1_any x _))
  have L := hidP h.len
  clear h
  have HF : Hid (freeB xs = (insB n 1 8 && letB xs)) := by show _ = _; unfold freeB; rw [L.out]
  have HE : Hid ((!(xs.any fun x => !insB x 0 3)) = letB xs) := rfl
  cases hb : insB n 1 8
  · rw [hb] at HF
    go_enter Tryd.func31, Tryd.ntmps31
    go_wp2_with (go_at_call 34; refine (inside_any _ _ _ _).mono ?_; rintro e w' ⟨rfl, rfl⟩)
    go_ret
    exact ⟨ret_bool (by rw [HF.out]; rfl), rfl⟩
  · rw [hb] at HF
    generalize (xs.any fun x => !insB x 0 3) = B at *
    go_enter Tryd.func31, Tryd.ntmps31
    go_wp2_with (first | (go_at_call 34; refine (inside_any _ _ _ _).mono ?_; rintro e w' ⟨rfl, rfl⟩) | (go_at_call 46; refine HC.out.mono ?_; rintro e w' ⟨rfl, rfl⟩))
    go_ret
    exact ⟨ret_bool (by rw [HF.out, ← HE.out]; rfl), rfl⟩
set_option maxHeartbeats 1000000 in
theorem isLyndonP_any (a : Option Addr) (n c : Nat) (xs : List Int) (w : World) (h : IntsAt w a n xs) (hnc : n ≤ c) (hc : c ≤ maxLen) (hn : n ≤ 1000000000000) :
    Calls Tryd.prog 13 #[.slice a n c] w fun e w' => e = .returned (.bool (lynOk xs)) ∧ w = w' := by
  have HF := hidP (isFreeWord_any a n c xs w h (by omega))
  have HL := hidP (isLyndon_any a n c xs w h hnc hc hn)
  have HO : Hid (lynOk xs = (freeB xs && lynB xs)) := rfl
  clear h
  cases hb : freeB xs
  · rw [hb] at HF HO
    go_enter Tryd.func13, Tryd.ntmps13
    go_wp2_with (go_at_call 31; refine HF.out.mono ?_; rintro e w' ⟨rfl, rfl⟩)
    go_ret
    exact ⟨ret_bool (by rw [HO.out]; rfl), rfl⟩
  · rw [hb] at HF HO
    go_enter Tryd.func13, Tryd.ntmps13
    go_wp2_with (first | (go_at_call 31; refine HF.out.mono ?_; rintro e w' ⟨rfl, rfl⟩) | (go_at_call 32; refine HL.out.mono ?_; rintro e w' ⟨rfl, rfl⟩))
    go_ret
    exact ⟨ret_bool (by rw [HO.out]; simp), rfl⟩
set_option maxHeartbeats 1000000 in
theorem cutAt_any (a : Option Addr) (n c : Nat) (xs : List Int) (w : World) (h : IntsAt w a n xs) (hn1 : 2 ≤ n) (hnc : n ≤ c) (hc : c ≤ maxLen) (hn : n ≤ 1000000000000) :
    Calls Tryd.prog 37 #[.slice a n c] w fun e w' => e = .returned (.int .i64 (cutL xs)) ∧ w = w' := by
  have G := hidP h
  have L := hidP h.len
  obtain ⟨b, o, rfl, _⟩ := h.get 0 (by omega)
  clear h
  unfold maxLen at hc
  go_enter Tryd.func37, Tryd.ntmps37
  go_wp2
  go_loop [3] (fun i => ∃ k f : Nat, 1 ≤ k ∧ k < n ∧ k + f = n + 1 ∧ Hid (cutTo xs f k = cutL xs) ∧ i = .int .i64 k) (fun i => n - (intOf i).toNat)
  case atStart => exact ⟨1, n, Nat.le_refl _, by omega, by omega, by show _ = _; unfold cutL; rw [L.out], rfl⟩
  case round =>
    obtain ⟨k, f, hk1, hk, hf, HJ, rfl⟩ := hrel
    have HC := hidP (isLyndon_any (some ⟨b, o + k, none⟩) (n - k) (c - k) (xs.drop k) w (G.out.dropped k (by omega)) (by omega) (by unfold maxLen; omega) (by omega))
    cases hb : lynB (xs.drop k)
    · rw [hb] at HC
      have hk2 : k + 1 < n := by
        rcases Nat.lt_or_ge (k + 1) n with h1 | h1
        · exact h1
        · rw [lynB_short (by rw [List.length_drop, L.out]; omega)] at hb; cases hb
      obtain ⟨f', rfl⟩ : ∃ f', f = f' + 1 := ⟨f - 1, by omega⟩
      have HJ2 : Hid (cutTo xs f' (k + 1) = cutL xs) := by show _ = _; rw [← HJ.out, cutTo_step hb]
      clear hb
      go_wp2_with fail
      refine HC.out.mono ?_
      rintro e w' ⟨rfl, rfl⟩
      go_wp2
      go_round
      case rel => exact ⟨k + 1, f', by omega, by omega, by omega, HJ2, by go_num⟩
      case measure => simp [intOf]; omega
    · rw [hb] at HC
      have HB : Hid (cutL xs = k) := by show _ = _; rw [← HJ.out, cutTo_stop hb]
      clear hb
      go_wp2_with fail
      refine HC.out.mono ?_
      rintro e w' ⟨rfl, rfl⟩
      go_wp2
      go_ret
      exact ⟨ret_int (by rw [HB.out]), rfl⟩
theorem OwnI.room {w : World} {B : Nat} {a : Option Addr} {n c : Nat} {xs : List Int} (h : OwnI w B a n c xs) : n ≤ c ∧ c ≤ maxLen := by
  rcases h.row.2 with ⟨he, h0⟩ | ⟨g, cap, cur, he, hB, hg, hnc, hcm, _⟩
  · simp only [Value.slice.injEq] at he
    obtain ⟨_, _, rfl⟩ := he
    exact ⟨by omega, by unfold maxLen; omega⟩
  · simp only [Value.slice.injEq, true_and] at he
    obtain ⟨_, rfl⟩ := he
    exact ⟨hnc, hcm⟩
end Go.Proofs.YthbdcclglopkiaaDoor
