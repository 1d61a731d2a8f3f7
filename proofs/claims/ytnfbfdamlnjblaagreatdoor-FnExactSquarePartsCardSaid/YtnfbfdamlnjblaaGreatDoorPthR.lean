/-
  Paths read by the reference: l1Same, l5Lattice, l9Time, l9Ok, PathOk.
-/
import Derived.Test.YtnfbfdamlnjblaaGreatDoorStp
import Derived.Test.YtnfbfdamlnjblaaGreatDoorCv
import Derived.Test.YtnfbfdamlnjblaaGreatDoorReg
import Derived.Test.YtnfbfdamlnjblaaGreatDoorInt
namespace Go.Proofs.YtnfbfdamlnjblaaGreatDoor
open Go.RowKit

set_option maxHeartbeats 1000000 in
theorem l1Same_any (a1 a2 : Option Addr) (n1 n2 c1 c2 : Nat) (xs ys : List Int) (w : World) (h1 : IntsAt w a1 n1 xs) (h2 : IntsAt w a2 n2 ys) (hm1 : n1 ≤ 9223372036854775807) (hm2 : n2 ≤ 9223372036854775807) :
    Calls Tryz.prog 115 #[.slice a1 n1 c1, .slice a2 n2 c2] w fun e w' => e = .returned (.bool (xs == ys)) ∧ ∃ m, w' = w.drewN m := by
  obtain ⟨l1, g1⟩ := h1
  obtain ⟨l2, g2⟩ := h2
  have G1 := hidP g1
  have G2 := hidP g2
  have L1 := hidP l1
  have L2 := hidP l2
  clear g1 g2 l1 l2
  by_cases hne : n1 = n2
  · subst hne
    go_enter Tryz.func115, Tryz.ntmps115
    go_wp2
    go_loopw [5] (fun i wr => ∃ k m : Nat, k ≤ n1 ∧ Hid (∀ j, j < k → xs.getD j 0 = ys.getD j 0) ∧ i = .int .i64 k ∧ wr = w.drewN m) (fun i _ => n1 - (intOf i).toNat)
    case atStart => exact ⟨0, 0, Nat.zero_le _, fun j h => by omega, rfl, rfl⟩
    case round =>
      obtain ⟨k, m, hk, HJ, rfl, rfl⟩ := hrel
      by_cases hlt : k < n1
      · obtain ⟨b1, o1, rfl, q1⟩ := G1.out k hlt
        obtain ⟨b2, o2, rfl, q2⟩ := G2.out k hlt
        by_cases hd : xs.getD k 0 = ys.getD k 0
        · have hb : (xs[k]?.getD 0 != ys[k]?.getD 0) = false := by simpa [List.getD_eq_getElem?_getD] using hd
          have HD := hidP hd
          clear hd
          go_wp2
          go_quiet (fail)
          go_wp2
          go_roundw
          case rel =>
            refine ⟨k + 1, m + nq, by omega, fun j hj => ?_, by go_num, by simp⟩
            rcases Nat.lt_succ_iff_lt_or_eq.1 hj with h3 | rfl
            · exact HJ.out j h3
            · exact HD.out
          case measure => simp [intOf]; omega
        · have hb : (xs[k]?.getD 0 != ys[k]?.getD 0) = true := by simpa [List.getD_eq_getElem?_getD] using hd
          have HB : Hid ((xs == ys) = false) := by
            show _ = _
            rw [beq_eq_false_iff_ne]
            exact fun e => hd (by rw [e])
          clear hd
          go_wp2
          go_quiet (fail)
          go_wp2
          go_ret
          exact ⟨ret_bool HB.out.symm, _, by simp only [World.drewN_drewN]; rfl⟩
      · have HB : Hid ((xs == ys) = true) := by
          show _ = _
          rw [beq_iff_eq]
          exact ints_ext (L1.out.trans L2.out.symm) fun j hj => HJ.out j (by have := L1.out; omega)
        go_wp2
        go_ret
        exact ⟨ret_bool HB.out.symm, _, rfl⟩
  · have HB : Hid ((xs == ys) = false) := by
      show _ = _
      rw [beq_eq_false_iff_ne]
      exact fun e => hne (by rw [← L1.out, ← L2.out, e])
    have hb : (((n1 : Nat) : Int) != (n2 : Nat)) = true := bne_iff_ne.2 (by omega)
    clear hne
    go_enter Tryz.func115, Tryz.ntmps115
    go_wp2
    go_ret
    exact ⟨ret_bool HB.out.symm, 0, rfl⟩

def wayIn (x : Int) : Bool := insB x (-1000) 1000
theorem wayB_eq (r : Nat) (w : List Int) : wayB r w = (decide (w.length = r) && w.all wayIn) := by
  unfold wayB
  congr 1
theorem wayB_len {r : Nat} {w : List Int} (h : w.length ≠ r) : wayB r w = false := by simp [wayB_eq, h]
theorem wayB_bad {r : Nat} {w : List Int} (k : Nat) (hk : k < w.length) (h : wayIn (w.getD k 0) = false) : wayB r w = false := by
  rw [wayB_eq, Bool.and_eq_false_iff]
  right
  rw [List.all_eq_false]
  exact ⟨w.getD k 0, by rw [getD_lt _ hk]; exact List.getElem_mem hk, by rw [h]; exact Bool.false_ne_true⟩
theorem wayB_good {r : Nat} {w : List Int} (hl : w.length = r) (h : ∀ k, k < w.length → wayIn (w.getD k 0) = true) : wayB r w = true := by
  rw [wayB_eq, Bool.and_eq_true, List.all_eq_true]
  refine ⟨by simp [hl], fun x hx => ?_⟩
  obtain ⟨k, hk, rfl⟩ := List.mem_iff_getElem.1 hx
  rw [← getD_lt _ hk]
  exact h k hk

set_option maxRecDepth 100000 in
set_option maxHeartbeats 1000000 in
theorem l5Lattice_any (r : Nat) (ta : Option Addr) (tn tc : Nat) (a : Option Addr) (n c : Nat) (xs : List Int) (w : World) (h : IntsAt w a n xs) (hn : n ≤ 9223372036854775807) (_hr : r ≤ 1000000) :
    Calls Tryz.prog 139 #[carV r ta tn tc, .slice a n c] w fun e w' => e = .returned (.bool (wayB r xs)) ∧ Ext w w' := by
  have hX := Ext.alloc w (.cells #[.int .i64 r, .slice ta tn tc] 55)
  have G := hidP (h.below hX)
  have HX := hidP hX
  have L := hidP h.len
  obtain ⟨f0, f1⟩ := CarAt.new w _ rfl (r : Int) ta tn tc 55
  clear hX h
  go_enter Tryz.func139, Tryz.ntmps139
  by_cases hnr : n = r
  · have hne : ((n : Int) != (r : Int)) = false := by simp [hnr]
    have HN := hidP hnr
    clear hnr
    go_wp2
    go_loopw [5] (fun i wr => ∃ k : Nat, k ≤ n ∧ Hid (∀ j, j < k → wayIn (xs.getD j 0) = true) ∧ i = .int .i64 k ∧ wr = w.alloc (.cells #[.int .i64 r, .slice ta tn tc] 55)) (fun i _ => n - (intOf i).toNat)
    case atStart => exact ⟨0, Nat.zero_le _, fun j h => by omega, rfl, rfl⟩
    case round =>
      obtain ⟨k, hk, HJ, rfl, rfl⟩ := hrel
      by_cases hlt : k < n
      · obtain ⟨b, o, rfl, q⟩ := G.out.get k hlt
        cases hin : wayIn (xs.getD k 0)
        · have HB := hidP (wayB_bad (r := r) k (by have := L.out; omega) hin)
          have hin' : insB (xs[k]?.getD 0) (-1000) 1000 = false := by simpa [wayIn, List.getD_eq_getElem?_getD] using hin
          clear hin
          go_wp2_with (go_at_call 110; refine (l1In_any _ _ _ _).mono ?_; rintro e w' ⟨rfl, rfl⟩)
          go_ret
          exact ⟨ret_bool HB.out.symm, HX.out⟩
        · have hin' : insB (xs[k]?.getD 0) (-1000) 1000 = true := by simpa [wayIn, List.getD_eq_getElem?_getD] using hin
          have HI := hidP hin
          clear hin
          go_wp2_with (go_at_call 110; refine (l1In_any _ _ _ _).mono ?_; rintro e w' ⟨rfl, rfl⟩)
          go_roundw
          case rel =>
            refine ⟨k + 1, by omega, fun j hj => ?_, by go_num, trivial⟩
            rcases Nat.lt_succ_iff_lt_or_eq.1 hj with h3 | rfl
            · exact HJ.out j h3
            · exact HI.out
          case measure => simp [intOf]; omega
      · have HB := hidP (wayB_good (r := r) (w := xs) (by have := L.out; have := HN.out; omega) (fun j hj => HJ.out j (by have := L.out; omega)))
        go_wp2
        go_ret
        exact ⟨ret_bool HB.out.symm, HX.out⟩
  · have hne : ((n : Int) != (r : Int)) = true := bne_iff_ne.2 (by omega)
    have HB := hidP (wayB_len (r := r) (w := xs) (by have := L.out; omega))
    go_wp2
    go_ret
    exact ⟨ret_bool HB.out.symm, HX.out⟩

theorem timeAt_bounds {p : List Stp} {n : Nat} (h : ∀ k, k < n → 0 ≤ lenAt p k ∧ lenAt p k ≤ 1000000) : ∀ k, k ≤ n → 0 ≤ timeAt p k ∧ timeAt p k ≤ 1000000 * k
  | 0, _ => ⟨Int.le_refl _, Int.le_refl _⟩
  | k + 1, hk => by
    have h1 := timeAt_bounds h k (by omega)
    have h2 := h k (by omega)
    rw [timeAt]
    omega


/-- one step of a path that is read -/
theorem TermsAt.way {w : World} {a : Option Addr} {n : Nat} {xs : List Stp} (h : TermsAt w a n xs) (k : Nat) (hk : k < n) :
    ∃ b o aw cw, ∃ W : List Int, ∃ L : Int, a = some ⟨b, o, none⟩ ∧ Hid (wayAt xs k = W) ∧ Hid (lenAt xs k = L) ∧ W.length ≤ 9223372036854775807 ∧ ∀ w', Ext w w' → w'.cell? ⟨b, o + k * 2, none⟩ = some (.slice aw W.length cw) ∧ w'.cell? ⟨b, o + k * 2 + 1, none⟩ = some (.int .i64 L) ∧ IntsAt w' aw W.length W := by
  obtain ⟨b, o, _, _, rfl, _⟩ := h.get k hk
  obtain ⟨aw, cw, h1, h2⟩ := h.keeps k hk
  exact ⟨b, o, aw, cw, wayAt xs k, lenAt xs k, rfl, rfl, rfl, h1, h2⟩
theorem pathB_long {r : Nat} {p : List Stp} (h : ¬ p.length ≤ 60) : pathB r p = false := by simp [pathB, h]
theorem pathB_bad {r : Nat} {p : List Stp} (k : Nat) (hk : k < p.length) (h : stepB r p k = false) : pathB r p = false := by
  have : (List.range p.length).all (stepB r p) = false := by
    rw [List.all_eq_false]
    exact ⟨k, List.mem_range.2 hk, by simp [h]⟩
  simp [pathB, this]
theorem pathB_end {r : Nat} {p : List Stp} {n : Nat} (hn : p.length = n) (h60 : n ≤ 60) (h : ∀ j, j < n → stepB r p j = true) : pathB r p = (decide (timeAt p n % 27720 = 0) && decide (timeAt p n ≤ 83160)) := by
  subst hn
  have : (List.range p.length).all (stepB r p) = true := by
    rw [List.all_eq_true]
    exact fun j hj => h j (List.mem_range.1 hj)
  unfold pathB
  rw [this, decide_eq_true h60, Bool.true_and, Bool.true_and]
theorem stepB_len {r : Nat} {p : List Stp} {k : Nat} (h : stepB r p k = true) : 0 ≤ lenAt p k ∧ lenAt p k ≤ 1000000 := by
  simp only [stepB, Bool.and_eq_true, decide_eq_true_eq] at h
  omega
theorem stepB_way {r : Nat} {p : List Stp} {k : Nat} (h : stepB r p k = true) : (wayAt p k).length = r := by
  simp only [stepB, Bool.and_eq_true] at h
  exact (wayB_iff.1 h.1).1

end Go.Proofs.YtnfbfdamlnjblaaGreatDoor
