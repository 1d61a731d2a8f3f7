/-
  The law's own small functions on slices of integers: eqIntS, markIntS, heldIntS, toIntS, szIntS.
-/
import Derived.Test.YtnfbfdamlnjblaaGreatDoorMem
import Derived.Deep.QuietTactic
import Derived.BigQuiet
namespace Go.Proofs.YtnfbfdamlnjblaaGreatDoor
open Go.RowKit

theorem Tryz.info3 : (Tryz.prog.info? 3).map (fun i => (i.zero, i.size, i.bytes)) = some (some (.int .i64 0), 1, 8) := by kernel_rfl

/-- make([]int, n) -/
theorem make_ints (n : Int) (h0 : 0 ≤ n) (h1 : n ≤ 1000000000000) (w : World) :
    (Instr.makeSlice 22 (.int .i64 n) (.int .i64 n)).run Tryz.prog w = .ok (.slice (some ⟨w.heap.size, 0, none⟩) n.toNat n.toNat) (w.alloc (.cells (Array.replicate n.toNat (.int .i64 0)) 3)) := by
  obtain ⟨i, hi, hz0, hz1, hz2⟩ := info_parts Tryz.info3
  have := run_make (P := Tryz.prog) w 22 3 i (.int .i64 0) Tryz.underlying22 hi hz0 .i64 .i64 n n h0 (Int.le_refl _) (by rw [hz2]; omega) (by omega)
  rw [this, hz1]
  have e : madeCells (Value.int .i64 0).cells (n.toNat * 1) = Array.replicate n.toNat (.int .i64 0) := by
    apply Array.ext'
    rw [show (Value.int .i64 0).cells = #[.int .i64 0] from rfl, toList_madeCells_one]
    simp
  rw [e]

set_option maxHeartbeats 1000000 in
theorem eqIntS_any (a1 a2 : Option Addr) (n1 n2 c1 c2 : Nat) (xs ys : List Int) (w : World) (h1 : IntsAt w a1 n1 xs) (h2 : IntsAt w a2 n2 ys) (hm1 : n1 ≤ 9223372036854775807) (hm2 : n2 ≤ 9223372036854775807) :
    Calls Tryz.prog 20 #[.slice a1 n1 c1, .slice a2 n2 c2] w fun e w' => e = .returned (.bool (xs == ys)) ∧ ∃ m, w' = w.drewN m := by
  obtain ⟨l1, g1⟩ := h1
  obtain ⟨l2, g2⟩ := h2
  have G1 := hidP g1
  have G2 := hidP g2
  have L1 := hidP l1
  have L2 := hidP l2
  clear g1 g2 l1 l2
  by_cases hne : n1 = n2
  · subst hne
    go_enter Tryz.func20, Tryz.ntmps20
    go_wp2
    go_loopw [5] (fun i wr => ∃ k m : Nat, k ≤ n1 ∧ Hid (∀ j, j < k → xs.getD j 0 = ys.getD j 0) ∧ i = .int .i64 k ∧ wr = w.drewN m) (fun i _ => n1 - (intOf i).toNat)
    case atStart => exact ⟨0, 0, Nat.zero_le _, fun j h => by omega, rfl, rfl⟩
    case round =>
      obtain ⟨k, m, hk, HJ, rfl, rfl⟩ := hrel
      by_cases hlt : k < n1
      · obtain ⟨b1, o1, rfl, q1⟩ := G1.out k hlt
        obtain ⟨b2, o2, rfl, q2⟩ := G2.out k hlt
        by_cases hd : xs.getD k 0 = ys.getD k 0
        · have hb : (xs[k]?.getD 0 != ys[k]?.getD 0) = false := by simpa [List.getD_eq_getElem?_getD] using hd
          have HD := hidP hd
          clear hd
          go_wp2
          go_quiet (fail)
          go_wp2
          go_roundw
          case rel =>
            refine ⟨k + 1, m + nq, by omega, fun j hj => ?_, by go_num, by simp⟩
            rcases Nat.lt_succ_iff_lt_or_eq.1 hj with h3 | rfl
            · exact HJ.out j h3
            · exact HD.out
          case measure => simp [intOf]; omega
        · have hb : (xs[k]?.getD 0 != ys[k]?.getD 0) = true := by simpa [List.getD_eq_getElem?_getD] using hd
          have HB : Hid ((xs == ys) = false) := by
            show _ = _
            rw [beq_eq_false_iff_ne]
            exact fun e => hd (by rw [e])
          clear hd
          go_wp2
          go_quiet (fail)
          go_wp2
          go_ret
          exact ⟨ret_bool HB.out.symm, _, by simp only [World.drewN_drewN]; rfl⟩
      · have HB : Hid ((xs == ys) = true) := by
          show _ = _
          rw [beq_iff_eq]
          exact ints_ext (L1.out.trans L2.out.symm) fun j hj => HJ.out j (by have := L1.out; omega)
        go_wp2
        go_ret
        exact ⟨ret_bool HB.out.symm, _, rfl⟩
  · have HB : Hid ((xs == ys) = false) := by
      show _ = _
      rw [beq_eq_false_iff_ne]
      exact fun e => hne (by rw [← L1.out, ← L2.out, e])
    have hb : (((n1 : Nat) : Int) != (n2 : Nat)) = true := bne_iff_ne.2 (by omega)
    clear hne
    go_enter Tryz.func20, Tryz.ntmps20
    go_wp2
    go_ret
    exact ⟨ret_bool HB.out.symm, 0, rfl⟩

/-- k, k + 1, .. -/
def upFrom (k : Int) : Nat → List Int
  | 0 => []
  | n + 1 => k :: upFrom (k + 1) n
theorem upFrom_length (k : Int) (n : Nat) : (upFrom k n).length = n := by
  induction n generalizing k with
  | zero => rfl
  | succ n ih => simp [upFrom, ih]
theorem upFrom_get (k : Int) (n j : Nat) (h : j < n) : (upFrom k n).getD j 0 = k + j := by
  induction n generalizing k j with
  | zero => omega
  | succ n ih =>
    cases j with
    | zero => simp [upFrom]
    | succ j =>
      have := ih (k + 1) j (by omega)
      simp only [List.getD_eq_getElem?_getD] at this ⊢
      simp only [upFrom, List.getElem?_cons_succ, this]
      omega
/-- the first j numbers of ys, the others of xs -/
def partly (xs ys : List Int) (j : Nat) : List Int := ys.take j ++ xs.drop j
theorem partly_zero (xs ys : List Int) : partly xs ys 0 = xs := by simp [partly]
theorem partly_all (xs ys : List Int) (n : Nat) (h1 : xs.length = n) (h2 : ys.length = n) : partly xs ys n = ys := by simp [partly, ← h2, List.take_of_length_le, h1]
theorem partly_get (xs ys : List Int) (j n : Nat) (hj : j < n) (h1 : xs.length = n) (h2 : ys.length = n) : (partly xs ys j).getD j 0 = xs.getD j 0 := by
  simp only [partly, List.getD_eq_getElem?_getD]
  rw [List.getElem?_append_right (by simp; omega), List.getElem?_drop]
  congr 2
  simp
  omega
theorem partly_succ (xs ys : List Int) (n j : Nat) (hj : j < n) (h1 : xs.length = n) (h2 : ys.length = n) : (partly xs ys j).set j (ys.getD j 0) = partly xs ys (j + 1) := by
  apply List.ext_getElem?
  intro i
  simp only [partly, List.getElem?_set, List.getElem?_append, List.length_take, List.getElem?_take, List.getElem?_drop, List.length_append, List.length_drop]
  by_cases h : j = i
  · subst h
    rw [if_pos rfl, if_pos (by omega), if_pos (by omega), if_pos (by omega), List.getElem?_eq_getElem (by omega), List.getD_eq_getElem?_getD, List.getElem?_eq_getElem (by omega)]
    rfl
  · simp only [h, if_false]
    by_cases h3 : i < j
    · simp [show min j ys.length = j by omega, show min (j + 1) ys.length = j + 1 by omega, h3, show i < j + 1 by omega]
    · simp [show min j ys.length = j by omega, show min (j + 1) ys.length = j + 1 by omega, h3, show ¬ (i < j + 1) by omega]
      congr 1; omega

set_option maxHeartbeats 1000000 in
theorem markIntS_any (a : Option Addr) (n c : Nat) (k0 : Int) (xs : List Int) (w : World) (h : IntsAt w a n xs) (hf : ∀ i b o, i < n → a = some ⟨b, o, none⟩ → w.frozen? ⟨b, o + i, none⟩ = false)
    (hn : n ≤ 1000000000000) (hk0 : -1000000000000 ≤ k0) (hk1 : k0 ≤ 1000000000000) :
    Calls Tryz.prog 22 #[.slice a n c, .int .i64 k0] w fun e w' => e = .returned (.int .i64 (k0 + n)) ∧ UpdI w w' a n (upFrom k0 n) := by
  have hst := UpdI.start h
  have G := hidP h.get
  have L := hidP h.len
  have HF := hidP hf
  have HST := hidP hst
  clear h hf hst
  go_enter Tryz.func22, Tryz.ntmps22
  go_wp2
  go_loopw [1, 5] (fun kk i wr => ∃ k : Nat, k ≤ n ∧ Hid (UpdI w wr a n (partly xs (upFrom k0 n) k)) ∧ i = .int .i64 k ∧ kk = .int .i64 (k0 + k)) (fun _ i _ => n - (intOf i).toNat)
  case atStart => exact ⟨0, Nat.zero_le _, by rw [partly_zero]; exact HST, rfl, by simp⟩
  case round =>
    obtain ⟨k, hk, HU, rfl, rfl⟩ := hrel
    by_cases hlt : k < n
    · obtain ⟨b, o, rfl, q⟩ := G.out k hlt
      have hcf := hidP (HU.out.cellAt k hlt)
      obtain ⟨v, hc, hfz⟩ := hcf.out
      have hfz' : wr.frozen? ⟨b, o + k, none⟩ = false := by rw [hfz]; exact HF.out k b o hlt rfl
      have hs := HU.out.store k hlt (k0 + k)
      rw [← upFrom_get k0 n k hlt, partly_succ xs _ n k hlt L.out (upFrom_length _ _), upFrom_get k0 n k hlt] at hs
      have HS := hidP hs
      clear hs hfz q hcf
      go_wp2
      go_roundw
      case rel => exact ⟨k + 1, by omega, HS, by go_num, by go_num⟩
      case measure => simp [intOf]; omega
    · have hu := HU.out
      obtain rfl : k = n := by omega
      rw [partly_all xs _ k L.out (upFrom_length _ _)] at hu
      go_wp2
      go_ret
      exact ⟨rfl, hu⟩

set_option maxHeartbeats 1000000 in
theorem heldIntS_any (a : Option Addr) (n c : Nat) (k0 : Int) (w : World) (h : IntsAt w a n (upFrom k0 n)) (hn : n ≤ 1000000000000) (hk0 : -1000000000000 ≤ k0) (hk1 : k0 ≤ 1000000000000) :
    Calls Tryz.prog 64 #[.slice a n c, .int .i64 k0] w fun e w' => e = .returned (.int .i64 (k0 + n)) ∧ ∃ m, w' = w.drewN m := by
  have G := hidP h.get
  clear h
  go_enter Tryz.func64, Tryz.ntmps64
  go_wp2
  go_loopw [1, 5] (fun kk i wr => ∃ k m : Nat, k ≤ n ∧ i = .int .i64 k ∧ kk = .int .i64 (k0 + k) ∧ wr = w.drewN m) (fun _ i _ => n - (intOf i).toNat)
  case atStart => exact ⟨0, 0, Nat.zero_le _, rfl, by simp, rfl⟩
  case round =>
    obtain ⟨k, m, hk, rfl, rfl, rfl⟩ := hrel
    by_cases hlt : k < n
    · obtain ⟨b, o, rfl, q⟩ := G.out k hlt
      rw [upFrom_get k0 n k hlt] at q
      go_wp2
      go_roundw
      case rel => exact ⟨k + 1, _, by omega, by go_num, by go_num, rfl⟩
      case measure => simp [intOf]; omega
    · obtain rfl : k = n := by omega
      go_wp2
      go_ret
      exact ⟨rfl, _, rfl⟩

/-- what is left of a bound, -1 where nothing is -/
def szLeft (n : Nat) (left : Int) : Int := if (n : Int) ≤ left then left - n else -1
theorem szIntS_any (a : Option Addr) (n c : Nat) (left : Int) (w : World) (hn : n ≤ 9223372036854775807) (h0 : 0 ≤ left) (h1 : left ≤ 1048576) :
    Calls Tryz.prog 54 #[.slice a n c, .int .i64 left] w fun e w' => e = .returned (.int .i64 (szLeft n left)) ∧ w = w' := by
  by_cases hle : (n : Int) ≤ left
  · have HE := hidP (if_pos hle : szLeft n left = left - n)
    have hx : ¬ (left - (n : Int) < 0) := by omega
    go_enter Tryz.func54, Tryz.ntmps54
    go_wp2
    go_ret
    exact ⟨ret_int HE.out.symm, rfl⟩
  · have HE := hidP (if_neg hle : szLeft n left = -1)
    have hx : left - (n : Int) < 0 := by omega
    go_enter Tryz.func54, Tryz.ntmps54
    go_wp2
    go_ret
    exact ⟨ret_int HE.out.symm, rfl⟩

set_option maxHeartbeats 1000000 in
theorem toIntS_any (a : Option Addr) (n c : Nat) (xs : List Int) (w : World) (h : IntsAt w a n xs) (hn : n ≤ 1048576) :
    Calls Tryz.prog 16 #[.slice a n c] w fun e w' => ∃ a', e = .returned (.slice a' n n) ∧ OwnI w' w.heap.size a' n n xs ∧ Ext w w' := by
  have hmade := OwnI.made w w.heap.size n (Nat.le_refl _) (by unfold maxLen; omega)
  have H := hidP h
  have HM := hidP hmade
  have L := hidP h.len
  have hmk := make_ints (n : Int) (by omega) (by omega)
  simp only [Int.toNat_natCast] at hmk
  clear h hmade
  go_enter Tryz.func16, Tryz.ntmps16
  go_wp2
  obtain ⟨w1, hw1⟩ : ∃ w1, w1 = w.alloc (.cells (Array.replicate n (.int .i64 0)) 3) := ⟨_, rfl⟩
  rw [← hw1] at HM ⊢
  have hx : Hid (Ext w w1) := by rw [hw1]; exact Ext.alloc w _
  have h1 := hidP (H.out.below hx.out)
  have hst := hidP (UpdI.start HM.out.ints)
  clear hw1 hmk
  go_loopw [4] (fun i wr => ∃ k : Nat, k ≤ n ∧ Hid (UpdI w1 wr (some ⟨w.heap.size, 0, none⟩) n (partly (List.replicate n 0) xs k)) ∧ i = .int .i64 k) (fun i _ => n - (intOf i).toNat)
  case atStart => exact ⟨0, Nat.zero_le _, by rw [partly_zero]; exact hst, rfl⟩
  case round =>
    obtain ⟨k, hk, HU, rfl⟩ := hrel
    by_cases hlt : k < n
    · have he := hidP (HU.out.below hx.out hx.out.size (fun b o e _ => by simp only [Option.some.injEq, Addr.mk.injEq] at e; omega))
      obtain ⟨b, o, rfl, q⟩ := (H.out.below he.out).get k hlt
      have hcf := hidP (HU.out.cellAt k hlt)
      obtain ⟨v, hc, hfz⟩ := hcf.out
      have hfz' : wr.frozen? ⟨w.heap.size, k, none⟩ = false := by rw [Nat.zero_add] at hfz; rw [hfz]; have := HM.out.unfrozen k _ _ hlt rfl; simpa using this
      rw [Nat.zero_add] at hc
      have hs := HU.out.store k hlt (xs.getD k 0)
      rw [partly_succ _ xs n k hlt (by simp) L.out, Nat.zero_add] at hs
      have HS := hidP hs
      clear hs hfz hcf
      go_wp2
      go_roundw
      case rel => exact ⟨k + 1, by omega, by simpa using HS, by go_num⟩
      case measure => simp [intOf]; omega
    · have hu := HU.out
      obtain rfl : k = n := by omega
      rw [partly_all _ xs k (by simp) L.out] at hu
      have ho := hidP (hu.own HM.out)
      have he := hidP (hu.below hx.out hx.out.size (fun b o e _ => by simp only [Option.some.injEq, Addr.mk.injEq] at e; omega))
      clear hu
      go_wp2
      go_ret
      exact ⟨_, rfl, ho.out, he.out⟩
end Go.Proofs.YtnfbfdamlnjblaaGreatDoor
