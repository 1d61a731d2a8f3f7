/-
  The reference's FormatInt and FormatInts.
-/
import Derived.Test.YthbdcclglopkiaaDoorStr
import Derived.Laws.IdiomStrings
namespace Go.Proofs.YthbdcclglopkiaaDoor
open Go.RowKit

def Pow (u k : Nat) : Prop := u < 10 ^ k
theorem Pow.step {v k : Nat} (h : Pow v k) (hv : 1 ≤ v) : ∃ k', k = k' + 1 ∧ Pow (v / 10) k' := by
  unfold Pow at *
  cases k with
  | zero => simp at h; omega
  | succ k => exact ⟨k, rfl, by rw [Nat.pow_succ] at h; exact (Nat.div_lt_iff_lt_mul (by omega)).2 h⟩
/-- a byte's text -/
theorem conv_byte (w : World) (b : Nat) (hb : b < 256) :
    (convert 29 9 (.slice (some ⟨w.heap.size, 0, none⟩) 1 1)).run Tryd.prog (w.alloc (.cells #[.int .u8 (b : Int)] 5)) = .ok (.string (str [UInt8.ofNat b])) (w.alloc (.cells #[.int .u8 (b : Int)] 5)) := by
  refine run_convert_bytes_back _ 29 9 5 ⟨w.heap.size, 0, none⟩ 1 [UInt8.ofNat b] Tryd.underlying29 Tryd.underlying5 Tryd.underlying9 fun j hj => ?_
  obtain rfl : j = 0 := by simp at hj; omega
  rw [add_none]
  refine (cell_top _ _ _ _ _ rfl).trans ?_
  simp [UInt8.toNat_ofNat', Nat.mod_eq_of_lt hb]

set_option maxRecDepth 100000 in
set_option maxHeartbeats 1000000 in
theorem sFormatInt_any (n : Int) (w : World) (h0 : -9223372036854775808 ≤ n) (h1 : n ≤ 9223372036854775807) :
    Calls Tryd.prog 23 #[.int .i64 n] w fun e w' => e = .returned (.string (str (Lib.itoa n))) ∧ Ext w w' := by
  rcases Int.lt_trichotomy n 0 with hn | hn | hn
  · obtain ⟨u, hu⟩ : ∃ u : Nat, n = -(u : Int) := ⟨n.natAbs, by omega⟩
    subst hu
    have HI : Hid (Lib.itoa (-(u : Int)) = 45 :: Lib.decDigits u) := by show _ = _; unfold Lib.itoa; rw [if_pos hn]; simp
    have hu1 : 1 ≤ u := by omega
    have hp : Pow u 20 := by unfold Pow; omega
    have HP := hidP hp
    rw [HI.out]
    have hne : (-(u : Int) == 0) = false := by rw [beq_eq_false_iff_ne]; omega
    clear hp
    go_enter Tryd.func23, Tryd.ntmps23
    go_wp2
    go_loopw [3, 4] (fun a b wr => ∃ (v k : Nat) (l : List UInt8), l.length + k = 20 ∧ Hid (Pow v k) ∧ a = .string (str l) ∧ b = .int .i64 (-(v : Int)) ∧ v ≤ u ∧ Hid (decAcc v l = Lib.decDigits u) ∧ Hid (Ext w wr)) (fun _ b _ => (-(intOf b)).toNat)
    case atStart => exact ⟨u, 20, [], rfl, HP, rfl, rfl, Nat.le_refl _, by show _ = _; unfold decAcc; rw [if_neg (by omega)]; simp, Ext.refl _⟩
    case round =>
      clear HP
      obtain ⟨v, k, l, hk, HP, rfl, rfl, hvu, HD, HX⟩ := hrel
      by_cases hv : v = 0
      · subst hv
        have HE : Hid (l = Lib.decDigits u) := HD.out
        have hg : ¬ (9223372036854775807 < 1 + (str l).size) := by rw [str_size]; omega
        go_wp2
        go_ret
        refine ⟨?_, HX.out⟩
        rw [← HE.out]
        exact congrArg (fun b => Ending.returned (.string b)) (str_append [45] l)
      · obtain ⟨k', rfl, hP2⟩ := HP.out.step (by omega)
        have HP2 := hidP hP2
        have HD2 : Hid (decAcc (v / 10) (UInt8.ofNat (48 + v % 10) :: l) = Lib.decDigits u) := by show _ = _; rw [decAcc_step v l (by omega), HD.out]
        have hd9 : v % 10 ≤ 9 := by omega
        have hvd : v / 10 ≤ v := Nat.div_le_self _ _
        have hc := conv_byte wr (48 + v % 10) (by omega)
        have hx := Ext.alloc wr (.cells #[.int .u8 ((48 + v % 10 : Nat) : Int)] 5)
        have HX2 := hidP (HX.out.trans hx)
        have hmd : (v : Int) % 10 = ((v % 10 : Nat) : Int) := by simp
        have hdv : (v : Int) / 10 = ((v / 10 : Nat) : Int) := by simp
        have hvne : (-(v : Int) != 0) = true := by rw [bne_iff_ne]; omega
        have hl19 : (str l).size ≤ 20 := by rw [str_size]; omega
        have hg : ¬ (9223372036854775807 < (str [UInt8.ofNat (48 + v % 10)]).size + (str l).size) := by rw [str_size [_]]; simp; omega
        have HS : Hid (str [UInt8.ofNat (48 + v % 10)] ++ str l = str (UInt8.ofNat (48 + v % 10) :: l)) := str_append _ _
        have hlt : v / 10 < v := Nat.div_lt_self (by omega) (by omega)
        clear hP2 HP hx hl19 hv
        generalize v / 10 = q at *
        generalize v % 10 = d at *
        rcases Nat.eq_zero_or_pos d with h0d | h0d
        · subst h0d
          have hcast : ((48 + 0 : Nat) : Int) = 48 := rfl
          rw [hcast] at hc HX2
          clear hcast
          go_wp2
          go_roundw
          case rel => exact ⟨q, k', UInt8.ofNat (48 + 0) :: l, by simp; omega, HP2, by rw [← HS.out]; rfl, by first | rfl | go_num, by omega, HD2, HX2⟩
          case measure => simp [intOf]; omega
        · have hcast : ((48 + d : Nat) : Int) = 48 + (d : Int) := by simp
          rw [hcast] at hc HX2
          clear hcast
          go_wp2
          go_roundw
          case rel => exact ⟨q, k', UInt8.ofNat (48 + d) :: l, by simp; omega, HP2, by rw [← HS.out]; first | rfl | simp, by first | rfl | go_num, by omega, HD2, HX2⟩
          case measure => simp [intOf]; omega
  · have HI : Hid (Lib.itoa 0 = [48]) := by show _ = _; unfold Lib.itoa; rw [if_neg (by omega)]; exact Lib.decDigits_one (by omega)
    subst hn
    rw [HI.out]
    go_enter Tryd.func23, Tryd.ntmps23
    go_wp2
    go_ret
    exact ⟨rfl, Ext.refl _⟩
  · obtain ⟨u, hu⟩ : ∃ u : Nat, n = (u : Int) := ⟨n.natAbs, by omega⟩
    subst hu
    have HI : Hid (Lib.itoa (u : Int) = Lib.decDigits u) := by show _ = _; unfold Lib.itoa; rw [if_neg (by omega)]; simp
    have hu1 : 1 ≤ u := by omega
    have hp : Pow u 20 := by unfold Pow; omega
    have HP := hidP hp
    rw [HI.out]
    have hne : ((u : Int) == 0) = false := by rw [beq_eq_false_iff_ne]; omega
    clear hp
    go_enter Tryd.func23, Tryd.ntmps23
    go_wp2
    go_loopw [3, 4] (fun a b wr => ∃ (v k : Nat) (l : List UInt8), l.length + k = 20 ∧ Hid (Pow v k) ∧ a = .string (str l) ∧ b = .int .i64 (v : Int) ∧ v ≤ u ∧ Hid (decAcc v l = Lib.decDigits u) ∧ Hid (Ext w wr)) (fun _ b _ => (intOf b).toNat)
    case atStart => exact ⟨u, 20, [], rfl, HP, rfl, rfl, Nat.le_refl _, by show _ = _; unfold decAcc; rw [if_neg (by omega)]; simp, Ext.refl _⟩
    case round =>
      clear HP
      obtain ⟨v, k, l, hk, HP, rfl, rfl, hvu, HD, HX⟩ := hrel
      by_cases hv : v = 0
      · subst hv
        have HE : Hid (l = Lib.decDigits u) := HD.out
        go_wp2
        go_ret
        exact ⟨by rw [← HE.out]; rfl, HX.out⟩
      · obtain ⟨k', rfl, hP2⟩ := HP.out.step (by omega)
        have HP2 := hidP hP2
        have HD2 : Hid (decAcc (v / 10) (UInt8.ofNat (48 + v % 10) :: l) = Lib.decDigits u) := by show _ = _; rw [decAcc_step v l (by omega), HD.out]
        have hd9 : v % 10 ≤ 9 := by omega
        have hvd : v / 10 ≤ v := Nat.div_le_self _ _
        have hc := conv_byte wr (48 + v % 10) (by omega)
        have hx := Ext.alloc wr (.cells #[.int .u8 ((48 + v % 10 : Nat) : Int)] 5)
        have HX2 := hidP (HX.out.trans hx)
        have hmd : (v : Int) % 10 = ((v % 10 : Nat) : Int) := by simp
        have hdv : (v : Int) / 10 = ((v / 10 : Nat) : Int) := by simp
        have hvne : ((v : Int) != 0) = true := by rw [bne_iff_ne]; omega
        have hl19 : (str l).size ≤ 20 := by rw [str_size]; omega
        have hg : ¬ (9223372036854775807 < (str [UInt8.ofNat (48 + v % 10)]).size + (str l).size) := by rw [str_size [_]]; simp; omega
        have HS : Hid (str [UInt8.ofNat (48 + v % 10)] ++ str l = str (UInt8.ofNat (48 + v % 10) :: l)) := str_append _ _
        have hlt : v / 10 < v := Nat.div_lt_self (by omega) (by omega)
        clear hP2 HP hx hl19 hv
        generalize v / 10 = q at *
        generalize v % 10 = d at *
        have hcast : ((48 + d : Nat) : Int) = 48 + (d : Int) := by simp
        rw [hcast] at hc HX2
        clear hcast
        go_wp2
        go_roundw
        case rel => exact ⟨q, k', UInt8.ofNat (48 + d) :: l, by simp; omega, HP2, by rw [← HS.out]; first | rfl | simp, by first | rfl | go_num, by omega, HD2, HX2⟩
        case measure => simp [intOf]; omega
theorem itoa_length (n : Int) (h0 : -9223372036854775808 ≤ n) (h1 : n ≤ 9223372036854775807) : (Lib.itoa n).length ≤ 21 := by
  have hd : ∀ u : Nat, u < 10 ^ 20 → (Lib.decDigits u).length ≤ 20 := by
    have : ∀ (k u : Nat), u < 10 ^ (k + 1) → (Lib.decDigits u).length ≤ k + 1 := by
      intro k
      induction k with
      | zero => intro u h; rw [Lib.decDigits_one (by simpa using h)]; simp
      | succ k ih =>
        intro u h
        by_cases h1 : u < 10
        · rw [Lib.decDigits_one h1]; simp
        · rw [Lib.decDigits, dif_neg h1, List.length_append]
          have := ih (u / 10) (by rw [Nat.pow_succ] at h; exact (Nat.div_lt_iff_lt_mul (by omega)).2 h)
          simp
          omega
    exact fun u h => this 19 u h
  unfold Lib.itoa
  split
  · rw [List.length_cons]
    have := hd n.natAbs (by omega)
    omega
  · have := hd n.toNat (by omega)
    omega
theorem join_length (l : List (List UInt8)) (sep : List UInt8) (B : Nat) (h : ∀ x ∈ l, x.length + sep.length ≤ B) : (Lib.join l sep).length ≤ l.length * B := by
  match l with
  | [] => simp [Lib.join_nil]
  | x :: r =>
    rw [Lib.join_cons, List.length_append, List.length_cons, Nat.add_mul, Nat.one_mul]
    have h1 : ∀ r : List (List UInt8), (∀ y ∈ r, y.length + sep.length ≤ B) → (Lib.joinTail sep r).length ≤ r.length * B := by
      intro r
      induction r with
      | nil => intro _; simp [Lib.joinTail]
      | cons y r ih =>
        intro hr
        have := ih fun z hz => hr z (by simp [hz])
        have := hr y (by simp)
        simp only [Lib.joinTail, List.map_cons, List.flatten_cons, List.length_append, List.length_cons, Nat.add_mul, Nat.one_mul] at *
        omega
    have := h1 r fun y hy => h y (by simp [hy])
    have := h x (by simp)
    omega

/-- the text of a list of numbers -/
def intsT (xs : List Int) : List UInt8 := Lib.join (xs.map Lib.itoa) [32]
def Small (xs : List Int) : Prop := ∀ i, i < xs.length → -9223372036854775808 ≤ xs.getD i 0 ∧ xs.getD i 0 ≤ 9223372036854775807
theorem intsT_length (xs : List Int) (h : Small xs) (k : Nat) : (intsT (xs.take k)).length ≤ k * 22 := by
  refine Nat.le_trans (join_length _ [32] 22 ?_) ?_
  · intro x hx
    simp only [List.mem_map] at hx
    obtain ⟨y, hy, rfl⟩ := hx
    have hy := List.mem_of_mem_take hy
    obtain ⟨i, hi, rfl⟩ := List.mem_iff_getElem.1 hy
    have := h i hi
    rw [getD_lt _ hi] at this
    have := itoa_length _ this.1 this.2
    simp
    omega
  · simp only [List.length_map, List.length_take]
    exact Nat.mul_le_mul_right _ (Nat.min_le_left _ _)
theorem intsT_succ (xs : List Int) (k : Nat) (hk : k < xs.length) : intsT (xs.take (k + 1)) = if k = 0 then Lib.itoa (xs.getD k 0) else intsT (xs.take k) ++ [32] ++ Lib.itoa (xs.getD k 0) := by
  unfold intsT
  rw [List.take_succ_eq_append_getElem hk, List.map_append, getD_lt _ hk]
  split
  · rename_i h; subst h; simp [Lib.join_one]
  · rename_i h
    exact join_snoc _ _ _ (by intro e; have := congrArg List.length e; simp at this; rcases this with h1 | h1; exact h h1; subst h1; simp at hk)
set_option maxRecDepth 100000 in
set_option maxHeartbeats 1000000 in
theorem sFormatInts_any (a : Option Addr) (n c : Nat) (xs : List Int) (w : World) (h : IntsAt w a n xs) (hs : Small xs) (hn : n ≤ 1048576) :
    Calls Tryd.prog 22 #[.slice a n c] w fun e w' => e = .returned (.string (str (intsT xs))) ∧ Ext w w' := by
  have G := hidP h
  have L := hidP h.len
  have HS := hidP hs
  clear h hs
  go_enter Tryd.func22, Tryd.ntmps22
  go_wp2
  go_loopw [3, 4] (fun a b wr => ∃ k : Nat, k ≤ n ∧ a = .string (str (intsT (xs.take k))) ∧ b = .int .i64 k ∧ Hid (Ext w wr)) (fun _ b _ => n - (intOf b).toNat)
  case atStart => exact ⟨0, Nat.zero_le _, rfl, rfl, Ext.refl _⟩
  case round =>
    obtain ⟨k, hk, rfl, rfl, HX⟩ := hrel
    by_cases hlt : k < n
    · obtain ⟨b, o, rfl, q⟩ := (G.out.below HX.out).get k hlt
      have hb := HS.out k (by rw [L.out]; exact hlt)
      have hlen := intsT_length xs HS.out k
      have HT := hidP (intsT_succ xs k (by rw [L.out]; exact hlt))
      have HF := hidP (fun w' => sFormatInt_any (xs.getD k 0) w' hb.1 hb.2)
      have hil := itoa_length (xs.getD k 0) hb.1 hb.2
      generalize xs.getD k 0 = x at *
      have hg1 : ¬ (9223372036854775807 < (str (intsT (xs.take k))).size + 1) := by rw [str_size]; omega
      have hg2 : ¬ (9223372036854775807 < (str (intsT (xs.take k))).size + 1 + (str (Lib.itoa x)).size) := by rw [str_size, str_size]; omega
      have hg3 : ¬ (9223372036854775807 < (str (intsT (xs.take k))).size + (str (Lib.itoa x)).size) := by rw [str_size, str_size]; omega
      have hg4 : ¬ (9223372036854775807 < (str (Lib.itoa x)).size) := by rw [str_size]; omega
      clear hlen hil hb
      by_cases hk0 : k = 0
      · subst hk0
        rw [Nat.add_zero] at q
        have hT := HT.out
        rw [if_pos rfl] at hT
        have HT2 := hidP hT
        clear hT HT
        have HZ : Hid (str (intsT (xs.take 0)) ++ str (Lib.itoa x) = str (Lib.itoa x)) := str_append _ _
        go_wp2_with fail
        refine (HF.out _).mono ?_
        rintro e w1 ⟨rfl, hx1⟩
        have HX1 := hidP (HX.out.trans hx1)
        clear hx1
        go_wp2
        go_roundw
        case rel => exact ⟨1, by omega, by first | (rw [HT2.out, HZ.out]) | (rw [HT2.out, ← HZ.out]; rfl) | (rw [HT2.out]), by go_num, HX1⟩
        case measure => simp [intOf]; omega
      · have hT := HT.out
        rw [if_neg hk0] at hT
        have HT2 := hidP hT
        clear hT HT
        have hkp : 0 < k := by omega
        have HZ : Hid (str (intsT (xs.take k)) ++ ⟨#[32]⟩ ++ str (Lib.itoa x) = str (intsT (xs.take k) ++ [32] ++ Lib.itoa x)) := by
          show _ = _
          rw [← str_append, ← str_append]
          rfl
        clear hk0
        generalize intsT (xs.take k) = acc at *
        go_wp2_with fail
        refine (HF.out _).mono ?_
        rintro e w1 ⟨rfl, hx1⟩
        have HX1 := hidP (HX.out.trans hx1)
        clear hx1
        go_wp2
        go_roundw
        case rel => exact ⟨k + 1, by omega, by rw [HT2.out, ← HZ.out], by go_num, HX1⟩
        case measure => simp [intOf]; omega
    · obtain rfl : k = n := by omega
      have HE : Hid (xs.take k = xs) := List.take_of_length_le (by rw [L.out]; exact Nat.le_refl _)
      rw [HE.out]
      go_wp2
      go_ret
      exact ⟨rfl, HX.out⟩
end Go.Proofs.YthbdcclglopkiaaDoor
