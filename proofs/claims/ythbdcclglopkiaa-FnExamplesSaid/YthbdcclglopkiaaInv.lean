/-
  Inverses of residues: the program's inverse, by Euclid's steps.
-/
import Derived.Test.YthbdcclglopkiaaInS
import Derived.Test.YthbdcclglopkiaaInt
namespace Go.Proofs.Ythbdcclglopkiaa
open Go.RowKit

/-- the inverse of n modulo p, 0 where there is none -/
def invP (n p : Int) : Int := (((List.range p.toNat).find? fun v : Nat => n * (v : Int) % p == 1).map fun v : Nat => (v : Int)).getD 0

theorem inv_unique {n p u v : Int} (hp : 0 < p) (hu : n * u % p = 1) (hv : n * v % p = 1) (hu0 : 0 ≤ u) (hu1 : u < p) (hv0 : 0 ≤ v) (hv1 : v < p) : u = v := by
  have h1 : (n * u - n * v) % p = 0 := by rw [Int.sub_emod, hu, hv]; simp
  have h2 : p ∣ n * (u - v) := by rw [Int.mul_sub]; exact Int.dvd_of_emod_eq_zero h1
  have h3 : p ∣ v * (n * (u - v)) := Int.dvd_trans h2 (Int.dvd_mul_left _ _)
  have h4 : v * (n * (u - v)) = (n * v) * (u - v) := by rw [← Int.mul_assoc, Int.mul_comm v n]
  rw [h4] at h3
  have h5 : (n * v) * (u - v) % p = (u - v) % p := by rw [Int.mul_emod, hv, Int.one_mul, Int.emod_emod]
  have h6 : (u - v) % p = 0 := by rw [← h5]; exact Int.emod_eq_zero_of_dvd h3
  obtain ⟨k, hk⟩ := Int.dvd_of_emod_eq_zero h6
  have hk0 : k = 0 := by
    rcases Int.lt_trichotomy k 0 with h | h | h
    · have : p * k ≤ p * (-1) := Int.mul_le_mul_of_nonneg_left (by omega) (by omega)
      omega
    · exact h
    · have : p * 1 ≤ p * k := Int.mul_le_mul_of_nonneg_left (by omega) (by omega)
      omega
  rw [hk0] at hk
  omega
theorem invP_spec {n p : Int} (h : ∃ v, 0 ≤ v ∧ v < p ∧ n * v % p = 1) : 0 ≤ invP n p ∧ invP n p < p ∧ n * invP n p % p = 1 := by
  obtain ⟨v, h0, h1, h2⟩ := h
  unfold invP
  cases hf : (List.range p.toNat).find? fun v : Nat => n * (v : Int) % p == 1 with
  | none =>
    rw [List.find?_eq_none] at hf
    have := hf v.toNat (by rw [List.mem_range]; omega)
    rw [Int.toNat_of_nonneg h0] at this
    simp [h2] at this
  | some u =>
    have h3 := List.find?_some hf
    have h4 := List.mem_of_find?_eq_some hf
    rw [List.mem_range] at h4
    simp only [beq_iff_eq] at h3
    exact ⟨by simp, by simp; omega, by simpa using h3⟩
theorem invP_eq {n p v : Int} (h0 : 0 ≤ v) (h1 : v < p) (h2 : n * v % p = 1) : invP n p = v := by
  obtain ⟨a, b, c⟩ := invP_spec ⟨v, h0, h1, h2⟩
  exact inv_unique (by omega) c h2 a b h0 h1

/-- a prime has no divisor but 1 and itself -/
theorem prime_dvd {p : Nat} (hp : primeB p = true) {d : Nat} (hd : d ∣ p) (h2 : 2 ≤ d) : d = p := by
  obtain ⟨hp2, hp7, hpr⟩ := primeB_true.1 hp
  obtain ⟨e, he⟩ := hd
  rcases Nat.lt_or_ge e 2 with h | h
  · rcases Nat.lt_or_ge e 1 with h' | h'
    · have : e = 0 := by omega
      subst this
      simp at he
      omega
    · have : e = 1 := by omega
      subst this
      omega
  · exfalso
    have key : ∀ a b : Nat, p = a * b → 2 ≤ a → 2 ≤ b → a ≤ b → False := by
      intro a b hab ha hb hle
      have h1 : a * a ≤ p := by rw [hab]; exact Nat.mul_le_mul_left _ hle
      have h101 : a < 101 := by
        rcases Nat.lt_or_ge a 101 with h4 | h4
        · exact h4
        · have := Nat.mul_le_mul h4 h4
          omega
      refine hpr a h101 ha ?_ ?_
      · have : ((a * a : Nat) : Int) ≤ (p : Int) := by omega
        simpa using this
      · rw [hab, Int.natCast_mul]
        exact Int.mul_emod_right _ _
    rcases Nat.le_total d e with h3 | h3
    · exact key d e he h2 h h3
    · exact key e d (by rw [he, Nat.mul_comm]) h h2 h3
theorem prime_gcd {p n : Nat} (hp : primeB p = true) (h1 : 1 ≤ n) (hn : n < p) : Nat.gcd n p = 1 := by
  have hd1 := Nat.gcd_dvd_left n p
  have hd2 := Nat.gcd_dvd_right n p
  have hpos : 0 < Nat.gcd n p := Nat.gcd_pos_of_pos_left _ (by omega)
  rcases Nat.lt_or_ge (Nat.gcd n p) 2 with h | h
  · omega
  · have := prime_dvd hp hd2 h
    have := Nat.le_of_dvd (by omega) hd1
    omega

/-- what holds ahead of each step of Euclid -/
structure Eucl (n p : Nat) (a b : Nat) (x y : Int) : Prop where
  gcd : Nat.gcd a b = 1
  a1 : 1 ≤ a
  ap : a ≤ p
  bp : b ≤ p
  ax : (x * n - a) % (p : Int) = 0
  bx : (y * n - b) % (p : Int) = 0
  xp : -(p : Int) ≤ x ∧ x ≤ p
  sg : (0 ≤ x ∧ y ≤ 0 ∧ a * (-y) + b * x = p) ∨ (x ≤ 0 ∧ 0 ≤ y ∧ a * y + b * (-x) = p)
theorem Eucl.start {n p : Nat} (hp : primeB p = true) (h1 : 1 ≤ n) (hn : n < p) : Eucl n p n p 1 0 :=
  ⟨prime_gcd hp h1 hn, h1, by omega, Nat.le_refl _, by simp, by simp, by omega, .inl ⟨by omega, by omega, by simp⟩⟩
theorem Eucl.yp {n p a b : Nat} {x y : Int} (h : Eucl n p a b x y) : -(p : Int) ≤ y ∧ y ≤ p := by
  have ha := h.a1
  rcases h.sg with ⟨hx, hy, e⟩ | ⟨hx, hy, e⟩
  · have h1 : (1 : Int) * (-y) ≤ a * (-y) := Int.mul_le_mul_of_nonneg_right (by omega) (by omega)
    have h2 : 0 ≤ (b : Int) * x := Int.mul_nonneg (by omega) hx
    omega
  · have h1 : (1 : Int) * y ≤ a * y := Int.mul_le_mul_of_nonneg_right (by omega) hy
    have h2 : 0 ≤ (b : Int) * (-x) := Int.mul_nonneg (by omega) (by omega)
    omega
theorem Eucl.bpos {n p a b : Nat} {x y : Int} (h : Eucl n p a b x y) (ha : 1 < a) : 0 < b := by
  rcases Nat.eq_zero_or_pos b with e | e
  · have := h.gcd
    rw [e, Nat.gcd_zero_right] at this
    omega
  · exact e
theorem Eucl.step {n p a b : Nat} {x y : Int} (h : Eucl n p a b x y) (ha : 1 < a) : Eucl n p b (a % b) y (x - (a / b : Nat) * y) := by
  have hb := h.bpos ha
  have hda := Nat.div_add_mod a b
  have hdaI : (b : Int) * ((a / b : Nat) : Int) + ((a % b : Nat) : Int) = a := by exact_mod_cast hda
  refine ⟨?_, hb, h.bp, Nat.le_trans (Nat.le_of_lt (Nat.mod_lt _ hb)) h.bp, h.bx, ?_, h.yp, ?_⟩
  · rw [Nat.gcd_comm, ← Nat.gcd_rec, Nat.gcd_comm]; exact h.gcd
  · have e : (x - ((a / b : Nat) : Int) * y) * n - ((a % b : Nat) : Int) = (x * n - a) - ((a / b : Nat) : Int) * (y * n - b) := by
      have : ((a % b : Nat) : Int) = a - (b : Int) * ((a / b : Nat) : Int) := by omega
      rw [this, Int.sub_mul, Int.mul_sub, Int.mul_assoc, Int.mul_comm ((a / b : Nat) : Int) (b : Int)]
      omega
    rw [e, Int.sub_emod, h.ax, Int.mul_emod, h.bx]
    simp
  · have hq : 0 ≤ ((a / b : Nat) : Int) := Int.natCast_nonneg _
    rcases h.sg with ⟨hx, hy, e⟩ | ⟨hx, hy, e⟩
    · right
      have h1 : ((a / b : Nat) : Int) * y ≤ 0 := Int.mul_nonpos_of_nonneg_of_nonpos hq hy
      refine ⟨hy, by omega, ?_⟩
      rw [← e, ← hdaI, Int.mul_sub, Int.add_mul, Int.mul_neg, Int.mul_neg, Int.mul_assoc]
      omega
    · left
      have h1 : 0 ≤ ((a / b : Nat) : Int) * y := Int.mul_nonneg hq hy
      refine ⟨hy, by omega, ?_⟩
      rw [← e, ← hdaI, Int.neg_sub, Int.mul_sub, Int.add_mul, Int.mul_neg, Int.mul_assoc]
      omega
theorem Eucl.done {n p b : Nat} {x y : Int} (h : Eucl n p 1 b x y) (hp : 2 ≤ p) : invP n p = x % (p : Int) := by
  refine invP_eq (Int.emod_nonneg _ (by omega)) (Int.emod_lt_of_pos _ (by omega)) ?_
  have h1 : x * n % (p : Int) = 1 := by
    have h2 := h.ax
    have e : x * n = (x * n - 1) + 1 := by omega
    rw [e, Int.add_emod]
    simp only [Int.natCast_one] at h2
    rw [h2, Int.zero_add, Int.emod_emod]
    exact Int.emod_eq_of_lt (by omega) (by omega)
  rw [Int.mul_emod, Int.emod_emod, ← Int.mul_emod, Int.mul_comm]
  exact h1

set_option maxHeartbeats 1000000 in
theorem inverse_any (n p : Nat) (w : World) (hp : primeB p = true) (h1 : 1 ≤ n) (hn : n < p) :
    Calls Try.prog 118 #[.int .i64 n, .int .i64 p] w fun e w' => e = .returned (.int .i64 (invP n p)) ∧ Ext w w' := by
  obtain ⟨p2, p7⟩ := prime_bounds hp
  have HS := hidP (Eucl.start hp h1 hn)
  clear hp
  go_enter Try.func118, Try.ntmps118
  go_wp2
  go_loopw [5, 6, 7, 8] (fun va vb vx vy wr => ∃ (a b : Nat) (x y : Int), Hid (Eucl n p a b x y) ∧ va = .int .i64 a ∧ vb = .int .i64 b ∧ vx = .int .i64 x ∧ vy = .int .i64 y ∧ Hid (Ext w wr)) (fun _ vb _ _ _ => (intOf vb).toNat)
  case atStart => exact ⟨n, p, 1, 0, HS, rfl, rfl, rfl, rfl, Ext.refl _⟩
  case round =>
    obtain ⟨a, b, x, y, HE, rfl, rfl, rfl, rfl, HX⟩ := hrel
    have a1 := HE.out.a1
    have ap := HE.out.ap
    have bp := HE.out.bp
    obtain ⟨x0, x1⟩ := HE.out.xp
    obtain ⟨y0, y1⟩ := HE.out.yp
    by_cases ha : 1 < a
    · have hb := HE.out.bpos ha
      have HE1 := hidP (HE.out.step ha)
      have hm : a % b < b := Nat.mod_lt _ hb
      have hbI : ¬ ((b : Int) = 0) := by omega
      have hqI : ((a / b : Nat) : Int) = (a : Int) / (b : Int) := by simp
      have hmI : ((a % b : Nat) : Int) = (a : Int) % (b : Int) := by simp
      have hq0 : 0 ≤ (a : Int) / (b : Int) := by rw [← hqI]; exact Int.natCast_nonneg _
      have hq1 : (a : Int) / (b : Int) ≤ a := by rw [← hqI]; exact Int.ofNat_le.2 (Nat.div_le_self a b)
      have hr0 : 0 ≤ (a : Int) % (b : Int) := by rw [← hmI]; exact Int.natCast_nonneg _
      have hr1 : (a : Int) % (b : Int) < b := by rw [← hmI]; exact Int.ofNat_lt.2 hm
      have hy1 : (a : Int) / (b : Int) * y ≤ 10007 * 10007 := by
        rcases Int.le_total 0 y with h | h
        · exact Int.mul_le_mul (by omega) (by omega) h (by omega)
        · have := Int.mul_nonpos_of_nonneg_of_nonpos hq0 h; omega
      have hy0 : - (10007 * 10007) ≤ (a : Int) / (b : Int) * y := by
        rcases Int.le_total 0 y with h | h
        · have := Int.mul_nonneg hq0 h; omega
        · have : (a : Int) / (b : Int) * (-y) ≤ 10007 * 10007 := Int.mul_le_mul (by omega) (by omega) (by omega) (by omega)
          rw [Int.mul_neg] at this
          omega
      rw [hqI] at HE1
      have et : Int.tmod (a : Int) (b : Int) = (a : Int) % (b : Int) := Int.tmod_eq_emod_of_nonneg (by omega)
      go_wp2
      go_quiet (fail)
      go_wp2
      go_roundw
      case rel => exact ⟨b, a % b, y, _, HE1, rfl, by first | rfl | (rw [hmI]), rfl, rfl, HX.out.trans (Ext.drewN _ _)⟩
      case measure => simp [intOf]; omega
    · obtain rfl : a = 1 := by omega
      have HI := hidP (HE.out.done (by omega))
      go_wp2_with (go_at_call 34; refine (mod_any _ _ _ (by omega) (by omega)).mono ?_; rintro e w' ⟨rfl, rfl⟩)
      go_ret
      exact ⟨ret_int HI.out.symm, HX.out⟩
end Go.Proofs.Ythbdcclglopkiaa
