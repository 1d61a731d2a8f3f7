/-
  How much a path holds.
-/
import Derived.Test.YtdbpbnajegoffaaDoorLStp3
import Derived.Test.YtdbpbnajegoffaaDoorPthT
namespace Go.Proofs.YtdbpbnajegoffaaDoor
open Go.RowKit

theorem mkAt_bound (us : List Stp) (c : Nat) : ∀ n, (∀ k, k < n → (us.getD k ([], 0)).1.length ≤ c) → mkAt us n ≤ n * (c + 1)
  | 0, _ => Nat.zero_le _
  | n + 1, h => by
    have h1 := mkAt_bound us c n fun k hk => h k (by omega)
    have h2 := h n (by omega)
    show mkAt us n + ((us.getD n ([], 0)).1.length + 1) ≤ (n + 1) * (c + 1)
    rw [Nat.add_mul]
    omega
theorem res_small {J1 : Bool} {J2 : List Stp} (h : ResOk (J1, J2)) {n : Nat} (hn : J2.length = n) : mkAt J2 n ≤ 10000000 := by
  rcases h with h | ⟨R, hR, h⟩
  · have h' : J2 = [] := h
    subst h'
    simp at hn
    subst hn
    exact Nat.zero_le _
  · obtain ⟨h1, h2⟩ := pathB_small h
    have h1' : J2.length ≤ 60 := h1
    have := mkAt_bound J2 4 n fun k hk => by
      have := (h2 k (by show k < J2.length; omega)).1
      have h3 : (J2.getD k ([], 0)).1.length = R := this
      omega
    omega
end Go.Proofs.YtdbpbnajegoffaaDoor
