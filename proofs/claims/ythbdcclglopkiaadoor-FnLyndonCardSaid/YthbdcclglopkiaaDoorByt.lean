/-
  Slices of bytes, read; the laws' own at0 and big.
-/
import Derived.Test.YthbdcclglopkiaaDoorOpn
namespace Go.Proofs.YthbdcclglopkiaaDoor
open Go.ChangeShapes Go.WideShapes Go.ChangeAt Go.RowKit Go.Joins Go.Deep

/-- a slice of bytes, read -/
structure BytesAt (w : World) (a : Option Addr) (n : Nat) (bs : List Int) : Prop where
  len : bs.length = n
  get : ∀ i, i < n → ∃ b o, a = some ⟨b, o, none⟩ ∧ w.cell? ⟨b, o + i, none⟩ = some (.int .u8 (bs.getD i 0)) ∧ 0 ≤ bs.getD i 0 ∧ bs.getD i 0 ≤ 255
theorem bytes_in {H : Type} {enc : TypeId × Value → H} {P : Program} {w : World} {base : Nat} {spare : Nat → Bool} {held : Bool} {t e : TypeId} {fuel : Nat} {cs : List Value} {x : DataW H × List MemPlace} (ht : P.underlying t = some (.slice e)) (he : P.underlying e = some (.int .u8)) (hc : P.cellsOf e = 1)
    (h : DataW.trod enc P w base spare held fuel t cs = some x) : ∃ ao n c xs, cs = [.slice ao n c] ∧ BytesAt w ao n xs ∧ n ≤ 9223372036854775807 := by
  rcases open_ints ht he hc h with ⟨rfl, _⟩ | ⟨a, len, cap, zs, rfl, _, hl, hm, hz, _, hcell, hwf⟩
  · exact ⟨none, 0, 0, [], rfl, ⟨rfl, fun i h => by omega⟩, by omega⟩
  · have hlen : len ≤ zs.length := by rw [hz]; split <;> omega
    refine ⟨some a, len, cap, zs.take len, rfl, ⟨by simp [hlen], fun i hi => ?_⟩, by unfold maxLen at hm; omega⟩
    have h0 := plain_of_cell (hcell 0 (by omega))
    have hi' := hcell i (by omega)
    rw [h0, add_plain] at hi'
    have e1 : (zs.take len).getD i 0 = zs.getD i 0 := by simp [List.getD_eq_getElem?_getD, hi]
    refine ⟨_, _, congrArg some h0, by rw [hi', e1], ?_⟩
    have hmem : (zs.take len).getD i 0 ∈ zs := by
      simp only [List.getD_eq_getElem?_getD, List.getElem?_take, hi, if_true]
      rw [List.getElem?_eq_getElem (by omega)]
      exact List.getElem_mem _
    have := hwf _ hmem
    simpa [Lit.wf, IntKind.min, IntKind.max, IntKind.signed, IntKind.bits] using this
def AtSays (w : World) (e : Ending) (w' : World) : Prop := ∃ v : Nat, v ≤ 255 ∧ e = .returned (.int .i64 v) ∧ w = w'
theorem at0_any (a : Option Addr) (n c i : Nat) (bs : List Int) (w : World) (h : BytesAt w a n bs) (hn : n ≤ 1048576) (hi : i ≤ 100) :
    Calls Tryd.prog 16 #[.slice a n c, .int .i64 i] w (AtSays w) := by
  by_cases hlt : i < n
  · obtain ⟨b, o, rfl, q, h0, h1⟩ := h.get i hlt
    generalize bs.getD i 0 = x at *
    obtain ⟨v, rfl⟩ := Int.eq_ofNat_of_zero_le h0
    have hv : v ≤ 255 := by omega
    clear h
    go_enter Tryd.func16, Tryd.ntmps16
    go_wp2
    go_ret
    exact ⟨v, hv, by first | rfl | (congr 2; unfold wrap64; omega), rfl⟩
  · clear h
    have hm0 : 0 ≤ ((i : Int) * 7 + n) % 256 := Int.emod_nonneg _ (by omega)
    have hm1 : ((i : Int) * 7 + n) % 256 < 256 := Int.emod_lt_of_pos _ (by omega)
    obtain ⟨v, hv⟩ := Int.eq_ofNat_of_zero_le hm0
    have HV := hidP hv
    clear hv
    go_enter Tryd.func16, Tryd.ntmps16
    go_wp2
    go_ret
    exact ⟨v, by have := HV.out; omega, by first | exact rfl | (rw [HV.out]; exact rfl), rfl⟩
theorem big_any (a : Option Addr) (n c : Nat) (w : World) : Calls Tryd.prog 10 #[.slice a n c] w fun e w' => e = .returned (.bool (decide (1048576 < n))) ∧ w = w' := by
  have hb : decide ((1048576 : Int) < (n : Int)) = decide (1048576 < n) := by
    rw [decide_eq_decide]
    omega
  have HB := hidP hb
  clear hb
  go_enter Tryd.func10, Tryd.ntmps10
  go_wp2
  go_ret
  exact ⟨ret_bool (by first | exact HB.out | rfl), rfl⟩
theorem BytesAt.below {w w' : World} {a : Option Addr} {n : Nat} {bs : List Int} (h : BytesAt w a n bs) (hx : Ext w w') : BytesAt w' a n bs :=
  ⟨h.len, fun i hi => by obtain ⟨b, o, e, q, r⟩ := h.get i hi; exact ⟨b, o, e, (hx.cell (p := ⟨b, o + i, none⟩) (World.block_lt_of_cell? w _ q)).trans q, r⟩⟩
theorem BytesAt.grown {w w' : World} {a : Option Addr} {n : Nat} {bs : List Int} (h : BytesAt w a n bs) {g : Nat} (hg : w.grownBy w' (some g)) (hne : ∀ b o, a = some ⟨b, o, none⟩ → 0 < n → b < g) : BytesAt w' a n bs :=
  ⟨h.len, fun i hi => by
    obtain ⟨b, o, e, q, r⟩ := h.get i hi
    refine ⟨b, o, e, ?_, r⟩
    rw [World.cell?_of_block (w := w) (hg.block b (World.block_lt_of_cell? w _ q) (by have := hne b o e (by omega); simp only [ne_eq, Option.some.injEq]; omega))]
    exact q⟩
end Go.Proofs.YthbdcclglopkiaaDoor
