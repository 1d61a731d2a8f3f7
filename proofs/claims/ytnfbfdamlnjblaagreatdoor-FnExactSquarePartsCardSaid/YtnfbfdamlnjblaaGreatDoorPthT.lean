/-
  What functions on paths give: a path in memory of its own, or none.
-/
import Derived.Test.YtnfbfdamlnjblaaGreatDoorPthC
import Derived.Test.YtnfbfdamlnjblaaGreatDoorPthP
namespace Go.Proofs.YtnfbfdamlnjblaaGreatDoor
open Go.RowKit

theorem OwnK.small {α : Type} {K : Knd α} {w : World} {B U : Nat} {a : Option Addr} {n c : Nat} {hs : List Hdr} {xs : List α} (h : OwnK K w B U a n c hs xs) : n ≤ 9223372036854775807 := by
  rcases h.form with ⟨_, h0, _⟩ | ⟨_, _, _, _, _, _, h1, h2⟩
  · omega
  · unfold maxLen at h2; omega
/-- what 'checked' gives -/
def chk (r : Nat) (p : List Stp) : Bool × List Stp := if pathB r (joinS p) then (true, joinS p) else (false, [])
/-- a call returns a path of memory of its own, or none -/
def PathRes (f : FuncId) (args : Array Value) (w : World) (res : Bool × List Stp) : Prop :=
  Calls Tryz.prog f args w fun e w' => ∃ a n c hs, e = .returned (.tuple #[.slice a n c, .bool res.1]) ∧ OwnK stepK w' w.heap.size w'.heap.size a n c hs res.2 ∧ Ext w w'
/-- nothing, or a path of a small rank -/
def ResOk (J : Bool × List Stp) : Prop := J.2 = [] ∨ ∃ R, R ≤ 4 ∧ pathB R J.2 = true
def joinR (r : Int) (ts : List Int) (p q : List Stp) : Bool × List Stp := if typeB r ts && pathB r.toNat p then (if pathB r.toNat q then chk r.toNat (p ++ q) else (false, [])) else (false, [])

theorem pathB_small {r : Nat} {p : List Stp} (h : pathB r p = true) : p.length ≤ 60 ∧ ∀ k, k < p.length → (wayAt p k).length = r ∧ 0 ≤ lenAt p k ∧ lenAt p k ≤ 1000000 := by
  have hp := pathB_iff.1 h
  refine ⟨by
    simp only [pathB, Bool.and_eq_true, decide_eq_true_eq] at h
    exact h.1.1, fun k hk => ⟨?_, ?_⟩⟩
  · simp only [pathB, Bool.and_eq_true, List.all_eq_true, List.mem_range] at h
    exact stepB_way (h.1.2 k hk)
  · simp only [pathB, Bool.and_eq_true, List.all_eq_true, List.mem_range] at h
    exact stepB_len (h.1.2 k hk)

theorem chk_ok {R : Nat} (hR : R ≤ 4) (p : List Stp) : ResOk (chk R p) := by
  unfold chk ResOk
  split
  · rename_i h
    exact .inr ⟨R, hR, h⟩
  · exact .inl rfl
theorem joinR_ok (r : Int) (ts : List Int) (p q : List Stp) : ResOk (joinR r ts p q) := by
  unfold joinR
  split
  · rename_i h
    split
    · simp only [Bool.and_eq_true] at h
      have := typeB_rank h.1
      exact chk_ok (by omega) _
    · exact .inl rfl
  · exact .inl rfl
end Go.Proofs.YtnfbfdamlnjblaaGreatDoor
