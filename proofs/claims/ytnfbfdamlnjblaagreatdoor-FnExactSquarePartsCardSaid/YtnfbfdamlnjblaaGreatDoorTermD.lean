/-
  Slices of structs of a word and a number each, read.
-/
import Derived.Test.YtnfbfdamlnjblaaGreatDoorMem
namespace Go.Proofs.YtnfbfdamlnjblaaGreatDoor
open Go.RowKit

/-- a slice of structs of a word and a number reads as us -/
structure TermsAt (w : World) (a : Option Addr) (n : Nat) (us : List (List Int × Int)) : Prop where
  len : us.length = n
  get : ∀ i, i < n → ∃ b o aw cw, a = some ⟨b, o, none⟩ ∧ w.cell? ⟨b, o + i * 2, none⟩ = some (.slice aw (us.getD i ([], 0)).1.length cw) ∧ w.cell? ⟨b, o + i * 2 + 1, none⟩ = some (.int .i64 (us.getD i ([], 0)).2) ∧
    IntsAt w aw (us.getD i ([], 0)).1.length (us.getD i ([], 0)).1 ∧ (us.getD i ([], 0)).1.length ≤ 9223372036854775807
theorem TermsAt.below {w w' : World} {a : Option Addr} {n : Nat} {us : List (List Int × Int)} (h : TermsAt w a n us) (hb : Ext w w') : TermsAt w' a n us := by
  refine ⟨h.len, fun i hi => ?_⟩
  obtain ⟨b, o, aw, cw, rfl, h1, h2, h3, h4⟩ := h.get i hi
  have hl := World.block_lt_of_cell? w _ h1
  exact ⟨b, o, aw, cw, rfl, (hb.cell (p := ⟨b, o + i * 2, none⟩) hl).trans h1, (hb.cell (p := ⟨b, o + i * 2 + 1, none⟩) hl).trans h2, h3.below hb, h4⟩

theorem TermsAt.atc {w : World} {b o n : Nat} {us : List (List Int × Int)} (h : TermsAt w (some ⟨b, o, none⟩) n us) (i : Nat) (hi : i < n) :
    ∃ aw cw, w.cell? ⟨b, o + i * 2, none⟩ = some (.slice aw (us.getD i ([], 0)).1.length cw) ∧ w.cell? ⟨b, o + i * 2 + 1, none⟩ = some (.int .i64 (us.getD i ([], 0)).2) ∧
    IntsAt w aw (us.getD i ([], 0)).1.length (us.getD i ([], 0)).1 ∧ (us.getD i ([], 0)).1.length ≤ 9223372036854775807 := by
  obtain ⟨b', o', aw, cw, e, h1, h2, h3, h4⟩ := h.get i hi
  simp only [Option.some.injEq, Addr.mk.injEq, and_true] at e
  obtain ⟨rfl, rfl⟩ := e
  exact ⟨aw, cw, h1, h2, h3, h4⟩
/-- what stands at a place stays in later worlds -/
theorem TermsAt.keeps {w : World} {b o n : Nat} {us : List (List Int × Int)} (h : TermsAt w (some ⟨b, o, none⟩) n us) (i : Nat) (hi : i < n) :
    ∃ aw cw, (us.getD i ([], 0)).1.length ≤ 9223372036854775807 ∧ ∀ w', Ext w w' → w'.cell? ⟨b, o + i * 2, none⟩ = some (.slice aw (us.getD i ([], 0)).1.length cw) ∧ w'.cell? ⟨b, o + i * 2 + 1, none⟩ = some (.int .i64 (us.getD i ([], 0)).2) ∧
    IntsAt w' aw (us.getD i ([], 0)).1.length (us.getD i ([], 0)).1 := by
  obtain ⟨aw, cw, h1, h2, h3, h4⟩ := h.atc i hi
  have hl := World.block_lt_of_cell? w _ h1
  exact ⟨aw, cw, h4, fun w' hx => ⟨(hx.cell (p := ⟨b, o + i * 2, none⟩) hl).trans h1, (hx.cell (p := ⟨b, o + i * 2 + 1, none⟩) hl).trans h2, h3.below hx⟩⟩
end Go.Proofs.YtnfbfdamlnjblaaGreatDoor
