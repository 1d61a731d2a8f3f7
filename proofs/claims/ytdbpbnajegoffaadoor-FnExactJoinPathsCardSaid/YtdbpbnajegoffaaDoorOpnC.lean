/-
  Arguments opened: Cartan matrices, sessions.
-/
import Derived.Test.YtdbpbnajegoffaaDoorOpn
import Derived.Test.YtdbpbnajegoffaaDoorCv
namespace Go.Proofs.YtdbpbnajegoffaaDoor
open Go.ChangeShapes Go.WideShapes Go.ChangeAt Go.RowKit Go.Joins Go.Deep

section
variable {H : Type} {enc : TypeId × Value → H} {P : Program} {w : World} {base : Nat} {spare : Nat → Bool} {held : Bool}
/-- a Cartan matrix by value -/
theorem car_in {r : Reach} {b0 : Nat} {t ti : TypeId} {f0 f1 : Field} {v : Value} {d : DataW H} {p : List MemPlace} (hs : P.underlying t = some (.struct #[f0, f1])) (hone : oneCellFields P #[f0, f1] = true) (hC : P.cellsOf t = 2)
    (e0 : P.underlying f0.type = some (.int .i64)) (e1 : P.underlying f1.type = some (.slice ti)) (he : P.underlying ti = some (.int .i64)) (hc : P.cellsOf ti = 1)
    (hv : Value.okWide P w r b0 t v) (h : DataW.Trod enc P w base spare held t v d p) :
    ∃ p ao n c xs, v = carV p ao n c ∧ IntsAt w ao n xs ∧ n ≤ c ∧ n ≤ 9223372036854775807 := by
  obtain ⟨v0, v1, y0, y1, n, rfl, _, _, h0, h1⟩ := open_agg2 hs hone hC hv h
  obtain ⟨m0, q0, _⟩ := DataW.trod_int e0 h0
  obtain ⟨ao, n, c, xs, q1, hi, hn, hn2, _⟩ := ints_in e1 he hc h1
  simp only [List.cons.injEq, and_true] at q0 q1
  subst q0 q1
  exact ⟨m0, ao, n, c, xs, rfl, hi, hn, hn2⟩
end
end Go.Proofs.YtdbpbnajegoffaaDoor
