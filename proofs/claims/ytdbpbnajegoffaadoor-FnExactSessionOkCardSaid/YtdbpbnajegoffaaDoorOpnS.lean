/-
  Arguments opened: sessions.
-/
import Derived.Test.YtdbpbnajegoffaaDoorOpn
import Derived.Test.YtdbpbnajegoffaaDoorSes
namespace Go.Proofs.YtdbpbnajegoffaaDoor
open Go.ChangeShapes Go.WideShapes Go.ChangeAt Go.RowKit Go.Joins Go.Deep

theorem array5 {α : Type} {cs : Array α} (h : cs.size = 5) : ∃ c0 c1 c2 c3 c4, cs = #[c0, c1, c2, c3, c4] := by
  obtain ⟨l⟩ := cs
  match l, h with
  | [c0, c1, c2, c3, c4], _ => exact ⟨c0, c1, c2, c3, c4, rfl⟩
section
variable {H : Type} {enc : TypeId × Value → H} {P : Program} {w : World} {base : Nat} {spare : Nat → Bool} {held : Bool}
/-- a session by value -/
theorem ses_in {r : Reach} {b0 : Nat} {t ti : TypeId} {f0 f1 g0 g1 g2 k0 k1 : Field} {v : Value} {d : DataW H} {p : List MemPlace} (hs : P.underlying t = some (.struct #[f0, f1])) (o0 : f0.offset = 0) (z0 : P.cellsOf f0.type = 3) (o1 : f1.offset = 3) (z1 : P.cellsOf f1.type = 2) (hC : P.cellsOf t = 5)
    (ha : P.underlying f0.type = some (.struct #[g0, g1, g2])) (honeA : oneCellFields P #[g0, g1, g2] = true) (a0 : P.underlying g0.type = some (.int .i64)) (a1 : P.underlying g1.type = some (.int .i64)) (a2 : P.underlying g2.type = some (.slice ti))
    (hk : P.underlying f1.type = some (.struct #[k0, k1])) (honeC : oneCellFields P #[k0, k1] = true) (e0 : P.underlying k0.type = some (.int .i64)) (e1 : P.underlying k1.type = some (.slice ti)) (he : P.underlying ti = some (.int .i64)) (hc : P.cellsOf ti = 1)
    (hv : Value.okWide P w r b0 t v) (h : DataW.Trod enc P w base spare held t v d p) :
    ∃ p d a n c xs q a' n' c' ys, v = sesV p d a n c q a' n' c' ∧ IntsAt w a n xs ∧ IntsAt w a' n' ys ∧ n ≤ 9223372036854775807 ∧ n' ≤ 9223372036854775807 := by
  obtain ⟨cs, rfl, hsz⟩ := okWide_struct hs hv
  obtain ⟨c0, c1, c2, c3, c4, rfl⟩ := array5 (hsz.trans hC)
  obtain ⟨fuel, hf⟩ := h
  obtain ⟨y0, y1, n, hx, _, h0, h1⟩ := trod_struct2 hs hf
  have h0' : DataW.trod enc P w base spare held n f0.type [c0, c1, c2] = some y0 := by simpa [Value.cells, o0, z0] using h0
  have h1' : DataW.trod enc P w base spare held n f1.type [c3, c4] = some y1 := by simpa [Value.cells, o1, z1] using h1
  obtain ⟨u0, u1, u2, m, _, _, i0, i1, i2⟩ := trod_struct3 ha h0'
  obtain ⟨v0, v1, m', _, _, j0, j1⟩ := trod_struct2 hk h1'
  obtain ⟨p0, q0⟩ := hone_of honeA 0 g0 rfl
  obtain ⟨p1, q1⟩ := hone_of honeA 1 g1 rfl
  obtain ⟨p2, q2⟩ := hone_of honeA 2 g2 rfl
  obtain ⟨s0, t0⟩ := hone_of honeC 0 k0 rfl
  obtain ⟨s1, t1⟩ := hone_of honeC 1 k1 rfl
  obtain ⟨x0, r0, _⟩ := DataW.trod_int a0 (by simpa [p0, q0] using i0)
  obtain ⟨x1, r1, _⟩ := DataW.trod_int a1 (by simpa [p1, q1] using i1)
  obtain ⟨x2, r2, _⟩ := DataW.trod_int e0 (by simpa [s0, t0] using j0)
  obtain ⟨ao, n1, cc, xs, r3, hi, _, hn, _⟩ := ints_in (cs := [c2]) (x := u2) a2 he hc (by simpa [p2, q2] using i2)
  obtain ⟨ao', n2, cc', ys, r4, hi', _, hn', _⟩ := ints_in (cs := [c4]) (x := v1) e1 he hc (by simpa [s1, t1] using j1)
  simp only [List.cons.injEq, and_true] at r0 r1 r2 r3 r4
  subst r0 r1 r2 r3 r4
  exact ⟨x0, x1, ao, n1, cc, xs, x2, ao', n2, cc', ys, rfl, hi, hi', hn, hn'⟩
end
end Go.Proofs.YtdbpbnajegoffaaDoor
