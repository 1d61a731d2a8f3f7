/-
  The program's reduce: rows brought into reduced form in place.
-/
import Derived.Test.YthbdcclglopkiaaRed0
import Derived.Test.YthbdcclglopkiaaOwn
import Derived.Test.YthbdcclglopkiaaLie
namespace Go.Proofs.Ythbdcclglopkiaa
open Go.RowKit

theorem Rows.bd {p : Int} {L : Nat} {rows : List (List Int)} (h : Rows p L rows) (hp : p ≤ 10007) {i : Nat} (hi : i < rows.length) : ∀ j, j < L → 0 ≤ (rows.getD i []).getD j 0 ∧ (rows.getD i []).getD j 0 ≤ 1000000 := fun j hj => by
  have := h.get hi hj
  omega
def swapH (hs : List Hdr) (i j : Nat) : List Hdr := (hs.set i (hs.getD j (none, 0))).set j (hs.getD i (none, 0))
theorem OwnK.swapRows {w : World} {B U n c g : Nat} {hs : List Hdr} {xs : List (List Int)} (h : OwnK rowK w B U (some ⟨g, 0, none⟩) n c hs xs) (i j : Nat) (hi : i < n) (hj : j < n) :
    OwnK rowK ((w.setCell ⟨g, i, none⟩ (.slice (hs.getD j (none, 0)).1 (xs.getD j []).length (hs.getD j (none, 0)).2)).setCell ⟨g, j, none⟩ (.slice (hs.getD i (none, 0)).1 (xs.getD i []).length (hs.getD i (none, 0)).2)) B U (some ⟨g, 0, none⟩) n c (swapH hs i j) (swapR xs i j) := by
  have hxl := h.xl
  have hhl := h.hl
  obtain ⟨h1, g1⟩ := h.row.stored i (.slice (hs.getD j (none, 0)).1 (xs.getD j []).length (hs.getD j (none, 0)).2)
  have e1 := rowK.all_set hs xs (hhl.trans hxl.symm) i 0 (by omega) (by decide) (.slice (hs.getD j (none, 0)).1 (xs.getD j []).length (hs.getD j (none, 0)).2) (hs.getD j (none, 0)) (xs.getD j []) rfl
  rw [show i * rowK.size + 0 = i from by show i * 1 + 0 = i; omega] at e1
  rw [e1] at h1
  obtain ⟨h2, g2⟩ := h1.stored j (.slice (hs.getD i (none, 0)).1 (xs.getD i []).length (hs.getD i (none, 0)).2)
  have e2 := rowK.all_set (hs.set i (hs.getD j (none, 0))) (xs.set i (xs.getD j [])) (by simp [hhl, hxl]) j 0 (by simp; omega) (by decide) (.slice (hs.getD i (none, 0)).1 (xs.getD i []).length (hs.getD i (none, 0)).2) (hs.getD i (none, 0)) (xs.getD i []) rfl
  rw [show j * rowK.size + 0 = j from by show j * 1 + 0 = j; omega] at e2
  rw [e2] at h2
  have hg : w.grownBy ((w.setCell ⟨g, i, none⟩ (.slice (hs.getD j (none, 0)).1 (xs.getD j []).length (hs.getD j (none, 0)).2)).setCell ⟨g, j, none⟩ (.slice (hs.getD i (none, 0)).1 (xs.getD i []).length (hs.getD i (none, 0)).2)) (some g) :=
    ⟨g2.os.trans g1.os, g2.tape.trans g1.tape, g2.output.trans g1.output, Nat.le_trans g1.size g2.size, fun k hk hne => (g2.block k (Nat.lt_of_lt_of_le hk g1.size) hne).trans (g1.block k hk hne)⟩
  refine h.shuffled (hs' := swapH hs i j) (xs' := swapR xs i j) rfl h2 hg (by simp [swapH, hhl]) (by simp [swapR, hxl]) (fun q => if j = q then i else if i = q then j else q) (fun q hq => ?_) (fun q r hq hr e => ?_) (fun q hq => ?_) (fun q hq => ?_)
  · show (if j = q then i else if i = q then j else q) < n
    split
    · exact hi
    · split
      · exact hj
      · exact hq
  · replace e : (if j = q then i else if i = q then j else q) = (if j = r then i else if i = r then j else r) := e
    split at e <;> split at e <;> (try split at e) <;> (try split at e) <;> omega
  · show ((hs.set i (hs.getD j (none, 0))).set j (hs.getD i (none, 0))).getD q (none, 0) = hs.getD (if j = q then i else if i = q then j else q) (none, 0)
    rw [getD_setL _ _ _ _ _ (by simp; omega), getD_setL _ _ _ _ _ (by omega)]
    by_cases a1 : j = q
    · simp [a1]
    · by_cases a2 : i = q
      · simp [a1, a2]
      · simp [a1, a2]
  · show rowK.ints ((swapR xs i j).getD q []) = rowK.ints (xs.getD (if j = q then i else if i = q then j else q) [])
    rw [swapR_get xs i j q (by omega) (by omega)]
    by_cases a1 : j = q
    · simp [a1]
    · by_cases a2 : i = q
      · simp [a1, a2]
      · simp [a1, a2]

/-- what reduce holds on its way: the rows, the pivots, and that nothing below B is changed -/
structure Red (w0 w : World) (B N : Nat) (a : Option Addr) (n c : Nat) (hs : List Hdr) (R : List (List Int)) (ap : Option Addr) (np cp : Nat) (P : List Int) : Prop where
  own : OwnK rowK w B N a n c hs R
  piv : OwnI w N ap np cp P
  bel : Below B w0 w
  hN : N ≤ w.heap.size
  hB : B ≤ N
namespace Red
variable {w0 w w' : World} {B N : Nat} {a : Option Addr} {n c : Nat} {hs : List Hdr} {R : List (List Int)} {ap : Option Addr} {np cp : Nat} {P : List Int}
theorem ext (h : Red w0 w B N a n c hs R ap np cp P) (hx : Ext w w') : Red w0 w' B N a n c hs R ap np cp P :=
  ⟨h.own.below hx, h.piv.below hx, Below.ext h.bel hx (Nat.le_trans h.hB h.hN), Nat.le_trans h.hN hx.size, h.hB⟩
theorem upd (h : Red w0 w B N a n c hs R ap np cp P) (i : Nat) (hi : i < n) {ys : List Int} (hu : UpdI w w' (hs.getD i (none, 0)).1 (R.getD i []).length ys) : Red w0 w' B N a n c hs (R.set i ys) ap np cp P := by
  refine ⟨h.own.upd i hi hu, h.piv.others hu fun b o b' o' e e' => ?_, hu.below h.bel (Nat.le_trans h.hB h.hN) fun b o e _ => ((h.own.each i hi).at_base b o e).1, Nat.le_trans h.hN hu.size, h.hB⟩
  have := h.own.lt i hi b o e
  have := (h.piv.at_base b' o' e').1
  omega
theorem swapRows {g : Nat} (h : Red w0 w B N (some ⟨g, 0, none⟩) n c hs R ap np cp P) (i j : Nat) (hi : i < n) (hj : j < n) :
    Red w0 ((w.setCell ⟨g, i, none⟩ (.slice (hs.getD j (none, 0)).1 (R.getD j []).length (hs.getD j (none, 0)).2)).setCell ⟨g, j, none⟩ (.slice (hs.getD i (none, 0)).1 (R.getD i []).length (hs.getD i (none, 0)).2)) B N (some ⟨g, 0, none⟩) n c (swapH hs i j) (swapR R i j) ap np cp P := by
  have hg := h.own.olt g 0 rfl
  have hg2 := (h.own.base_lt g 0 rfl).1
  exact ⟨h.own.swapRows i j hi hj, (h.piv.setBelow _ _ hg _).setBelow _ _ hg _, Below.setCell (p := ⟨g, j, none⟩) (Below.setCell (p := ⟨g, i, none⟩) h.bel hg2 _) hg2 _, by simpa [World.setCell] using h.hN, h.hB⟩
/-- the pivots grow -/
theorem grown (h : Red w0 w B N a n c hs R ap np cp P) {ap' : Option Addr} {np' cp' : Nat} {P' : List Int} (hg : w.grownBy w' (Value.slice ap np cp).ownBlock) (hp : OwnI w' N ap' np' cp' P') : Red w0 w' B N a n c hs R ap' np' cp' P' := by
  have hb : ∀ b o, ap = some ⟨b, o, none⟩ → N ≤ b := fun b o e => (h.piv.at_base b o e).1
  have key : ∀ b, b < N → some b ≠ (Value.slice ap np cp).ownBlock := fun b hb' => by
    cases ap with
    | none => simp [Value.ownBlock]
    | some q =>
      have := h.piv.addr_base q rfl
      simp only [Value.ownBlock, ne_eq, Option.some.injEq]
      omega
  refine ⟨h.own.kept hg (fun b o e => key b (h.own.olt b o e)) (fun i hi b o e => key b (h.own.lt i hi b o e)), hp, ?_, Nat.le_trans h.hN hg.size, h.hB⟩
  refine Below.grown h.bel hg (Nat.le_trans h.hB h.hN) fun q hq => ?_
  cases ap with
  | none => simp [Value.ownBlock] at hq
  | some q' =>
    simp [Value.ownBlock] at hq
    subst hq
    exact Nat.le_trans h.hB (h.piv.addr_base q' rfl)
/-- the cells of a row -/
theorem row (h : Red w0 w B N a n c hs R ap np cp P) {p : Int} {L : Nat} (hR : Rows p L R) (hL : 0 < L) (i : Nat) (hi : i < n) :
    ∃ g b cr, a = some ⟨g, 0, none⟩ ∧ hs.getD i (none, 0) = (some ⟨b, 0, none⟩, cr) ∧ g ≠ b ∧ g < w.heap.size ∧ b < w.heap.size ∧ B ≤ b ∧ L ≤ cr ∧
    ∀ w', Ext w w' → w'.cell? ⟨g, i, none⟩ = some (.slice (some ⟨b, 0, none⟩) L cr) ∧ w'.frozen? ⟨g, i, none⟩ = false ∧ (∀ j, j < L → w'.cell? ⟨b, j, none⟩ = some (.int .i64 ((R.getD i []).getD j 0)) ∧ w'.frozen? ⟨b, j, none⟩ = false) ∧ IntsAt w' (some ⟨b, 0, none⟩) L (R.getD i []) := by
  have hiR : i < R.length := by rw [h.own.xl]; exact hi
  have hl := hR.len i hiR
  have he := h.own.each i hi
  obtain ⟨b, eb, hBb, hbl, _⟩ := he.cell 0 (by show 0 < (R.getD i []).length; omega)
  obtain ⟨g, ea, _⟩ := h.own.cell i 0 hi (by decide)
  refine ⟨g, b, (hs.getD i (none, 0)).2, ea, Prod.ext eb rfl, ?_, ?_, hbl, hBb, ?_, fun w' hx => ?_⟩
  · exact h.own.far i hi g 0 b 0 ea eb
  · exact (h.own.base_lt g 0 ea).2
  · rcases he.row.2 with ⟨_, h0⟩ | ⟨g', cap, cur, hv, _, _, hnc, _⟩
    · have : (R.getD i []).length = 0 := h0
      omega
    · simp only [Value.slice.injEq] at hv
      have : (R.getD i []).length ≤ cap := hnc
      omega
  · have ho := h.own.below hx
    obtain ⟨g', e', hc, hf⟩ := ho.cell i 0 hi (by decide)
    rw [ea] at e'
    simp only [Option.some.injEq, Addr.mk.injEq, and_true] at e'
    subst e'
    rw [show i * rowK.size + 0 = i from by show i * 1 + 0 = i; omega] at hc hf
    have he' := ho.each i hi
    refine ⟨?_, hf, fun j hj => ?_, ?_⟩
    · rw [hc]
      show some (Value.slice (hs.getD i (none, 0)).1 (R.getD i []).length (hs.getD i (none, 0)).2) = _
      rw [eb, hl]
    · obtain ⟨b', e2, _, _, c2, f2⟩ := he'.cell j (by show j < (R.getD i []).length; omega)
      rw [eb] at e2
      simp only [Option.some.injEq, Addr.mk.injEq, and_true] at e2
      subst e2
      exact ⟨c2, f2⟩
    · have := he'.ints
      rw [eb] at this
      rw [← hl]
      exact this
end Red
theorem inverse_int (n p : Int) (w : World) (hp : primeB p = true) (h1 : 1 ≤ n) (hn : n < p) :
    Calls Try.prog 118 #[.int .i64 n, .int .i64 p] w fun e w' => e = .returned (.int .i64 (invP n p)) ∧ Ext w w' := by
  obtain ⟨n, rfl⟩ := Int.eq_ofNat_of_zero_le (show 0 ≤ n by omega)
  obtain ⟨p, rfl⟩ := Int.eq_ofNat_of_zero_le (show 0 ≤ p by omega)
  exact inverse_any n p w hp (by omega) (by omega)
theorem invP_lt {n p : Int} (hp : primeB p = true) : 0 ≤ invP n p ∧ invP n p < p := by
  obtain ⟨p2, _⟩ := prime_bounds hp
  unfold invP
  cases hf : (List.range p.toNat).find? fun v : Nat => n * (v : Int) % p == 1 with
  | none => simp; omega
  | some u =>
    have h4 := List.mem_of_find?_eq_some hf
    rw [List.mem_range] at h4
    simp
    omega
end Go.Proofs.Ythbdcclglopkiaa
