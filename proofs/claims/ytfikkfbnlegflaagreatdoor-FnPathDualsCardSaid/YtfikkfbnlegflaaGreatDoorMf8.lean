/-
  The reference's positive roots.
  The reference's places and order of lattice elements.
  Owned slices of rows of integers whose rows are owned each, but may be shared.
  A part of an owned slice of structs, appended to another owned slice; two chains of operations of a region that draws its order.
  The reference's numbers of a lattice element: weights, heights, orders.
  A region that draws its order: an operation behind which the class is narrower by what the operation gave.
  Roots, lengths and dimensions, plain.
  The reference's small functions on lists: l1Residues, l1IsZero, l2Get, l2Row, l2Basis, l2Plus.
  What a valid algebra is, as the program asks it.
  The type lie: newLie, pair, right.
  The program's algebras by tables: residues, isZero, addTo, the type lie with pair and right.
  The finite sets of paths of the small modules: what holds of lowering and raising there. No program in sight.
  HighestPath: a path raised until it cannot be, the program's and the reference's.
  HighestPath, the reference's.
  The end of a path: a multiple added, both sides.
  The end of a path, in the units of time: both sides.
  EndOf: the program's and the reference's. Printed by gen/pthY.py.
  ReflectPath: the program's and the reference's. Printed by gen/pthV2.py.
-/
import Derived.Test.YtfikkfbnlegflaaGreatDoorMf7
namespace Go.Proofs.YtfikkfbnlegflaaGreatDoor
open Go.RowKit

end Go.Proofs.YtfikkfbnlegflaaGreatDoor

namespace Go.Proofs.YtfikkfbnlegflaaGreatDoor
open Go.RowKit

end Go.Proofs.YtfikkfbnlegflaaGreatDoor

namespace Go.Proofs.YtfikkfbnlegflaaGreatDoor
open Go.RowKit

def plusV (xs : List Int) (l : Int) (ys : List Int) : List Int := (List.range xs.length).map fun j => xs.getD j 0 + l * ys.getD j 0
theorem plusV_length (xs : List Int) (l : Int) (ys : List Int) : (plusV xs l ys).length = xs.length := by simp [plusV]
theorem plusV_get (xs : List Int) (l : Int) (ys : List Int) (k : Nat) (hk : k < xs.length) : (plusV xs l ys).getD k 0 = xs.getD k 0 + l * ys.getD k 0 := by
  simp [plusV, List.getD_eq_getElem?_getD, hk]
/-- no sum leaves the range -/
def PlusIn (xs : List Int) (l : Int) (ys : List Int) : Prop := ∀ j, j < xs.length → (-1000000000000 ≤ l * ys.getD j 0 ∧ l * ys.getD j 0 ≤ 1000000000000) ∧ (-1000000000000 ≤ xs.getD j 0 ∧ xs.getD j 0 ≤ 1000000000000)
structure PlStep (xs : List Int) (l : Int) (ys : List Int) (k : Nat) (A Z : Int) : Prop where
  mul : IntKind.i64.wrap (l * Z) = l * Z
  add : IntKind.i64.wrap (A + l * Z) = A + l * Z
  res : (plusV xs l ys).getD k 0 = A + l * Z
theorem pl_step {xs : List Int} {l : Int} {ys : List Int} (h : PlusIn xs l ys) {k : Nat} (hk : k < xs.length) : PlStep xs l ys k (xs.getD k 0) (ys.getD k 0) := by
  obtain ⟨⟨h1, h2⟩, h3, h4⟩ := h k hk
  exact ⟨wrap_in (by omega) (by omega), wrap_in (by omega) (by omega), plusV_get _ _ _ _ hk⟩

set_option maxHeartbeats 2000000 in
theorem listPlus_any (a : Option Addr) (n c : Nat) (xs : List Int) (l : Int) (b : Option Addr) (m d : Nat) (ys : List Int) (w : World) (h : IntsAt w a n xs) (hnil : a = none → c = 0) (hn : n ≤ 1000000) (h2 : IntsAt w b m ys) (hnm : n = m) (hb : PlusIn xs l ys) :
    Calls Tryz.prog 112 #[.slice a n c, .int .i64 l, .slice b m d] w fun e w' => ∃ a' c', e = .returned (.slice a' n c') ∧ OwnI w' w.heap.size a' n c' (plusV xs l ys) ∧ Ext w w' := by
  subst hnm
  have HCl := hidP (clone_any a n c xs w h hnil (by omega))
  have HI := hidP h2
  have HB := hidP hb
  have HW := hidP h.len
  have HL : Hid ((plusV xs l ys).length = n) := (plusV_length _ _ _).trans h.len
  clear h hnil h2 hb
  go_enter Tryz.func112, Tryz.ntmps112
  go_wp2_with fail
  refine HCl.out.mono ?_
  rintro e w2 ⟨a1, c1, rfl, ho, hx⟩
  have HX2 := hidP hx
  have HO2 := hidP ho
  clear ho hx HCl
  go_wp2
  go_loopw [14] (fun ii wr => ∃ k : Nat, k ≤ n ∧ ii = .int .i64 k ∧ Hid (OwnI wr w.heap.size a1 n c1 (partly xs (plusV xs l ys) k)) ∧ Hid (Ext w wr)) (fun ii _ => n - (intOf ii).toNat)
  case atStart => exact ⟨0, Nat.zero_le _, rfl, by rw [partly_zero]; exact HO2, HX2⟩
  case round =>
    obtain ⟨k, hk, rfl, HO, HX⟩ := hrel
    by_cases hlt : k < n
    · have hst := pl_step HB.out (k := k) (by rw [HW.out]; exact hlt)
      obtain ⟨A, hA⟩ : ∃ A, A = xs.getD k 0 := ⟨_, rfl⟩
      obtain ⟨Z, hZ⟩ : ∃ Z, Z = ys.getD k 0 := ⟨_, rfl⟩
      rw [← hA, ← hZ] at hst
      obtain ⟨b', o', rfl, hwk⟩ := HI.out.one k hlt
      rw [← hZ] at hwk
      have q2 := hwk wr HX.out
      obtain ⟨g, rfl, hg1, _, q1, q3⟩ := HO.out.cell k hlt
      rw [partly_at _ _ _ (by rw [HL.out]; omega), ← hA] at q1
      have hmul := hst.mul
      have hadd := hst.add
      have HSt : Hid (OwnI (wr.setCell ⟨g, k, none⟩ (.int .i64 (A + l * Z))) w.heap.size (some ⟨g, 0, none⟩) n c1 (partly xs (plusV xs l ys) (k + 1))) := by
        have h1 := HO.out.stored k (A + l * Z)
        rw [← hst.res] at h1
        rw [partly_succ xs (plusV xs l ys) n k hlt HW.out HL.out] at h1
        rw [← hst.res]
        exact h1
      have HX3 : Hid (Ext w (wr.setCell ⟨g, k, none⟩ (.int .i64 (A + l * Z)))) := Ext.setNew HX.out _ _ hg1 _
      have hk0 : (0 : Int) ≤ (k : Int) := by omega
      have hkn : (k : Int) < (n : Int) := by omega
      clear hst hA hZ hwk hg1
      go_wp2
      go_roundw
      case rel => exact ⟨k + 1, by omega, by go_num, HSt, HX3⟩
      case measure => simp [intOf]; omega
    · obtain rfl : n = k := by omega
      have HD : Hid (partly xs (plusV xs l ys) n = plusV xs l ys) := partly_all _ _ _ HW.out HL.out
      rw [HD.out] at HO
      go_wp2
      go_ret
      exact ⟨_, _, rfl, HO.out, HX.out⟩
end Go.Proofs.YtfikkfbnlegflaaGreatDoor

namespace Go.Proofs.YtfikkfbnlegflaaGreatDoor
open Go.RowKit

def endV (r : Nat) (p : List Stp) (k : Nat) : List Int := (List.range r).map fun j => htAt j p k
theorem endV_length (r : Nat) (p : List Stp) (k : Nat) : (endV r p k).length = r := by simp [endV]
theorem endV_get (r : Nat) (p : List Stp) (k j : Nat) (hj : j < r) : (endV r p k).getD j 0 = htAt j p k := by simp [endV, List.getD_eq_getElem?_getD, hj]
theorem endV_zero (r : Nat) (p : List Stp) : endV r p 0 = List.replicate r 0 := by
  apply List.ext_getElem
  · simp [endV]
  · intro j h1 h2
    simp [endV, htAt]
theorem endV_succ (r : Nat) (p : List Stp) (k : Nat) : plusV (endV r p k) (lenAt p k) (wayAt p k) = endV r p (k + 1) := by
  unfold plusV
  rw [endV_length]
  conv => rhs; unfold endV
  apply List.map_congr_left
  intro j hj
  rw [endV_get r p k j (List.mem_range.1 hj)]
  rfl
theorem plusIn_end {r : Nat} {p : List Stp} (h : PathP r p) {k : Nat} (hk : k < p.length) : PlusIn (endV r p k) (lenAt p k) (wayAt p k) := by
  intro j hj
  rw [endV_length] at hj
  rw [endV_get r p k j hj]
  obtain ⟨hd1, hd2⟩ := h.dur k hk
  obtain ⟨hw1, hw2⟩ := (h.way k hk).2 j hj
  have h1 : lenAt p k * (wayAt p k).getD j 0 ≤ lenAt p k * 1000 := Int.mul_le_mul_of_nonneg_left hw2 (by omega)
  have h2 : lenAt p k * (-1000) ≤ lenAt p k * (wayAt p k).getD j 0 := Int.mul_le_mul_of_nonneg_left hw1 (by omega)
  have h3 := ht_small h hj k (by omega)
  exact ⟨⟨by omega, by omega⟩, by omega, by omega⟩
/-- what a path's end is, where it is one -/
def endR (r : Nat) (p : List Stp) : Bool × List Int := if (endV r p p.length).all (fun x => x.tmod 27720 == 0) then (true, (endV r p p.length).map fun x => x.tdiv 27720) else (false, [])

/-- the rounds of the division -/
theorem quo_at {E : List Int} {k : Nat} (hk : k < E.length) : (E.map fun x => x.tdiv 27720).getD k 0 = (E.getD k 0).tdiv 27720 := by
  simp [List.getD_eq_getElem?_getD, hk]
def allTo (E : List Int) (k : Nat) : Bool := (E.take k).all fun x => x.tmod 27720 == 0
theorem allTo_succ {E : List Int} {k : Nat} (hk : k < E.length) (h : allTo E k = true) : allTo E (k + 1) = ((E.getD k 0).tmod 27720 == 0) := by
  unfold allTo at h ⊢
  rw [List.take_succ_eq_append_getElem hk, List.all_append, h]
  simp [List.getD_eq_getElem?_getD, hk]
theorem allTo_all {E : List Int} {k : Nat} (hk : k = E.length) : allTo E k = E.all fun x => x.tmod 27720 == 0 := by
  unfold allTo
  rw [hk, List.take_length]
theorem all_false {E : List Int} {k : Nat} (h : allTo E k = false) : (E.all fun x => x.tmod 27720 == 0) = false := by
  unfold allTo at h
  rw [List.all_eq_false] at h ⊢
  obtain ⟨x, hx, e⟩ := h
  exact ⟨x, List.mem_of_mem_take hx, e⟩
end Go.Proofs.YtfikkfbnlegflaaGreatDoor

namespace Go.Proofs.YtfikkfbnlegflaaGreatDoor
open Go.RowKit

/-- a call returns a slice of integers in memory of its own, or none -/
def EndRes (f : FuncId) (args : Array Value) (w : World) (res : Bool × List Int) : Prop :=
  Calls Tryz.prog f args w fun e w' => ∃ a n c, e = .returned (.tuple #[.slice a n c, .bool res.1]) ∧ OwnI w' w.heap.size a n c res.2 ∧ Ext w w'
def endT (r : Int) (ts : List Int) (p : List Stp) : Bool × List Int := if typeB r ts && pathB r.toNat p then endR r.toNat p else (false, [])
theorem tdiv_small {x : Int} (h : -83160000 ≤ x ∧ x ≤ 83160000) : -3000 ≤ x.tdiv 27720 ∧ x.tdiv 27720 ≤ 3000 := by
  have h1 := Int.mul_tdiv_add_tmod x 27720
  have h2 := Int.tmod_lt_of_pos x (show (0 : Int) < 27720 by omega)
  have h3 : -27720 < x.tmod 27720 := by
    have := Int.lt_tmod_of_pos x (show (0 : Int) < 27720 by omega)
    omega
  omega
structure QuoStep (E : List Int) (k : Nat) (X : Int) : Prop where
  quo : IntKind.i64.wrap (X.tdiv 27720) = X.tdiv 27720
  res : (E.map fun x => x.tdiv 27720).getD k 0 = X.tdiv 27720
theorem end_at {R : Nat} {p : List Stp} (h : PathP R p) {k : Nat} (hk : k < R) : -83160000 ≤ (endV R p p.length).getD k 0 ∧ (endV R p p.length).getD k 0 ≤ 83160000 := by
  rw [endV_get R p p.length k hk]
  exact ht_small h hk _ (Nat.le_refl _)
theorem quo_step {R : Nat} {p : List Stp} (h : PathP R p) {k : Nat} (hk : k < R) : QuoStep (endV R p p.length) k ((endV R p p.length).getD k 0) := by
  have h1 := tdiv_small (end_at h hk)
  exact ⟨wrap_in (by omega) (by omega), quo_at (by rw [endV_length]; exact hk)⟩

set_option maxHeartbeats 4000000 in
theorem endOf_any (R : Nat) (ta : Option Addr) (tn tc : Nat) (a : Option Addr) (n c : Nat) (xs : List Stp) (w : World) (hR : 1 ≤ R ∧ R ≤ 4) (h : TermsAt w a n xs) (hp : PathP R xs) :
    EndRes 73 #[carV R ta tn tc, .slice a n c] w (endR R xs) := by
  unfold EndRes
  obtain ⟨⟨J1, J2⟩, hJ⟩ : ∃ J, J = endR R xs := ⟨_, rfl⟩
  rw [← hJ]
  have HJ := hidP hJ
  clear hJ
  dsimp only
  obtain ⟨E, hE⟩ : ∃ E, E = endV R xs xs.length := ⟨_, rfl⟩
  obtain ⟨Q, hQ⟩ : ∃ Q, Q = E.map fun x => x.tdiv 27720 := ⟨_, rfl⟩
  have HEl : Hid (E.length = R) := by
    show _ = _
    rw [hE]
    exact endV_length _ _ _
  have HQe : Hid ((E.map fun x => x.tdiv 27720) = Q) := hQ.symm
  have HQl : Hid (Q.length = R) := by
    show _ = _
    rw [hQ, List.length_map]
    exact HEl.out
  have HEr : Hid (endR R xs = if E.all (fun x => x.tmod 27720 == 0) then (true, Q) else (false, [])) := by
    show _ = _
    unfold endR
    rw [← hE, ← hQ]
  have HQs : Hid (∀ k, k < R → QuoStep E k (E.getD k 0)) := by
    show ∀ k, _
    intro k hk
    rw [hE]
    exact quo_step hp hk
  have HEn : Hid (endV R xs n = E) := by
    show _ = _
    rw [hE, h.len]
  have hx1 := Ext.alloc w (.cells #[.int .i64 R, .slice ta tn tc] 31)
  have HC := hidP (fun w' (hx : Ext (w.alloc (.cells #[.int .i64 R, .slice ta tn tc] 31)) w') => (CarAt.new w _ rfl (R : Int) ta tn tc 31).below hx)
  have HX1 := hidP hx1
  have HW1 := hidP hx1.size
  have G := hidP h
  have HP := hidP hp
  have hl := hidP h.len
  have hn60 : n ≤ 60 := by have := hp.len; have := h.len; omega
  obtain ⟨hR1, hR4⟩ := hR
  have hmk := make_ints (R : Int) (by omega) (by omega)
  simp only [Int.toNat_natCast] at hmk
  have HX0 := hidP (fun (w' : World) => Ext.alloc w' (.cells (Array.replicate R (.int .i64 0)) 3))
  have HO0 := hidP (fun (w' : World) => OwnI.made w' w'.heap.size R (Nat.le_refl _) (by unfold maxLen; omega))
  clear h hp hx1 hE hQ
  obtain ⟨w1, hw1⟩ : ∃ w1, w1 = w.alloc (.cells #[.int .i64 R, .slice ta tn tc] 31) := ⟨_, rfl⟩
  rw [← hw1] at HC HX1 HW1
  have HSE : Hid (w1.heap.size = w.heap.size + 1) := by
    show _ = _
    rw [hw1]
    simp
  obtain ⟨f0, f1⟩ := HC.out w1 (Ext.refl w1)
  go_enter Tryz.func73, Tryz.ntmps73
  go_wp2_with fail
  rw [← hw1]
  clear hw1
  try go_wp2
  clear hmk
  have HO1 : Hid (OwnI (w1.alloc (.cells (Array.replicate R (.int .i64 0)) 3)) w1.heap.size (some ⟨w.heap.size + 1, 0, none⟩) R R (endV R xs 0)) := by
    show OwnI _ _ _ _ _ _
    rw [← HSE.out, endV_zero R xs]
    exact HO0.out w1
  have HX2 := hidP (HX0.out w1)
  clear HO0 HX0
  go_loopw [6, 16] (fun out ii wr => ∃ (k : Nat) (a' : Option Addr) (c' : Nat), k ≤ n ∧ out = .slice a' R c' ∧ ii = .int .i64 k ∧ Hid (OwnI wr w1.heap.size a' R c' (endV R xs k)) ∧ Hid (Ext w1 wr)) (fun _ ii _ => n - (intOf ii).toNat)
  case atStart => exact ⟨0, _, _, Nat.zero_le _, rfl, rfl, HO1, HX2⟩
  case round =>
    obtain ⟨k, a', c', hk, rfl, rfl, HO, HX⟩ := hrel
    by_cases hlt : k < n
    · obtain ⟨b, o, aw, cw, W, L, rfl, HW, HL, hwl, hq⟩ := (G.out.below (HX1.out.trans HX.out)).way k hlt
      have HQ := hidP hq
      have hwr := (HP.out.way k (by have := hl.out; omega)).1
      rw [HW.out] at hwr
      have HIn := hidP (plusIn_end HP.out (k := k) (by have := hl.out; omega))
      have HNx := hidP (endV_succ R xs k)
      rw [HW.out, HL.out] at HIn HNx
      have HPl := hidP (fun w' (hx : Ext wr w') => listPlus_any a' R c' (endV R xs k) L aw W.length cw W w' (HO.out.ints.below hx) HO.out.nil_cap (by omega) (hq w' hx).2.2 hwr.symm HIn.out)
      rw [HNx.out] at HPl
      obtain ⟨q1, q2, _⟩ := hq wr (Ext.refl wr)
      have hk0 : (0 : Int) ≤ (k : Int) := by omega
      have hkn : (k : Int) < (n : Int) := by omega
      clear hwr hq
      have HA2 := hidP (Ext.alloc wr (.cells #[.slice aw W.length cw, .int .i64 L] 69))
      have HS := hidP (fun w' (hx : Ext (wr.alloc (.cells #[.slice aw W.length cw, .int .i64 L] 69)) w') => (StpAt.new wr _ rfl aw W.length cw L 69).below hx)
      obtain ⟨w2, hw2⟩ : ∃ w2, w2 = wr.alloc (.cells #[.slice aw W.length cw, .int .i64 L] 69) := ⟨_, rfl⟩
      rw [← hw2] at HA2 HS
      obtain ⟨s1, s2⟩ := HS.out w2 (Ext.refl w2)
      have HPw := hidP (HPl.out w2 HA2.out)
      go_wp2_with fail
      rw [← hw2]
      clear hw2 q1 q2
      go_wp2_with fail
      refine HPw.out.mono ?_
      rintro e w3 ⟨a3, c3, rfl, ho3, hx3⟩
      have HO3 := hidP (ho3.base (B' := w1.heap.size) (HX.out.trans HA2.out).size)
      have HX3 := hidP (HX.out.trans (HA2.out.trans hx3))
      clear ho3 hx3
      go_wp2
      go_roundw
      case rel => exact ⟨k + 1, a3, c3, by omega, rfl, by go_num, HO3, HX3⟩
      case measure => simp [intOf]; omega
    · obtain rfl : n = k := by omega
      rw [HEn.out] at HO
      have HO1 := HO
      have HX1b := HX
      go_wp2
      go_loopw [29] (fun ii wr => ∃ k : Nat, k ≤ R ∧ ii = .int .i64 k ∧ Hid (allTo E k = true) ∧ Hid (OwnI wr w1.heap.size a' R c' (partly E Q k)) ∧ Hid (Ext w1 wr)) (fun ii _ => R - (intOf ii).toNat)
      case atStart => exact ⟨0, Nat.zero_le _, by rfl, by rfl, by rw [partly_zero]; exact HO1, HX1b⟩
      case round =>
        obtain ⟨k, hk, rfl, HA, HO, HX⟩ := hrel
        by_cases hlt : k < R
        · have hst := HQs.out k hlt
          have has := allTo_succ (E := E) (k := k) (by rw [HEl.out]; exact hlt) HA.out
          obtain ⟨X, hX⟩ : ∃ X, X = E.getD k 0 := ⟨_, rfl⟩
          rw [← hX] at hst has
          obtain ⟨g, rfl, hg1, _, q1, q3⟩ := HO.out.cell k hlt
          rw [partly_at _ _ _ (by rw [HQl.out]; omega), ← hX] at q1
          have hk0 : (0 : Int) ≤ (k : Int) := by omega
          have hkn : (k : Int) < (R : Int) := by omega
          have hquo := hst.quo
          by_cases hm : X.tmod 27720 = 0
          · have hb : (X.tmod 27720 != 0) = false := by simp [hm]
            have HA2 : Hid (allTo E (k + 1) = true) := by
              show _ = _
              rw [has, hm]
              rfl
            have HSt : Hid (OwnI (wr.setCell ⟨g, k, none⟩ (.int .i64 (X.tdiv 27720))) w1.heap.size (some ⟨g, 0, none⟩) R c' (partly E Q (k + 1))) := by
              have h1 := HO.out.stored k (X.tdiv 27720)
              rw [← hst.res] at h1
              rw [HQe.out] at h1
              rw [partly_succ E Q R k hlt HEl.out HQl.out] at h1
              rw [← hst.res, HQe.out]
              exact h1
            have HX3 : Hid (Ext w1 (wr.setCell ⟨g, k, none⟩ (.int .i64 (X.tdiv 27720)))) := Ext.setNew HX.out _ _ hg1 _
            clear hst hX hm hg1 has
            go_wp2
            go_roundw
            case rel => exact ⟨k + 1, by omega, by go_num, HA2, HSt, HX3⟩
            case measure => simp [intOf]; omega
          · have hb : (X.tmod 27720 != 0) = true := by simp [hm]
            have HE : Hid ((J1, J2) = (false, [])) := by
              show _ = _
              have hf : allTo E (k + 1) = false := by
                rw [has]
                simp [hm]
              rw [HJ.out, HEr.out]
              exact if_neg (by rw [all_false hf]; simp)
            obtain ⟨rfl, rfl⟩ := Prod.mk.inj HE.out
            clear hst hX hm hg1 has HE
            go_wp2
            refine bodyPost_ret (v := .tuple #[.slice none 0 0, .bool false]) (by simp [results, Tryz.results73, go_sem]) rfl ⟨none, 0, 0, rfl, OwnI.nil _ _, HX1.out.trans HX.out⟩
        · obtain rfl : R = k := by omega
          have HE : Hid ((J1, J2) = (true, Q)) := by
            show _ = _
            rw [HJ.out, HEr.out]
            exact if_pos (by rw [← allTo_all HEl.out.symm]; exact HA.out)
          obtain ⟨rfl, rfl⟩ := Prod.mk.inj HE.out
          have HD : Hid (partly E J2 R = J2) := partly_all _ _ _ HEl.out HQl.out
          rw [HD.out] at HO
          clear HE
          go_wp2
          refine bodyPost_ret (v := .tuple #[.slice a' R c', .bool true]) (by simp [results, Tryz.results73, go_sem]) rfl ⟨a', R, c', rfl, HO.out.base HW1.out, HX1.out.trans HX.out⟩
set_option maxHeartbeats 4000000 in
theorem endOfAll_any (r : Int) (ta : Option Addr) (tn tc : Nat) (ts : List Int) (a : Option Addr) (n c : Nat) (xs : List Stp) (w : World) (hc : IntsAt w ta tn ts) (hcn : tn ≤ 9223372036854775807)
    (h : TermsAt w a n xs) (hn : n ≤ 9223372036854775807) (hm : MaxL w) :
    EndRes 30 #[carV r ta tn tc, .slice a n c] w (endT r ts xs) := by
  unfold EndRes
  have hx1 := Ext.alloc w (.cells #[.int .i64 r, .slice ta tn tc] 31)
  have HC := hidP (fun w' (hx : Ext (w.alloc (.cells #[.int .i64 r, .slice ta tn tc] 31)) w') => (CarAt.new w _ rfl r ta tn tc 31).below hx)
  have HX1 := hidP hx1
  have H := hidP h
  have HIs := hidP (fun w' (hx : Ext w w') => isCartan_any r ta tn tc ts w' (hc.below hx) hcn (hm.below hx))
  have HP := hidP (pathOk_of r ta tn tc ts a n c xs _ (h.below hx1) hn (fun w' hx => HIs.out w' (hx1.trans hx)))
  have HW1 := hidP hx1.size
  clear hc hx1 hm
  obtain ⟨w1, hw1⟩ : ∃ w1, w1 = w.alloc (.cells #[.int .i64 r, .slice ta tn tc] 31) := ⟨_, rfl⟩
  rw [← hw1] at HC HX1 HP HW1
  obtain ⟨f0, f1⟩ := HC.out w1 (Ext.refl w1)
  cases hT : (typeB r ts && pathB r.toNat xs)
  · have HR : Hid (endT r ts xs = (false, [])) := by
      show _ = _
      unfold endT
      rw [hT]
      rfl
    rw [hT] at HP
    clear hT h
    go_enter Tryz.func30, Tryz.ntmps30
    go_wp2_with fail
    rw [← hw1]
    clear hw1
    refine HP.out.mono ?_
    rintro e w2 ⟨rfl, hx⟩
    have HX := hidP hx
    clear hx
    go_wp2
    refine bodyPost_ret (v := .tuple #[.slice none 0 0, .bool false]) (by simp [results, Tryz.results30, go_sem]) rfl ⟨none, 0, 0, by rw [HR.out], ?_, HX1.out.trans HX.out⟩
    rw [HR.out]
    exact OwnI.nil _ _
  · have hT2 : typeB r ts = true := by
      simp only [Bool.and_eq_true] at hT
      exact hT.1
    have hP1 : pathB r.toNat xs = true := by
      simp only [Bool.and_eq_true] at hT
      exact hT.2
    obtain ⟨hr1, hr4, _⟩ := typeB_rank hT2
    obtain ⟨R, rfl⟩ : ∃ R : Nat, r = R := ⟨r.toNat, by omega⟩
    rw [Int.toNat_natCast] at hP1
    have hR1 : 1 ≤ R := by omega
    have hR4 : R ≤ 4 := by omega
    have hp := pathB_iff.1 hP1
    have HR : Hid (endT R ts xs = endR R xs) := by
      show _ = _
      unfold endT
      rw [hT]
      rfl
    rw [HR.out]
    obtain ⟨⟨J1, J2⟩, hJ⟩ : ∃ J, J = endR R xs := ⟨_, rfl⟩
    rw [← hJ]
    have HJ := hidP hJ
    dsimp only
    have HEd := hidP (fun w' (hx : Ext w1 w') => endOf_any R ta tn tc a n c xs w' ⟨hR1, hR4⟩ (H.out.below (HX1.out.trans hx)) hp)
    unfold EndRes at HEd
    rw [← hJ] at HEd
    rw [hT] at HP
    clear hT hT2 hP1 hJ h hp HR
    dsimp only at HEd
    go_enter Tryz.func30, Tryz.ntmps30
    go_wp2_with fail
    rw [← hw1]
    clear hw1
    refine HP.out.mono ?_
    rintro e w2 ⟨rfl, hx⟩
    have HX := hidP hx
    obtain ⟨g0, g1⟩ := HC.out w2 hx
    clear hx f0 f1
    go_wp2_with fail
    refine (HEd.out _ HX.out).mono ?_
    rintro e w3 ⟨a1, n1, c1, rfl, ho3, hx3⟩
    have HO1 := hidP (ho3.base (B' := w.heap.size) (HX1.out.trans HX.out).size)
    have HX1b := hidP (HX.out.trans hx3)
    clear ho3 hx3 g0 g1
    go_wp2
    refine bodyPost_ret (v := .tuple #[.slice a1 n1 c1, .bool J1]) (by simp [results, Tryz.results30, go_sem]) rfl ⟨a1, n1, c1, rfl, HO1.out, HX1.out.trans HX1b.out⟩
end Go.Proofs.YtfikkfbnlegflaaGreatDoor

namespace Go.Proofs.YtfikkfbnlegflaaGreatDoor
open Go.RowKit

def lowF (r : Nat) (ts : List Int) (i : Nat) (p : List Stp) : Option (List Stp) := lowS r (refl r ts i) i p
def raiF2 (r : Nat) (ts : List Int) (i : Nat) (p : List Stp) : Option (List Stp) := raiS r (refl r ts i) i p
end Go.Proofs.YtfikkfbnlegflaaGreatDoor

namespace Go.Proofs.YtfikkfbnlegflaaGreatDoor
open Go.RowKit

def straight (w : List Int) : List Stp := [(w, 27720)]
def addV (x y : List Int) : List Int := (List.range x.length).map fun j => x.getD j 0 + y.getD j 0
def colW (r : Nat) (ts : List Int) (i : Nat) : List Int := (List.range r).map fun k => ts.getD (k * r + i) 0
/-- a path with what it is lowered to, row for row -/
abbrev PRow := List Stp × List (Option (List Stp))
def isRow (p : List Stp) (a : PRow) : Bool := a.1 == p
def toRow (i : Nat) (p : List Stp) (a : PRow) : Bool := a.2.getD i none == some p
/-- what is known of a path behind the rows A, ahead of the rows B -/
def lowChk (r : Nat) (ts : List Int) (B : List PRow) (p : List Stp) (i : Nat) : Option (List Stp) → Bool
  | none => decide (htAt i p p.length = minHt i p p.length)
  | some q => B.any (isRow q) && (addV (endR r q).2 (colW r ts i) == (endR r p).2) && decide (minHt i p p.length = minHt i q q.length + 27720) && decide (htAt i q q.length = htAt i p p.length - 55440)
def raiChk (p : List Stp) (i : Nat) (x : Option (List Stp)) : List PRow → Bool
  | [] => x.isNone && decide (minHt i p p.length = 0)
  | a :: l => (x == some a.1) && l.isEmpty
def rowOk (r : Nat) (ts w : List Int) (A B : List PRow) (a : PRow) : Bool :=
  pathB r a.1 && (endR r a.1).1 && a.1.all (fun s => s.1.length == r) &&
  (List.range r).all (fun i => lowChk r ts B a.1 i (a.2.getD i none)) && (List.range r).all (fun i => raiChk a.1 i (raiF2 r ts i a.1) (A.filter (toRow i a.1))) &&
  ((List.range r).any (fun i => !(A.filter (toRow i a.1)).isEmpty) || a.1 == straight w)
def rowsOk (r : Nat) (ts w : List Int) : List PRow → List PRow → Bool
  | _, [] => true
  | A, a :: B => rowOk r ts w A B a && rowsOk r ts w (A ++ [a]) B
def newPaths : List (Option (List Stp)) → List (List Stp) → List (List Stp)
  | [], Q => Q
  | none :: l, Q => newPaths l Q
  | some q :: l, Q => if Q.contains q then newPaths l Q else newPaths l (Q ++ [q])
def crysGo (r : Nat) (ts : List Int) : Nat → List PRow → List (List Stp) → List PRow
  | 0, A, _ => A
  | _ + 1, A, [] => A
  | f + 1, A, p :: Q => crysGo r ts f (A ++ [(p, (List.range r).map fun i => lowF r ts i p)]) (newPaths ((List.range r).map fun i => lowF r ts i p) Q)
def crys (r : Nat) (ts w : List Int) : List PRow := crysGo r ts 61 [] [straight w]
def crysOk (r : Nat) (ts w : List Int) : Bool := (crys r ts w).any (isRow (straight w)) && rowsOk r ts w [] (crys r ts w)
theorem crysGo_lows (r : Nat) (ts : List Int) : ∀ (f : Nat) (A : List PRow) (Q : List (List Stp)), (∀ a ∈ A, a.2 = (List.range r).map fun i => lowF r ts i a.1) → ∀ a ∈ crysGo r ts f A Q, a.2 = (List.range r).map fun i => lowF r ts i a.1
  | 0, A, _, h => h
  | _ + 1, A, [], h => h
  | f + 1, A, p :: Q, h => crysGo_lows r ts f _ _ (by
    intro a ha
    rcases List.mem_append.1 ha with ha | ha
    · exact h a ha
    · simp only [List.mem_singleton] at ha
      subst ha
      rfl)
theorem rowsOk_at {r : Nat} {ts w : List Int} : ∀ {A B X Y : List PRow} {a : PRow}, rowsOk r ts w A B = true → B = X ++ a :: Y → rowOk r ts w (A ++ X) Y a = true
  | A, [], X, Y, a, _, e => by cases X <;> simp at e
  | A, b :: B, [], Y, a, h, e => by
    simp only [List.nil_append, List.cons.injEq] at e
    obtain ⟨rfl, rfl⟩ := e
    rw [rowsOk, Bool.and_eq_true] at h
    rw [List.append_nil]
    exact h.1
  | A, b :: B, x :: X, Y, a, h, e => by
    simp only [List.cons_append, List.cons.injEq] at e
    obtain ⟨rfl, rfl⟩ := e
    rw [rowsOk, Bool.and_eq_true] at h
    have := rowsOk_at h.2 rfl
    simpa using this
/-- what holds of the paths of a crystal -/
structure InCrys (r : Nat) (ts w : List Int) (k : Nat) (p : List Stp) : Prop where
  at_ : ∃ l, (crys r ts w)[k]? = some (p, l)
theorem InCrys.row {r : Nat} {ts w : List Int} {k : Nat} {p : List Stp} (h : InCrys r ts w k p) (hc : crysOk r ts w = true) :
    ∃ l, l = (List.range r).map (fun i => lowF r ts i p) ∧ (crys r ts w)[k]? = some (p, l) ∧ rowOk r ts w ((crys r ts w).take k) ((crys r ts w).drop (k + 1)) (p, l) = true := by
  obtain ⟨l, hl⟩ := h.at_
  refine ⟨l, crysGo_lows r ts 61 [] [straight w] (by simp) (p, l) (List.mem_of_getElem? hl), hl, ?_⟩
  rw [crysOk, Bool.and_eq_true] at hc
  have hk : k < (crys r ts w).length := by
    rcases Nat.lt_or_ge k (crys r ts w).length with h | h
    · exact h
    · rw [List.getElem?_eq_none h] at hl; cases hl
  have := rowsOk_at (X := (crys r ts w).take k) (Y := (crys r ts w).drop (k + 1)) (a := (p, l)) hc.2 (by
    have h2 := List.getElem?_eq_getElem hk
    rw [hl] at h2
    rw [Option.some.inj h2]
    exact (List.take_append_drop k (crys r ts w)).symm.trans (by rw [List.drop_eq_getElem_cons hk]))
  simpa using this
theorem InCrys.path {r : Nat} {ts w : List Int} {k : Nat} {p : List Stp} (h : InCrys r ts w k p) (hc : crysOk r ts w = true) : pathB r p = true ∧ (endR r p).1 = true := by
  obtain ⟨l, _, _, h3⟩ := h.row hc
  simp only [rowOk, Bool.and_eq_true] at h3
  exact ⟨h3.1.1.1.1.1, h3.1.1.1.1.2⟩
theorem isRow_mem {p : List Stp} {B : List PRow} (h : B.any (isRow p) = true) : ∃ (j : Nat) (l : List (Option (List Stp))), B[j]? = some (p, l) := by
  rw [List.any_eq_true] at h
  obtain ⟨a, ha, he⟩ := h
  obtain ⟨j, hj⟩ := List.mem_iff_getElem?.1 ha
  refine ⟨j, a.2, ?_⟩
  have : a.1 = p := by simpa [isRow] using he
  rw [hj, ← this]
theorem InCrys.top {r : Nat} {ts w : List Int} (hc : crysOk r ts w = true) : ∃ k, InCrys r ts w k (straight w) := by
  rw [crysOk, Bool.and_eq_true] at hc
  obtain ⟨j, l, h⟩ := isRow_mem hc.1
  exact ⟨j, l, h⟩
theorem lows_at {r : Nat} {ts : List Int} {p : List Stp} {i : Nat} (hi : i < r) : ((List.range r).map fun i => lowF r ts i p).getD i none = lowF r ts i p := by
  simp [List.getD_eq_getElem?_getD, hi]
theorem toRow_iff {r : Nat} {ts : List Int} {p q : List Stp} {i : Nat} (hi : i < r) : toRow i q (p, (List.range r).map fun i => lowF r ts i p) = true ↔ lowF r ts i p = some q := by
  simp only [toRow, lows_at hi, beq_iff_eq]
/-- lowered -/
theorem InCrys.low {r : Nat} {ts w : List Int} {k : Nat} {p : List Stp} (h : InCrys r ts w k p) (hc : crysOk r ts w = true) {i : Nat} (hi : i < r) :
    (lowF r ts i p = none ∧ htAt i p p.length = minHt i p p.length) ∨
    ∃ k' q, lowF r ts i p = some q ∧ k < k' ∧ InCrys r ts w k' q ∧ raiF2 r ts i q = some p ∧ addV (endR r q).2 (colW r ts i) = (endR r p).2 ∧ minHt i p p.length = minHt i q q.length + 27720 ∧ htAt i q q.length = htAt i p p.length - 55440 := by
  obtain ⟨l, hl, h2, h3⟩ := h.row hc
  simp only [rowOk, Bool.and_eq_true] at h3
  have h4 := List.all_eq_true.1 h3.1.1.2 i (List.mem_range.2 hi)
  rw [hl, lows_at hi] at h4
  cases hq : lowF r ts i p with
  | none =>
    rw [hq] at h4
    exact .inl ⟨rfl, by simpa [lowChk] using h4⟩
  | some q =>
    rw [hq] at h4
    simp only [lowChk, Bool.and_eq_true, beq_iff_eq, decide_eq_true_eq] at h4
    obtain ⟨⟨⟨a1, a2⟩, a3⟩, a4⟩ := h4
    obtain ⟨j, lq, hj⟩ := isRow_mem a1
    rw [List.getElem?_drop] at hj
    have hq' : InCrys r ts w (k + 1 + j) q := ⟨lq, hj⟩
    refine .inr ⟨k + 1 + j, q, rfl, by omega, hq', ?_, a2, a3, a4⟩
    obtain ⟨l2, e2, g2, g3⟩ := hq'.row hc
    simp only [rowOk, Bool.and_eq_true] at g3
    have g4 := List.all_eq_true.1 g3.1.2 i (List.mem_range.2 hi)
    have hm : (p, l) ∈ ((crys r ts w).take (k + 1 + j)).filter (toRow i q) := by
      rw [List.mem_filter]
      refine ⟨List.mem_iff_getElem?.2 ⟨k, by rw [List.getElem?_take, if_pos (by omega)]; exact h2⟩, ?_⟩
      rw [hl]
      exact (toRow_iff hi).2 hq
    cases hf : ((crys r ts w).take (k + 1 + j)).filter (toRow i q) with
    | nil => rw [hf] at hm; simp at hm
    | cons a l3 =>
      rw [hf] at g4 hm
      simp only [raiChk, Bool.and_eq_true, beq_iff_eq, List.isEmpty_iff] at g4
      obtain ⟨b1, rfl⟩ := g4
      simp only [List.mem_singleton] at hm
      rw [b1, ← hm]
end Go.Proofs.YtfikkfbnlegflaaGreatDoor

namespace Go.Proofs.YtfikkfbnlegflaaGreatDoor
open Go.RowKit

end Go.Proofs.YtfikkfbnlegflaaGreatDoor

namespace Go.Proofs.YtfikkfbnlegflaaGreatDoor
open Go.RowKit

end Go.Proofs.YtfikkfbnlegflaaGreatDoor

namespace Go.Proofs.YtfikkfbnlegflaaGreatDoor
open Go.RowKit

end Go.Proofs.YtfikkfbnlegflaaGreatDoor

namespace Go.Proofs.YtfikkfbnlegflaaGreatDoor
open Go.RowKit

/-- the basis element k -/
def basisL (n k : Nat) : List Int := (List.replicate n 0).set k 1
theorem l2Basis_any (n k : Nat) (w : World) (hk : k < n) (hn : n ≤ 1000000) :
    Calls Tryz.prog 156 #[.int .i64 n, .int .i64 k] w fun e w' => ∃ a, e = .returned (.slice a n n) ∧ OwnI w' w.heap.size a n n (basisL n k) ∧ Ext w w' := by
  have hm := OwnI.made w w.heap.size n (Nat.le_refl _) (by unfold maxLen; omega)
  have hu := (UpdI.start hm.ints).store k hk 1
  have HO := hidP (hu.own hm)
  have HX := hidP (hu.below (Ext.alloc w _) (by simp) (fun b o e _ => by cases e; exact Nat.le_refl _))
  have hmk := make_ints (n : Int) (by omega) (by omega)
  simp only [Int.toNat_natCast] at hmk
  clear hm hu
  go_enter Tryz.func156, Tryz.ntmps156
  go_wp2
  have hw : (w.alloc (.cells ((Array.replicate n (.int .i64 0)).setIfInBounds k (.int .i64 1)) 3)) = ((w.alloc (.cells (Array.replicate n (.int .i64 0)) 3)).setCell ⟨w.heap.size, 0 + k, none⟩ (.int .i64 1)) := by
    rw [Nat.zero_add, World.setCell_alloc_at]
    rfl
  rw [hw]
  go_ret
  exact ⟨_, rfl, HO.out, HX.out⟩
end Go.Proofs.YtfikkfbnlegflaaGreatDoor

namespace Go.Proofs.YtfikkfbnlegflaaGreatDoor
open Go.RowKit

def wgtF (r : Nat) (ts x : List Int) (i j : Nat) : Int := atM ts r i j * x.getD j 0
def wgtL (r : Nat) (ts x : List Int) : List Int := (List.range r).map fun i => sumTo r (wgtF r ts x i)
/-- the rows so far, and one of them up to a column -/
def wgtTo (r : Nat) (ts x : List Int) (k j : Nat) : List Int := (List.range r).map fun i => if i < k then sumTo r (wgtF r ts x i) else if i = k then sumTo j (wgtF r ts x i) else 0
theorem wgtL_get (r : Nat) (ts x : List Int) (i : Nat) (hi : i < r) : (wgtL r ts x).getD i 0 = sumTo r (wgtF r ts x i) := by simp [wgtL, List.getD_eq_getElem?_getD, hi]
theorem wgtTo_zero (r : Nat) (ts x : List Int) : wgtTo r ts x 0 0 = List.replicate r 0 := by
  apply List.ext_getElem
  · simp [wgtTo]
  · intro i h1 h2
    simp [wgtTo, sumTo]
theorem wgtTo_next (r : Nat) (ts x : List Int) (k : Nat) : wgtTo r ts x k r = wgtTo r ts x (k + 1) 0 := by
  unfold wgtTo
  apply List.map_congr_left
  intro i _
  by_cases h : i < k
  · rw [if_pos h, if_pos (by omega)]
  · by_cases h2 : i = k
    · rw [if_neg h, if_pos h2, if_pos (by omega)]
    · rw [if_neg h, if_neg h2, if_neg (by omega)]
      split <;> simp [sumTo]
theorem wgtTo_all (r : Nat) (ts x : List Int) (j : Nat) : wgtTo r ts x r j = wgtL r ts x := by
  unfold wgtTo wgtL
  apply List.map_congr_left
  intro i hi
  rw [if_pos (List.mem_range.1 hi)]
theorem wgtTo_at (r : Nat) (ts x : List Int) (k j : Nat) (hk : k < r) : (wgtTo r ts x k j).getD k 0 = sumTo j (wgtF r ts x k) := by simp [wgtTo, List.getD_eq_getElem?_getD, hk]
theorem wgtTo_set (r : Nat) (ts x : List Int) (k j : Nat) : (wgtTo r ts x k j).set k (sumTo (j + 1) (wgtF r ts x k)) = wgtTo r ts x k (j + 1) := by
  apply List.ext_getElem
  · simp [wgtTo]
  · intro i h1 h2
    have h3 : i < r := by simpa [wgtTo] using h2
    rw [List.getElem_set]
    by_cases h : k = i
    · subst h
      simp [wgtTo]
    · rw [if_neg h]
      simp only [wgtTo, List.getElem_map, List.getElem_range]
      rw [if_neg (Ne.symm h), if_neg (Ne.symm h)]
/-- bounds of the sums -/
theorem wgt_bd {r : Nat} {ts x : List Int} (hT : typeB r ts = true) {M : Int} (hb : ∀ j, j < r → -M ≤ x.getD j 0 ∧ x.getD j 0 ≤ M) (i : Nat) {j : Nat} (hj : j < r) : -(3 * M) ≤ wgtF r ts x i j ∧ wgtF r ts x i j ≤ 3 * M := by
  have h2 := hb j hj
  have h3 : -3 ≤ atM ts r i j ∧ atM ts r i j ≤ 2 := typeB_entry hT _
  unfold wgtF
  obtain ⟨h2a, h2b⟩ := h2
  obtain ⟨h3a, h3b⟩ := h3
  generalize x.getD j 0 = y at *
  generalize atM ts r i j = z at *
  rcases (by omega : z = -3 ∨ z = -2 ∨ z = -1 ∨ z = 0 ∨ z = 1 ∨ z = 2) with rfl | rfl | rfl | rfl | rfl | rfl <;> omega
theorem sum_bd {f : Nat → Int} {M : Int} : ∀ (n : Nat), (∀ i, i < n → -M ≤ f i ∧ f i ≤ M) → -(n * M) ≤ sumTo n f ∧ sumTo n f ≤ n * M
  | 0, _ => by simp [sumTo]
  | n + 1, h => by
    have h1 := sum_bd n fun i hi => h i (by omega)
    have h2 := h n (by omega)
    simp only [sumTo, Int.natCast_add, Int.add_mul, Int.cast_ofNat_Int, Int.one_mul]
    omega
theorem wgtS_bd {r : Nat} {ts x : List Int} (hT : typeB r ts = true) {M : Int} (hM : 0 ≤ M) (hb : ∀ j, j < r → -M ≤ x.getD j 0 ∧ x.getD j 0 ≤ M) (i : Nat) {j : Nat} (hj : j ≤ r) : -(12 * M) ≤ sumTo j (wgtF r ts x i) ∧ sumTo j (wgtF r ts x i) ≤ 12 * M := by
  have h := sum_bd (f := wgtF r ts x i) (M := 3 * M) j fun a ha => wgt_bd hT hb i (by omega)
  have hr := typeB_rank hT
  have h4 : (j : Int) * (3 * M) ≤ 4 * (3 * M) := Int.mul_le_mul_of_nonneg_right (by omega) (by omega)
  omega
def simL (r : Nat) (ts : List Int) (i : Nat) (x : List Int) : List Int := x.set i (x.getD i 0 - (wgtL r ts x).getD i 0)
def hgtL (x : List Int) : Int := sumTo x.length fun i => x.getD i 0
def posL (x : List Int) : Bool := x.all fun n => decide (0 ≤ n)
def lessD : List Int → List Int → Bool
  | a :: x, b :: y => if a = b then lessD x y else decide (b < a)
  | _, _ => false
def lessL (x y : List Int) : Bool := if hgtL x = hgtL y then lessD x y else decide (hgtL x < hgtL y)
/-- the roots as they are found; none: more than the fuel -/
def foundGo (r : Nat) (ts : List Int) : Nat → Nat → Nat → List (List Int) → Option (List (List Int))
  | 0, _, _, _ => none
  | f + 1, k, i, out =>
    if k < out.length then
      if i < r then foundGo r ts f k (i + 1) (if posL (simL r ts i (out.getD k [])) && !out.contains (simL r ts i (out.getD k [])) then out ++ [simL r ts i (out.getD k [])] else out)
      else foundGo r ts f (k + 1) 0 out
    else some out
def foundL (r : Nat) (ts : List Int) : Option (List (List Int)) := foundGo r ts 100 0 0 ((List.range r).map (basisL r))
def atR (x : List Int) (out : List (List Int)) : Nat → Nat
  | 0 => 0
  | k + 1 => if lessL x (out.getD k []) then atR x out k else k + 1
def insR (out : List (List Int)) (x : List Int) : List (List Int) := out.take (atR x out out.length) ++ x :: out.drop (atR x out out.length)
def rootsOf (fs : List (List Int)) : List (List Int) := fs.foldl insR []
/-! lengths -/
def lenJ (r : Nat) (ts : List Int) (a : Nat) : Nat → List Int → List Int
  | 0, d => d
  | j + 1, d => if (lenJ r ts a j d).getD j 0 = 0 ∧ atM ts r a j ≠ 0 then (lenJ r ts a j d).set j (((lenJ r ts a j d).getD a 0 * atM ts r a j).tdiv (atM ts r j a)) else lenJ r ts a j d
/-- over the first rows of a part: the numbers and the least one -/
def lenK (r : Nat) (ts : List Int) (rows : List Nat) (d : List Int) : Nat → List Int × Int
  | 0 => (d, 6)
  | k + 1 => (lenJ r ts (rows.getD k 0) r (lenK r ts rows d k).1, if (lenJ r ts (rows.getD k 0) r (lenK r ts rows d k).1).getD (rows.getD k 0) 0 < (lenK r ts rows d k).2 then (lenJ r ts (rows.getD k 0) r (lenK r ts rows d k).1).getD (rows.getD k 0) 0 else (lenK r ts rows d k).2)
def lenD (rows : List Nat) (s : Int) (d : List Int) : Nat → List Int
  | 0 => d
  | k + 1 => (lenD rows s d k).set (rows.getD k 0) (((lenD rows s d k).getD (rows.getD k 0) 0).tdiv s)
def rowsAt (r : Nat) (ts : List Int) (i : Nat) : List Nat := partL (bitsOf ts) r i
def lenI (r : Nat) (ts : List Int) : Nat → List Int
  | 0 => List.replicate r 0
  | i + 1 => if (lenI r ts i).getD i 0 ≠ 0 then lenI r ts i else
    lenD (rowsAt r ts i) (lenK r ts (rowsAt r ts i) ((lenI r ts i).set i 6) (rowsAt r ts i).length).2 (lenK r ts (rowsAt r ts i) ((lenI r ts i).set i 6) (rowsAt r ts i).length).1 (rowsAt r ts i).length
def lenL (r : Nat) (ts : List Int) : List Int := lenI r ts r
def okD (r : Nat) (d : List Int) : Bool := decide (d.length = r) && d.all fun x => decide (-1000 ≤ x ∧ x ≤ 1000)
/-- all numbers on the way are small, what is divided by is not 0 -/
def lenOk (r : Nat) (ts : List Int) : Bool := okD r (lenL r ts) && (List.range r).all fun i => decide ((lenI r ts i).getD i 0 ≠ 0) ||
  (decide (1 ≤ (lenK r ts (rowsAt r ts i) ((lenI r ts i).set i 6) (rowsAt r ts i).length).2) &&
   ((List.range (rowsAt r ts i).length).all fun k => (List.range (r + 1)).all fun j => okD r (lenJ r ts ((rowsAt r ts i).getD k 0) j (lenK r ts (rowsAt r ts i) ((lenI r ts i).set i 6) k).1) && decide (-1000 ≤ (lenK r ts (rowsAt r ts i) ((lenI r ts i).set i 6) k).2 ∧ (lenK r ts (rowsAt r ts i) ((lenI r ts i).set i 6) k).2 ≤ 1000)) &&
   (List.range ((rowsAt r ts i).length + 1)).all fun k => okD r (lenD (rowsAt r ts i) (lenK r ts (rowsAt r ts i) ((lenI r ts i).set i 6) (rowsAt r ts i).length).2 (lenK r ts (rowsAt r ts i) ((lenI r ts i).set i 6) (rowsAt r ts i).length).1 k))
def innL (r : Nat) (ts x y : List Int) : Int := sumTo r fun i => x.getD i 0 * (lenL r ts).getD i 0 * (wgtL r ts y).getD i 0
def corL (r : Nat) (ts x : List Int) : List Int := (List.range r).map fun i => (x.getD i 0 * (lenL r ts).getD i 0).tdiv ((innL r ts x x).tdiv 2)
def gcdO : Nat → Int → Int → Option Int
  | 0, _, _ => none
  | f + 1, a, b => if b = 0 then some a else gcdO f b (a.tmod b)
def gcdV (a b : Int) : Int := (gcdO 100 a b).getD 0
def dimF (w co : List Int) (i : Nat) : Int := co.getD i 0 * (w.getD i 0 + 1)
/-- top and low behind so many roots, and what they are ahead of their division -/
def dimK (r : Nat) (w : List Int) (cos : List (List Int)) : Nat → Int × Int
  | 0 => (1, 1)
  | k + 1 => (((dimK r w cos k).1 * sumTo r (dimF w (cos.getD k []))).tdiv (gcdV ((dimK r w cos k).1 * sumTo r (dimF w (cos.getD k []))) ((dimK r w cos k).2 * hgtL (cos.getD k []))),
      ((dimK r w cos k).2 * hgtL (cos.getD k [])).tdiv (gcdV ((dimK r w cos k).1 * sumTo r (dimF w (cos.getD k []))) ((dimK r w cos k).2 * hgtL (cos.getD k []))))
def smallB (x : Int) : Bool := decide (-1000000000000 ≤ x ∧ x ≤ 1000000000000)
def dimStepOk (r : Nat) (w : List Int) (cos : List (List Int)) (k : Nat) : Bool :=
  okD r (cos.getD k []) && smallB (dimK r w cos k).1 && smallB (dimK r w cos k).2 && smallB ((dimK r w cos k).1 * sumTo r (dimF w (cos.getD k []))) && smallB ((dimK r w cos k).2 * hgtL (cos.getD k [])) &&
  (gcdO 100 ((dimK r w cos k).1 * sumTo r (dimF w (cos.getD k []))) ((dimK r w cos k).2 * hgtL (cos.getD k []))).isSome && decide (gcdV ((dimK r w cos k).1 * sumTo r (dimF w (cos.getD k []))) ((dimK r w cos k).2 * hgtL (cos.getD k [])) ≠ 0)
def cosOf (r : Nat) (ts : List Int) (fs : List (List Int)) : List (List Int) := (rootsOf fs).map (corL r ts)
/-- of a matrix alone -/
def rootsOk (r : Nat) (ts : List Int) (fs : List (List Int)) : Bool := decide (fs.length ≤ 100) && fs.all (okD r) && lenOk r ts && fs.all fun x => decide ((innL r ts x x).tdiv 2 ≠ 0)
def dimOk (r : Nat) (w : List Int) (cos : List (List Int)) : Bool := (List.range cos.length).all (dimStepOk r w cos)
end Go.Proofs.YtfikkfbnlegflaaGreatDoor

namespace Go.Proofs.YtfikkfbnlegflaaGreatDoor
open Go.RowKit

section
variable {P : Program} {ops : Array Oper} {Q : Exit → Act → World → Prop} {C : World → Prop} {n : Nat}
theorem walkC_onlyX {i : Nat} {oi : Oper} {f : Nat} {listed : Array Bool} {a : Act} {w : World} (hi : ops[i]? = some oi)
    (hb : (decide (Region.ready .any ops listed = [i]) && decide (i < n)) = true) (hw : Region.wanted oi (yielded ops a.tmps) = true)
    (h : ∀ K : Act → World → Prop, (∀ (C' : World → Prop), (∀ w, C' w → C w) → ∀ a' w', C' w' → WalkC P ops Q n C' f (listed.setIfInBounds i true) a' w' → K a' w') → oi.wp P a w K Q) : WalkC P ops Q n C (f + 1) listed a w := by
  intro inv
  simp only [Bool.and_eq_true, decide_eq_true_eq] at hb
  have hr : i ∈ Region.ready .any ops listed := by rw [hb.1]; simp
  refine ⟨fun h0 => (by rw [hb.1] at h0; cases h0), fun j hj => ?_⟩
  rw [hb.1] at hj
  obtain rfl : j = i := by simpa using hj
  unfold wpOp
  simp only [hi, hw, if_true]
  refine .inl (h _ fun C' hC a' w' hc hk => ⟨fun _ => hC _ hc, anyC.imp hC _ _ _ _ (hk (inv.set hr hb.2))⟩)
theorem walkR_onlyX {i : Nat} {oi : Oper} {rem : List (Nat × Oper)} {f : Nat} {listed : Array Bool} {a : Act} {w : World} (hi : ops[i]? = some oi)
    (hb : (decide (Region.ready .any ops listed = [i]) && decide (i < n)) = true) (hw : Region.wanted oi (yielded ops a.tmps) = true)
    (h : ∀ K : Act → World → Prop, (∀ (C' : World → Prop), (∀ w, C' w → C w) → ∀ a' w', C' w' → WalkR P ops Q n C' rem f (listed.setIfInBounds i true) a' w' → K a' w') → oi.wp P a w K Q) : WalkR P ops Q n C ((i, oi) :: rem) (f + 1) listed a w :=
  walkC_onlyX hi hb hw h
end
end Go.Proofs.YtfikkfbnlegflaaGreatDoor

namespace Go.Proofs.YtfikkfbnlegflaaGreatDoor
open Go.RowKit

structure WgStep (r : Nat) (ts x : List Int) (k j : Nat) (T Z S : Int) : Prop where
  res : sumTo (j + 1) (wgtF r ts x k) = S + T * Z
  mul : IntKind.i64.wrap (T * Z) = T * Z
  add : IntKind.i64.wrap (S + T * Z) = S + T * Z
theorem wg_step {r : Nat} {ts x : List Int} (hT : typeB r ts = true) (hb : ∀ j, j < r → -1000000 ≤ x.getD j 0 ∧ x.getD j 0 ≤ 1000000) (k : Nat) {j : Nat} (hj : j < r) : WgStep r ts x k j (atM ts r k j) (x.getD j 0) (sumTo j (wgtF r ts x k)) := by
  have h1 := wgt_bd hT hb k hj
  have h2 := wgtS_bd hT (by omega) hb k (Nat.le_of_lt hj)
  unfold wgtF at h1
  exact ⟨rfl, wrap_in (by omega) (by omega), wrap_in (by omega) (by omega)⟩

set_option maxHeartbeats 2000000 in
theorem l5Weight_any (R : Nat) (ta : Option Addr) (tn tc : Nat) (ts : List Int) (a : Option Addr) (n c : Nat) (W : List Int) (w : World) (hc : IntsAt w ta tn ts) (hT : typeB R ts = true) (h : IntsAt w a n W) (hW : W.length = R)
    (hb : ∀ j, j < R → -1000000 ≤ W.getD j 0 ∧ W.getD j 0 ≤ 1000000) :
    Calls Tryz.prog 81 #[carV R ta tn tc, .slice a n c] w fun e w' => ∃ a', e = .returned (.slice a' n n) ∧ OwnI w' w.heap.size a' n n (wgtL R ts W) ∧ Ext w w' := by
  have hx1 := Ext.alloc w (.cells #[.int .i64 R, .slice ta tn tc] 31)
  have HC := hidP (fun w' (hx : Ext (w.alloc (.cells #[.int .i64 R, .slice ta tn tc] 31)) w') => (CarAt.new w _ rfl (R : Int) ta tn tc 31).below hx)
  have HX1 := hidP hx1
  have hnR : n = R := by have := h.len; omega
  subst hnR
  have hrk := typeB_rank hT
  have HAt := hidP (fun w' (hx : Ext w w') (k j : Nat) (hk : k < n) (hj : j < n) => l5At_any (n : Int) ta tn tc ts k j w' (hc.below hx) (by have := hc.len; omega) (by omega) (by omega) (by omega))
  have HI := hidP h
  have HT := hidP hT
  have HB := hidP hb
  have hs1 : w.heap.size ≤ (w.alloc (.cells #[.int .i64 n, .slice ta tn tc] 31)).heap.size := hx1.size
  have hn4 : n ≤ 4 := by omega
  have hmk := make_ints (n : Int) (by omega) (by omega)
  simp only [Int.toNat_natCast] at hmk
  clear hc h hx1 hT hb hW hrk
  obtain ⟨w1, hw1⟩ : ∃ w1, w1 = w.alloc (.cells #[.int .i64 n, .slice ta tn tc] 31) := ⟨_, rfl⟩
  have hs2 : w1.heap.size = w.heap.size + 1 := by rw [hw1]; simp
  have hm := OwnI.made w1 w.heap.size n (by omega) (by unfold maxLen; omega)
  have HX2 := hidP (Ext.alloc w1 (.cells (Array.replicate n (.int .i64 0)) 3))
  rw [hs2, ← wgtTo_zero n ts W] at hm
  have HM := hidP hm
  have HG1 : Hid (w1.heap.size ≤ w.heap.size + 1) := by show _ ≤ _; omega
  rw [← hw1] at HC HX1
  have HW1 := hidP hw1
  clear hs1 hs2 hm hw1
  go_enter Tryz.func81, Tryz.ntmps81
  go_wp2
  rw [← HW1.out]
  clear HW1
  obtain ⟨g, hg⟩ : ∃ g, g = w.heap.size + 1 := ⟨_, rfl⟩
  rw [← hg] at HM HG1 ⊢
  obtain ⟨w2, hw2⟩ : ∃ w2, w2 = w1.alloc (.cells (Array.replicate n (.int .i64 0)) 3) := ⟨_, rfl⟩
  rw [← hw2] at HM HX2 ⊢
  clear hw2 hg hmk
  go_loopw [6] (fun ii wr => ∃ k : Nat, k ≤ n ∧ ii = .int .i64 k ∧ Hid (OwnI wr w.heap.size (some ⟨g, 0, none⟩) n n (wgtTo n ts W k 0)) ∧ Hid (Ext w1 wr)) (fun ii _ => n - (intOf ii).toNat)
  case atStart => exact ⟨0, Nat.zero_le _, rfl, HM, HX2⟩
  case round =>
    clear HM HX2
    obtain ⟨k, hk, rfl, HO, HX⟩ := hrel
    obtain ⟨y0, y1⟩ := HC.out wr HX.out
    by_cases hlt : k < n
    · go_wp2
      go_loopw [7] (fun jj wq => ∃ j : Nat, j ≤ n ∧ jj = .int .i64 j ∧ Hid (OwnI wq w.heap.size (some ⟨g, 0, none⟩) n n (wgtTo n ts W k j)) ∧ Hid (Ext w1 wq)) (fun jj _ => n - (intOf jj).toNat)
      case atStart => exact ⟨0, Nat.zero_le _, rfl, HO, HX⟩
      case round =>
        clear HO HX y0 y1
        obtain ⟨j, hj, rfl, HO, HX⟩ := hrel
        obtain ⟨y0, y1⟩ := HC.out _ HX.out
        by_cases hlj : j < n
        · have hst := wg_step HT.out HB.out k hlj
          obtain ⟨S, hS⟩ : ∃ S, S = sumTo j (wgtF n ts W k) := ⟨_, rfl⟩
          obtain ⟨Z, hZ⟩ : ∃ Z, Z = W.getD j 0 := ⟨_, rfl⟩
          obtain ⟨T, hT⟩ : ∃ T, T = atM ts n k j := ⟨_, rfl⟩
          rw [← hS, ← hZ, ← hT] at hst
          obtain ⟨b, o, rfl, hwj⟩ := HI.out.one j hlj
          have HF : Hid (∀ w', Ext wr w' → w'.cell? ⟨g, k, none⟩ = some (.int .i64 S) ∧ w'.frozen? ⟨g, k, none⟩ = false ∧ w'.cell? ⟨b, o + j, none⟩ = some (.int .i64 Z)) := by
            show ∀ w', _
            intro w' hx
            obtain ⟨g', e', _, _, q1, q2⟩ := (HO.out.below hx).cell k hlt
            simp only [Option.some.injEq, Addr.mk.injEq, and_true] at e'
            subst e'
            rw [wgtTo_at _ _ _ _ _ hlt, ← hS] at q1
            have q3 := hwj w' ((HX1.out.trans HX.out).trans hx)
            rw [← hZ] at q3
            exact ⟨q1, q2, q3⟩
          have HCk := hidP (fun w' (hx : Ext w1 w') => HAt.out w' (HX1.out.trans hx) k j hlt hlj)
          have HSt : Hid (∀ w', Ext wr w' → OwnI (w'.setCell ⟨g, k, none⟩ (.int .i64 (S + T * Z))) w.heap.size (some ⟨g, 0, none⟩) n n (wgtTo n ts W k (j + 1))) := by
            show ∀ w', _
            intro w' hx
            have h1 := (HO.out.below hx).stored k (S + T * Z)
            rw [← hst.res] at h1
            rw [wgtTo_set] at h1
            rw [← hst.res]
            exact h1
          have hmul := hst.mul
          have hadd := hst.add
          simp only [Int.toNat_natCast, ← hT] at HCk
          have hk0 : (0 : Int) ≤ (k : Int) := by omega
          have hkn : (k : Int) < (n : Int) := by omega
          have hj0 : (0 : Int) ≤ (j : Int) := by omega
          have hjn : (j : Int) < (n : Int) := by omega
          clear hst hS hZ hT hwj
          have hE : Ext wr wr.drew := Ext.drew wr
          go_wp2
          (refine walkR_start (fun w' => Ext wr w') 16 (by kernel_rfl) ?_; simp only [numbered, List.take_succ_cons, List.take_zero, Nat.zero_add, Nat.reduceAdd, List.length_cons, List.length_nil])
          (repeat (first | (refine walkR_still (v := ?_) rfl (by decide +kernel) rfl (fun _ _ _ h => h) hE ?_ ?_; rotate_left; (focus (intro w' hw'; obtain ⟨q1, q2, q3⟩ := HF.out w' hw'; obtain ⟨f0, f1⟩ := HC.out w' (HX.out.trans hw'); go_simp; all_goals (with_reducible rfl))); simp only [Act.put, List.setIfInBounds_toArray, List.set_cons_zero, List.set_cons_succ]) | (refine walkR_skip rfl (by decide +kernel) rfl (fun _ _ _ h => h) hE ?_; simp only [Act.put, List.setIfInBounds_toArray, List.set_cons_zero, List.set_cons_succ])))
          (refine walkR_later ?_; simp only [List.cons_append, List.nil_append])
          (repeat (first | (refine walkR_still (v := ?_) rfl (by decide +kernel) rfl (fun _ _ _ h => h) hE ?_ ?_; rotate_left; (focus (intro w' hw'; obtain ⟨q1, q2, q3⟩ := HF.out w' hw'; obtain ⟨f0, f1⟩ := HC.out w' (HX.out.trans hw'); go_simp; all_goals (with_reducible rfl))); simp only [Act.put, List.setIfInBounds_toArray, List.set_cons_zero, List.set_cons_succ]) | (refine walkR_skip rfl (by decide +kernel) rfl (fun _ _ _ h => h) hE ?_; simp only [Act.put, List.setIfInBounds_toArray, List.set_cons_zero, List.set_cons_succ])))
          (refine walkR_later ?_; simp only [List.cons_append, List.nil_append]); (refine walkR_later ?_; simp only [List.cons_append, List.nil_append])
          (refine walkR_only (fun w' => Ext wr w') rfl (by decide +kernel) rfl (fun _ h => h) ?_; intro K hK; go_simp; refine (HCk.out _ (HX.out.trans hE)).mono ?_; rintro e w3 ⟨rfl, hx3⟩; refine hK _ _ (hE.trans hx3) ?_; clear hK K; (try simp only [Act.put, List.setIfInBounds_toArray, List.set_cons_zero, List.set_cons_succ]))
          have hE3 := hE.trans hx3
          clear hx3 hE
          (repeat (first | (refine walkR_still (v := ?_) rfl (by decide +kernel) rfl (fun _ _ _ h => h) hE3 ?_ ?_; rotate_left; (focus (intro w' hw'; obtain ⟨q1, q2, q3⟩ := HF.out w' hw'; go_simp; all_goals (with_reducible rfl))); simp only [Act.put, List.setIfInBounds_toArray, List.set_cons_zero, List.set_cons_succ]) | (refine walkR_skip rfl (by decide +kernel) rfl (fun _ _ _ h => h) hE3 ?_; simp only [Act.put, List.setIfInBounds_toArray, List.set_cons_zero, List.set_cons_succ])))
          (refine walkR_tail (by rfl) (by kernel_rfl) ?_; simp only [List.drop_succ_cons, List.drop_zero])
          obtain ⟨q1, q2, q3⟩ := HF.out w3 hE3
          have HO3 := hidP (HSt.out w3 hE3)
          have HX3 : Hid (Ext w1 (w3.setCell ⟨g, k, none⟩ (.int .i64 (S + T * Z)))) := Ext.setNew (HX.out.trans hE3) _ _ (by have := HG1.out; exact this) _
          clear q3 hE3
          go_wp2
          go_roundw
          case rel => exact ⟨j + 1, by omega, by go_num, HO3, HX3⟩
          case measure => simp [intOf]; omega
        · obtain rfl : n = j := by omega
          rw [wgtTo_next] at HO
          go_wp2
          go_roundw
          case rel => exact ⟨k + 1, by omega, by go_num, HO, HX⟩
          case measure => simp [intOf]; omega
    · obtain rfl : n = k := by omega
      rw [wgtTo_all] at HO
      go_wp2
      go_ret
      exact ⟨_, rfl, HO.out, HX1.out.trans HX.out⟩

theorem simL_length (r : Nat) (ts : List Int) (i : Nat) (x : List Int) : (simL r ts i x).length = x.length := by simp [simL]
set_option maxHeartbeats 2000000 in
theorem l5Simple_any (R : Nat) (ta : Option Addr) (tn tc : Nat) (ts : List Int) (i : Nat) (hi : i < R) (a : Option Addr) (n c : Nat) (W : List Int) (w : World) (hc : IntsAt w ta tn ts) (hT : typeB R ts = true) (h : IntsAt w a n W) (hW : W.length = R)
    (hnil : a = none → c = 0) (hb : ∀ j, j < R → -1000000 ≤ W.getD j 0 ∧ W.getD j 0 ≤ 1000000) :
    Calls Tryz.prog 157 #[carV R ta tn tc, .int .i64 i, .slice a n c] w fun e w' => ∃ a' c', e = .returned (.slice a' n c') ∧ OwnI w' w.heap.size a' n c' (simL R ts i W) ∧ Ext w w' := by
  have hx1 := Ext.alloc w (.cells #[.int .i64 R, .slice ta tn tc] 31)
  have HC := hidP (fun w' (hx : Ext (w.alloc (.cells #[.int .i64 R, .slice ta tn tc] 31)) w') => (CarAt.new w _ rfl (R : Int) ta tn tc 31).below hx)
  have HX1 := hidP hx1
  have hnR : n = R := by have := h.len; omega
  subst hnR
  have hrk := typeB_rank hT
  have HWg := hidP (fun w' (hx : Ext w w') => l5Weight_any n ta tn tc ts a n c W w' (hc.below hx) hT (h.below hx) hW hb)
  have HCl := hidP (l1Ints_any a n c W _ (h.below hx1) hnil (by omega))
  have hs1 : w.heap.size ≤ (w.alloc (.cells #[.int .i64 n, .slice ta tn tc] 31)).heap.size := hx1.size
  have hbi := hb i hi
  have hsb := wgtS_bd hT (by omega) hb i (Nat.le_refl n)
  have HSi : Hid (simL n ts i W = W.set i (W.getD i 0 - sumTo n (wgtF n ts W i))) := by
    show _ = _
    unfold simL
    rw [wgtL_get _ _ _ _ hi]
  have HSg := hidP (wgtL_get n ts W i hi)
  obtain ⟨Z, hZ⟩ : ∃ Z, Z = W.getD i 0 := ⟨_, rfl⟩
  obtain ⟨V, hV⟩ : ∃ V, V = sumTo n (wgtF n ts W i) := ⟨_, rfl⟩
  rw [← hZ] at hbi HSi
  rw [← hV] at hsb HSi HSg
  have hsub : IntKind.i64.wrap (Z - V) = Z - V := wrap_in (by omega) (by omega)
  have HZ := hidP hZ
  have hi0 : (0 : Int) ≤ (i : Int) := by omega
  have hin : (i : Int) < (n : Int) := by omega
  clear hc h hx1 hT hb hW hrk hnil hbi hsb hZ hV
  obtain ⟨w1, hw1⟩ : ∃ w1, w1 = w.alloc (.cells #[.int .i64 n, .slice ta tn tc] 31) := ⟨_, rfl⟩
  rw [← hw1] at HC HX1 hs1 HCl
  have HS1 := hidP hs1
  clear hs1
  go_enter Tryz.func157, Tryz.ntmps157
  go_wp2_with fail
  rw [← hw1]
  clear hw1
  refine HCl.out.mono ?_
  rintro e w2 ⟨a1, c1, rfl, ho, hx⟩
  obtain ⟨g, rfl, _⟩ := ho.cell i hi
  have HX2 := hidP hx
  have HG1 : Hid (w1.heap.size ≤ g) := (ho.at_base g 0 rfl).1
  have HO2 := hidP (ho.base (B' := w.heap.size) HS1.out)
  clear ho hx HCl
  have HF : Hid (∀ w', Ext w2 w' → w'.cell? ⟨g, i, none⟩ = some (.int .i64 Z) ∧ w'.frozen? ⟨g, i, none⟩ = false) := by
    show ∀ w', _
    intro w' hx
    obtain ⟨g', e', _, _, q1, q2⟩ := (HO2.out.below hx).cell i hi
    simp only [Option.some.injEq, Addr.mk.injEq, and_true] at e'
    subst e'
    rw [← HZ.out] at q1
    exact ⟨q1, q2⟩
  have HSt : Hid (∀ w', Ext w2 w' → OwnI (w'.setCell ⟨g, i, none⟩ (.int .i64 (Z - V))) w.heap.size (some ⟨g, 0, none⟩) n c1 (simL n ts i W)) := by
    show ∀ w', _
    intro w' hx
    have h1 := (HO2.out.below hx).stored i (Z - V)
    rw [← HSi.out] at h1
    exact h1
  have hE : Ext w2 w2.drew := Ext.drew w2
  go_wp2
  (refine walkR_start (fun w' => Ext w2 w') 14 (by kernel_rfl) ?_; simp only [numbered, List.take_succ_cons, List.take_zero, Nat.zero_add, Nat.reduceAdd, List.length_cons, List.length_nil])
  (repeat (first | (refine walkR_still (v := ?_) rfl (by decide +kernel) rfl (fun _ _ _ h => h) hE ?_ ?_; rotate_left; (focus (intro w' hw'; obtain ⟨q1, q2⟩ := HF.out w' hw'; obtain ⟨f0, f1⟩ := HC.out w' (HX2.out.trans hw'); go_simp; all_goals (with_reducible rfl))); simp only [Act.put, List.setIfInBounds_toArray, List.set_cons_zero, List.set_cons_succ]) | (refine walkR_skip rfl (by decide +kernel) rfl (fun _ _ _ h => h) hE ?_; simp only [Act.put, List.setIfInBounds_toArray, List.set_cons_zero, List.set_cons_succ])))
  (refine walkR_later ?_; simp only [List.cons_append, List.nil_append])
  (refine walkR_still (v := ?_) rfl (by decide +kernel) rfl (fun _ _ _ h => h) hE ?_ ?_; rotate_left; (focus (intro w' hw'; skip; go_simp; all_goals (with_reducible rfl))); simp only [Act.put, List.setIfInBounds_toArray, List.set_cons_zero, List.set_cons_succ])
  (refine walkR_later ?_; simp only [List.cons_append, List.nil_append]); (refine walkR_later ?_; simp only [List.cons_append, List.nil_append]); (refine walkR_later ?_; simp only [List.cons_append, List.nil_append]); (refine walkR_later ?_; simp only [List.cons_append, List.nil_append])
  (refine walkR_onlyX rfl (by decide +kernel) rfl ?_; intro K hK; go_simp; refine (HWg.out _ ((HX1.out.trans HX2.out).trans hE)).mono ?_; rintro e w3 ⟨aw, rfl, how, hx3⟩; refine hK (Ext w3) (fun w' h => (hE.trans hx3).trans h) _ _ (Ext.refl w3) ?_; clear hK K; (try simp only [Act.put, List.setIfInBounds_toArray, List.set_cons_zero, List.set_cons_succ]))
  have hE3 := hE.trans hx3
  clear hx3 hE
  obtain ⟨gw, rfl, _, _, _, _⟩ := how.cell i hi
  have HQ : Hid (∀ w', Ext w3 w' → w'.cell? ⟨gw, i, none⟩ = some (.int .i64 V)) := by
    show ∀ w', _
    intro w' hx
    obtain ⟨g', e', _, _, q, _⟩ := (how.below hx).cell i hi
    simp only [Option.some.injEq, Addr.mk.injEq, and_true] at e'
    subst e'
    rwa [HSg.out] at q
  clear how
  have hR3 := Ext.refl w3
  (repeat (first | (refine walkR_still (v := ?_) rfl (by decide +kernel) rfl (fun _ _ _ h => h) hR3 ?_ ?_; rotate_left; (focus (intro w' hw'; obtain ⟨q1, q2⟩ := HF.out w' (hE3.trans hw'); have q3 := HQ.out w' hw'; go_simp; all_goals (with_reducible rfl))); simp only [Act.put, List.setIfInBounds_toArray, List.set_cons_zero, List.set_cons_succ]) | (refine walkR_skip rfl (by decide +kernel) rfl (fun _ _ _ h => h) hR3 ?_; simp only [Act.put, List.setIfInBounds_toArray, List.set_cons_zero, List.set_cons_succ])))
  obtain ⟨q1, q2⟩ := HF.out w3 hE3
  have HO3 := hidP (HSt.out w3 hE3)
  have HX3 : Hid (Ext w1 (w3.setCell ⟨g, i, none⟩ (.int .i64 (Z - V)))) := Ext.setNew (HX2.out.trans hE3) _ _ (by have := HG1.out; exact this) _
  clear hE3
  (refine walkR_tail (by rfl) (by kernel_rfl) ?_; simp only [List.drop_succ_cons, List.drop_zero])
  go_wp2
  go_ret
  exact ⟨_, _, rfl, HO3.out, HX1.out.trans HX3.out⟩

theorem sum_getD_bd {x : List Int} {M : Int} (hb : ∀ j, j < x.length → -M ≤ x.getD j 0 ∧ x.getD j 0 ≤ M) {k : Nat} (hk : k ≤ x.length) : -(k * M) ≤ sumTo k (fun i => x.getD i 0) ∧ sumTo k (fun i => x.getD i 0) ≤ k * M := sum_bd k fun i hi => hb i (by omega)
set_option maxHeartbeats 2000000 in
theorem l5Height_any (a : Option Addr) (n c : Nat) (W : List Int) (w : World) (h : IntsAt w a n W) (hn : n ≤ 1000) (hb : ∀ j, j < n → -100000000 ≤ W.getD j 0 ∧ W.getD j 0 ≤ 100000000) :
    Calls Tryz.prog 139 #[.slice a n c] w fun e w' => e = .returned (.int .i64 (hgtL W)) ∧ w = w' := by
  have hl := h.len
  have HE : Hid (hgtL W = sumTo n fun i => W.getD i 0) := by
    show _ = _
    unfold hgtL
    rw [hl]
  have HS := hidP (fun k (hk : k < n) => show IntKind.i64.wrap (sumTo k (fun i => W.getD i 0) + W.getD k 0) = sumTo (k + 1) (fun i => W.getD i 0) from by
    have h1 := sum_getD_bd (M := 100000000) (fun j hj => hb j (by omega)) (show k + 1 ≤ W.length by omega)
    have h2 : ((k + 1 : Nat) : Int) * 100000000 ≤ 1000 * 100000000 := Int.mul_le_mul_of_nonneg_right (by omega) (by omega)
    exact wrap_in (by simp only [sumTo] at h1 ⊢; omega) (by simp only [sumTo] at h1 ⊢; omega))
  have HI := hidP h
  clear hl h hb
  go_enter Tryz.func139, Tryz.ntmps139
  go_wp2
  go_loop [3, 4] (fun s i => ∃ k : Nat, k ≤ n ∧ s = .int .i64 (sumTo k fun i => W.getD i 0) ∧ i = .int .i64 k) (fun _ i => n - (intOf i).toNat)
  case atStart => exact ⟨0, Nat.zero_le _, rfl, rfl⟩
  case round =>
    obtain ⟨k, hk, rfl, rfl⟩ := hrel
    by_cases hlt : k < n
    · obtain ⟨b, o, rfl, q⟩ := HI.out.get k hlt
      have hs := HS.out k hlt
      obtain ⟨S, hS⟩ : ∃ S, S = sumTo k (fun i => W.getD i 0) := ⟨_, rfl⟩
      obtain ⟨S1, hS1⟩ : ∃ S, S = sumTo (k + 1) (fun i => W.getD i 0) := ⟨_, rfl⟩
      obtain ⟨Z, hZ⟩ : ∃ Z, Z = W.getD k 0 := ⟨_, rfl⟩
      rw [← hS, ← hS1, ← hZ] at hs
      rw [← hZ] at q
      rw [← hS]
      have HS1 := hidP hS1
      clear hS hS1 hZ
      go_wp2
      go_round
      case rel => exact ⟨k + 1, by omega, by rw [← HS1.out], by go_num⟩
      case measure => simp [intOf]; omega
    · obtain rfl : n = k := by omega
      rw [← HE.out]
      go_wp2
      go_ret
      exact ⟨rfl, rfl⟩
set_option maxHeartbeats 2000000 in
theorem l5Positive_any (a : Option Addr) (n c : Nat) (W : List Int) (w : World) (h : IntsAt w a n W) (hn : n ≤ 1000000) :
    Calls Tryz.prog 158 #[.slice a n c] w fun e w' => e = .returned (.bool (posL W)) ∧ w = w' := by
  have HL := hidP h.len
  have HI := hidP h
  clear h
  go_enter Tryz.func158, Tryz.ntmps158
  go_wp2
  go_loop [3] (fun i => ∃ k : Nat, k ≤ n ∧ i = .int .i64 k ∧ Hid (∀ j, j < k → 0 ≤ W.getD j 0)) (fun i => n - (intOf i).toNat)
  case atStart => exact ⟨0, Nat.zero_le _, rfl, fun j h => by omega⟩
  case round =>
    obtain ⟨k, hk, rfl, HJ⟩ := hrel
    by_cases hlt : k < n
    · obtain ⟨b, o, rfl, q⟩ := HI.out.get k hlt
      obtain ⟨Z, hZ⟩ : ∃ Z, Z = W.getD k 0 := ⟨_, rfl⟩
      rw [← hZ] at q
      have HZ := hidP hZ
      clear hZ
      by_cases hz : Z < 0
      · have HF : Hid (posL W = false) := by
          show _ = _
          have hkl : k < W.length := by have := HL.out; omega
          unfold posL
          rw [List.all_eq_false]
          refine ⟨W.getD k 0, ?_, by have := HZ.out; rw [decide_eq_true_eq]; omega⟩
          rw [List.getD_eq_getElem?_getD, List.getElem?_eq_getElem hkl]
          exact List.getElem_mem hkl
        go_wp2
        go_ret
        exact ⟨ret_bool HF.out.symm, rfl⟩
      · have hz' : 0 ≤ Z := by omega
        clear hz
        have HJ' : Hid (∀ j, j < k + 1 → 0 ≤ W.getD j 0) := by
          intro j hj
          rcases Nat.lt_succ_iff_lt_or_eq.1 hj with h3 | rfl
          · exact HJ.out j h3
          · rw [← HZ.out]; exact hz'
        go_wp2
        go_round
        case rel => exact ⟨k + 1, by omega, by go_num, HJ'⟩
        case measure => simp [intOf]; omega
    · have HF : Hid (posL W = true) := by
        show _ = _
        unfold posL
        rw [List.all_eq_true]
        intro x hx
        obtain ⟨j, hj, rfl⟩ := List.mem_iff_getElem.1 hx
        have := HJ.out j (by have := HL.out; omega)
        rw [List.getD_eq_getElem?_getD, List.getElem?_eq_getElem hj] at this
        simpa using this
      go_wp2
      go_ret
      exact ⟨ret_bool HF.out.symm, rfl⟩
end Go.Proofs.YtfikkfbnlegflaaGreatDoor

namespace Go.Proofs.YtfikkfbnlegflaaGreatDoor
open Go.RowKit

variable {α : Type}
/-- m elements that lie one behind the other from a place on, each with its numbers in memory of its own -/
structure PartK (K : Knd α) (w : World) (B g o m : Nat) (hs : List Hdr) (xs : List α) : Prop where
  hl : hs.length = m
  xl : xs.length = m
  cells : ∀ (j : Nat) u, (K.all hs xs)[j]? = some u → w.cell? ((⟨g, o, none⟩ : Addr).add j) = some u
  each : ∀ i, i < m → OwnI w B (hs.getD i (none, 0)).1 (K.ints (xs.getD i K.dft)).length (hs.getD i (none, 0)).2 (K.ints (xs.getD i K.dft))
  apart : ∀ i j, i < m → j < m → i ≠ j → Apart (hs.getD i (none, 0)).1 (hs.getD j (none, 0)).1
theorem OwnK.part {K : Knd α} {w : World} {B U g n c : Nat} {hs : List Hdr} {xs : List α} (h : OwnK K w B U (some ⟨g, 0, none⟩) n c hs xs) (i : Nat) (hi : i ≤ n) : PartK K w B g (i * K.size) (n - i) (hs.drop i) (xs.drop i) := by
  have hhl := h.hl
  have hxl := h.xl
  have hall := K.all_length hs xs (hhl.trans hxl.symm)
  have hsplit : K.all hs xs = K.all (hs.take i) (xs.take i) ++ K.all (hs.drop i) (xs.drop i) := by
    rw [← K.all_append _ _ _ _ (by simp; omega), List.take_append_drop, List.take_append_drop]
  have hlen : (K.all (hs.take i) (xs.take i)).length = i * K.size := by
    rw [K.all_length _ _ (by simp; omega), List.length_take, hxl, Nat.min_eq_left hi]
  refine ⟨by simp; omega, by simp; omega, fun j u hu => ?_, fun q hq => ?_, fun q r hq hr hqr => ?_⟩
  · have h1 : (K.all hs xs)[i * K.size + j]? = some u := by
      rw [hsplit, List.getElem?_append_right (by omega), hlen, Nat.add_sub_cancel_left]
      exact hu
    have h2 : i * K.size + j < n * K.size := by
      have := (List.getElem?_eq_some_iff.1 h1).1
      rwa [hall, hxl] at this
    rw [add_none, h.row.cellAt _ h2]
    exact h1
  · have := h.each (i + q) (by omega)
    simpa [List.getD_eq_getElem?_getD, List.getElem?_drop] using this
  · have := h.apart (i + q) (i + r) (by omega) (by omega) (by omega)
    simpa [List.getD_eq_getElem?_getD, List.getElem?_drop] using this
theorem OwnK.cat_part {K : Knd α} {w w' : World} {B U : Nat} {a : Option Addr} {n c g o m : Nat} {hs hs2 : List Hdr} {xs xs2 : List α} (hown : OwnK K w B U a n c hs xs) (h2 : PartK K w B g o m hs2 xs2) {v' : Value}
    (hr : w'.ownsRow B K.E K.size v' (n + m) (K.all hs xs ++ K.all hs2 xs2)) (hg : w.grownBy w' (Value.slice a n c).ownBlock)
    (hap : ∀ i j, i < n → j < m → Apart (hs.getD i (none, 0)).1 (hs2.getD j (none, 0)).1) (hsl : ∃ a' c', v' = .slice a' (n + m) c') :
    ∃ a' c', v' = .slice a' (n + m) c' ∧ OwnK K w' B w'.heap.size a' (n + m) c' (hs ++ hs2) (xs ++ xs2) := by
  rw [← K.all_append hs hs2 xs xs2 (hown.hl.trans hown.xl.symm)] at hr
  obtain ⟨a', c', rfl⟩ := hsl
  refine ⟨a', c', rfl, ?_⟩
  have hxl := hown.xl
  have hhl := hown.hl
  have hxl2 := h2.xl
  have hhl2 := h2.hl
  have hne : ∀ {p : Option Addr} {k q : Nat} {ys : List Int}, OwnI w B p k q ys → ∀ b o, p = some ⟨b, o, none⟩ → some b ≠ (Value.slice a n c).ownBlock := fun hk b o e => by
    rcases hown.form with ⟨rfl, _⟩ | ⟨g', cur, rfl, _⟩
    · simp [Value.ownBlock]
    · have := hown.off_ints hk g' 0 b o rfl e
      simp only [Value.ownBlock, ne_eq, Option.some.injEq]
      omega
  have hev : ∀ q, q < n + m → OwnI w' B ((hs ++ hs2).getD q (none, 0)).1 (K.ints ((xs ++ xs2).getD q K.dft)).length ((hs ++ hs2).getD q (none, 0)).2 (K.ints ((xs ++ xs2).getD q K.dft)) := fun q hq => by
    by_cases h3 : q < n
    · rw [getD_left _ _ _ _ (by omega), getD_left _ _ _ _ (by omega)]
      exact (hown.each q h3).grown hg fun b o e => hne (hown.each q h3) b o e
    · rw [getD_right _ _ _ _ (by omega), getD_right _ _ _ _ (by omega), hhl, hxl]
      exact (h2.each _ (by omega)).grown hg fun b o e => hne (h2.each _ (by omega)) b o e
  refine ⟨hr, by simp [hhl, hhl2], by simp [hxl, hxl2], hev, fun q r hq hr' hqr => ?_, fun q hq b o e => ((hev q hq).at_base b o e).2, fun b o e => ?_⟩
  · by_cases h3 : q < n
    · rw [getD_left hs _ q _ (by omega)]
      by_cases h4 : r < n
      · rw [getD_left hs _ r _ (by omega)]; exact hown.apart q r h3 h4 hqr
      · rw [getD_right hs _ r _ (by omega)]; exact hap q _ h3 (by omega)
    · rw [getD_right hs _ q _ (by omega)]
      by_cases h4 : r < n
      · rw [getD_left hs _ r _ (by omega)]; exact (hap r _ h4 (by omega)).symm
      · rw [getD_right hs _ r _ (by omega)]; exact h2.apart _ _ (by omega) (by omega) (by omega)
  · rcases hr.2 with ⟨h5, h0⟩ | ⟨g', cap, cur, he, _, hg', _⟩
    · simp only [Value.slice.injEq] at h5
      rw [h5.1] at e
      cases e
    · simp only [Value.slice.injEq] at he
      rw [e] at he
      simp only [Option.some.injEq, Addr.mk.injEq, and_true] at he
      obtain ⟨⟨rfl, _⟩, _⟩ := he
      exact (Array.getElem?_eq_some_iff.1 hg').1

/-- append of a part's elements to an owned slice, at a single operation -/
theorem wp_append_part {o : Oper} {av : Act} {Kk : Act → World → Prop} {Q : Exit → Act → World → Prop} {w : World} (K : Knd α) (T : TypeId) (z : Value) (bytes : Nat) (s x : Operand)
    (ho : o.op = .call { callee := .builtin .append, args := #[s, x], argTypes := #[T, T] }) (hT : Tryz.prog.underlying T = some (.slice K.E)) (hinfo : (Tryz.prog.info? K.E).map (fun i => (i.zero, i.size, i.bytes)) = some (some z, K.size, bytes))
    (hz : z.cells.size = K.size) (hbp : bytes ≤ 1000)
    (B U : Nat) (g0 n c : Nat) (hs hs2 : List Hdr) (xs xs2 : List α) (hsv : av.eval s = .slice (some ⟨g0, 0, none⟩) n c) (hown : OwnK K w B U (some ⟨g0, 0, none⟩) n c hs xs)
    (g o2 m c2 : Nat) (hx : av.eval x = .slice (some ⟨g, o2, none⟩) m c2) (h2 : PartK K w B g o2 m hs2 xs2)
    (hap : ∀ i j, i < n → j < m → Apart (hs.getD i (none, 0)).1 (hs2.getD j (none, 0)).1) (hsm : n + m ≤ 1000000000) (hB : B ≤ w.heap.size)
    (h : ∀ g' c' w', OwnK K w' B w'.heap.size (some ⟨g', 0, none⟩) (n + m) c' (hs ++ hs2) (xs ++ xs2) → w.grownBy w' (some g0) → (g' = g0 ∨ w.heap.size ≤ g') → Kk (av.put o.dst (.slice (some ⟨g', 0, none⟩) (n + m) c')) w') : o.wp Tryz.prog av w Kk Q := by
  obtain ⟨i, hi, hz0, hz1, hz2⟩ := info_parts hinfo
  have hl2 := K.all_length hs2 xs2 (h2.hl.trans h2.xl.symm)
  rw [h2.xl] at hl2
  have hcells := h2.cells
  obtain ⟨gb, cur, eb, _⟩ : ∃ gb cur, (some (⟨g0, 0, none⟩ : Addr)) = some ⟨gb, 0, none⟩ ∧ w.heap[gb]? = some (.cells cur K.E (0, 0)) := by
    rcases hown.form with ⟨e, _⟩ | ⟨gb, cur, e, _, _, h3, _⟩
    · cases e
    · exact ⟨gb, cur, e, h3⟩
  by_cases hroom : n + m ≤ c
  · obtain ⟨w', hrun, hr, hg⟩ := run_append_fits (P := Tryz.prog) w B T o.type K.E i K.size hT hi hz1 g0 n c (K.all hs xs) hown.row ⟨g, o2, none⟩ m c2 (K.all hs2 xs2) hl2 hcells (K.all_one _ _) hroom
    obtain ⟨a', c', e, hk⟩ := hown.cat_part h2 hr hg hap ⟨_, _, rfl⟩
    simp only [Value.slice.injEq] at e
    obtain ⟨rfl, _, rfl⟩ := e
    unfold Oper.wp
    simp only [execOp, ho, resolve, invoke, builtin, Sem.run_bind, Sem.run_pure, Result.andThen_ok, List.map_toArray, List.map_cons, List.map_nil, hsv, hx, hrun]
    exact h _ _ w' hk hg (.inl rfl)
  · have hlx := K.all_length hs xs (hown.hl.trans hown.xl.symm)
    rw [hown.xl] at hlx
    obtain ⟨v', w', hrun, hr, hg0⟩ := run_append_arg_grows (P := Tryz.prog) w T o.type K.E i z K.size bytes hT hi hz0 hz1 hz2 hz K.pos ⟨g0, 0, none⟩ n c (K.all hs xs) hlx (by
      intro j u hu
      have hj : j < n * K.size := by have := (List.getElem?_eq_some_iff.1 hu).1; rwa [hlx] at this
      rw [add_none, Nat.zero_add, hown.row.cellAt j hj]
      exact hu) ⟨g, o2, none⟩ m c2 (K.all hs2 xs2) hl2 hcells (by omega) (by unfold maxLen; omega)
      (by calc (n + m) * bytes ≤ 1000000000 * 1000 := Nat.mul_le_mul (by omega) hbp
            _ ≤ _ := by omega)
    have hg : w.grownBy w' (Value.slice (some ⟨g0, 0, none⟩) n c).ownBlock := ⟨hg0.os, hg0.tape, hg0.output, hg0.size, fun k hk _ => hg0.block k hk (by simp)⟩
    have hr2 : w'.ownsRow B K.E K.size v' (n + m) (K.all hs xs ++ K.all hs2 xs2) := by
      refine ⟨hr.1, ?_⟩
      rcases hr.2 with h2 | ⟨g', cap, cur, he, hB', r⟩
      · exact .inl h2
      · exact .inr ⟨g', cap, cur, he, Nat.le_trans hB hB', r⟩
    obtain ⟨g', cap, he, hB'⟩ : ∃ g' cap, v' = .slice (some ⟨g', 0, none⟩) (n + m) cap ∧ w.heap.size ≤ g' := by
      rcases hr.2 with ⟨e5, h0⟩ | ⟨g', cap, cur, he, hB', _⟩
      · omega
      · exact ⟨g', cap, he, hB'⟩
    subst he
    obtain ⟨a', c', e, hk⟩ := hown.cat_part h2 hr2 hg hap ⟨_, _, rfl⟩
    simp only [Value.slice.injEq, true_and] at e
    obtain ⟨rfl, rfl⟩ := e
    unfold Oper.wp
    simp only [execOp, ho, resolve, invoke, builtin, Sem.run_bind, Sem.run_pure, Result.andThen_ok, List.map_toArray, List.map_cons, List.map_nil, hsv, hx, hrun]
    exact h g' _ w' hk hg (.inr hB')
theorem OwnK.front {K : Knd α} {w : World} {B U g n c : Nat} {hs : List Hdr} {xs : List α} (h : OwnK K w B U (some ⟨g, 0, none⟩) n c hs xs) (i : Nat) (hi : i ≤ n) : PartK K w B g 0 i (hs.take i) (xs.take i) := by
  have := (h.take i hi).part 0 (Nat.zero_le _)
  simpa using this
theorem PartK.single {K : Knd α} {w : World} {B g : Nat} {h1 : Hdr} {x1 : α} (hc : ∀ j, j < K.size → w.cell? ⟨g, j, none⟩ = (K.cells h1.1 h1.2 x1)[j]?) (hi : OwnI w B h1.1 (K.ints x1).length h1.2 (K.ints x1)) : PartK K w B g 0 1 [h1] [x1] := by
  refine ⟨rfl, rfl, fun j u hu => ?_, fun i hi' => ?_, fun i j hi' hj' hne => by omega⟩
  · have e : K.all [h1] [x1] = K.cells h1.1 h1.2 x1 := by simp [Knd.all]
    rw [e] at hu
    have hj : j < K.size := by have := (List.getElem?_eq_some_iff.1 hu).1; rwa [K.len] at this
    rw [add_none, Nat.zero_add, hc j hj]
    exact hu
  · obtain rfl : i = 0 := by omega
    exact hi
theorem PartK.moved {K : Knd α} {w : World} {B g o o' m : Nat} {hs : List Hdr} {xs : List α} (h : PartK K w B g o m hs xs) (hm : o' = o ∨ m = 0) : PartK K w B g o' m hs xs := by
  rcases hm with rfl | rfl
  · exact h
  · obtain rfl : hs = [] := List.length_eq_zero_iff.1 h.hl
    obtain rfl : xs = [] := List.length_eq_zero_iff.1 h.xl
    exact ⟨rfl, rfl, fun j u hu => by simp [Knd.all] at hu, fun i hi => by omega, fun i j hi => by omega⟩
end Go.Proofs.YtfikkfbnlegflaaGreatDoor

namespace Go.Proofs.YtfikkfbnlegflaaGreatDoor
open Go.RowKit

abbrev HRow := (Hdr × List Int) × List Int
def hdrK : Knd HRow where
  E := 22
  size := 1
  dft := (((none, 0), []), [])
  ints := fun x => x.2
  put := fun x ys => (x.1, ys)
  cells := fun _ _ x => [.slice x.1.1.1 x.1.2.length x.1.1.2]
  len := fun _ _ _ => rfl
  pos := by decide
  ne := by decide
  put_ints := fun _ _ => rfl
  put_cells := fun _ _ _ _ _ => rfl
  one := fun a c x u hu => by simp only [List.mem_singleton] at hu; subst hu; rfl
def nilH (n : Nat) : List Hdr := List.replicate n (none, 0)
theorem nilH_snoc (n : Nat) : nilH n ++ [(none, 0)] = nilH (n + 1) := by simp [nilH, List.replicate_succ']
theorem nilH_app (n m : Nat) : nilH n ++ nilH m = nilH (n + m) := by simp [nilH, List.replicate_append_replicate]
theorem nilH_get (n i : Nat) : (nilH n).getD i (none, 0) = (none, 0) := by
  simp only [nilH, List.getD_eq_getElem?_getD, List.getElem?_replicate]
  split <;> rfl
def rowOf (x : HRow) : List Int := x.1.2
def hrow (a : Option Addr) (c : Nat) (xs : List Int) : HRow := (((a, c), xs), [])
/-- a row of its own -/
def HOk (w : World) (B : Nat) (x : HRow) : Prop := x.2 = [] ∧ OwnI w B x.1.1.1 x.1.2.length x.1.1.2 x.1.2
structure HRows (w : World) (B : Nat) (a : Option Addr) (n c : Nat) (xs : List HRow) : Prop where
  own : OwnK hdrK w B w.heap.size a n c (nilH n) xs
  rd : ∀ x ∈ xs, HOk w B x
theorem HOk.below {w w' : World} {B : Nat} {x : HRow} (h : HOk w B x) (hx : Ext w w') : HOk w' B x := ⟨h.1, h.2.below hx⟩
theorem HRows.below {w w' : World} {B : Nat} {a : Option Addr} {n c : Nat} {xs : List HRow} (h : HRows w B a n c xs) (hx : Ext w w') : HRows w' B a n c xs :=
  ⟨(h.own.below hx).weaken (Nat.le_refl _) hx.size, fun x hx' => (h.rd x hx').below hx⟩
theorem HRows.len {w : World} {B : Nat} {a : Option Addr} {n c : Nat} {xs : List HRow} (h : HRows w B a n c xs) : xs.length = n := h.own.xl
theorem HRows.at_ {w : World} {B : Nat} {a : Option Addr} {n c : Nat} {xs : List HRow} (h : HRows w B a n c xs) (i : Nat) (hi : i < n) :
    ∃ g ai ci, a = some ⟨g, 0, none⟩ ∧ (xs.getD i hdrK.dft).1.1 = (ai, ci) ∧ w.cell? ⟨g, i, none⟩ = some (.slice ai (rowOf (xs.getD i hdrK.dft)).length ci) ∧ OwnI w B ai (rowOf (xs.getD i hdrK.dft)).length ci (rowOf (xs.getD i hdrK.dft)) := by
  obtain ⟨g, rfl, hc, _⟩ := h.own.cell i 0 hi (by decide)
  have hl := h.len
  rw [show i * hdrK.size + 0 = i from by show i * 1 + 0 = i; omega] at hc
  have hm : xs.getD i hdrK.dft ∈ xs := by
    rw [List.getD_eq_getElem?_getD, List.getElem?_eq_getElem (by omega)]
    exact List.getElem_mem _
  exact ⟨g, _, _, rfl, rfl, hc, (h.rd _ hm).2⟩
theorem rowOf_get (xs : List HRow) (i : Nat) : (xs.map rowOf).getD i [] = rowOf (xs.getD i hdrK.dft) := by
  simp only [List.getD_eq_getElem?_getD, List.getElem?_map]
  cases xs[i]? <;> rfl
theorem HRows.rowsI {w : World} {B : Nat} {a : Option Addr} {n c : Nat} {xs : List HRow} (h : HRows w B a n c xs) : RowsI w a n (xs.map rowOf) := by
  refine ⟨by rw [List.length_map]; exact h.len, fun i hi => ?_⟩
  obtain ⟨g, ai, ci, rfl, _, hc, ho⟩ := h.at_ i hi
  rw [rowOf_get]
  exact ⟨g, 0, ai, ci, rfl, by rw [Nat.zero_add]; exact hc, ho.ints, ho.nil_cap⟩
theorem HRows.base {w : World} {B B' : Nat} {a : Option Addr} {n c : Nat} {xs : List HRow} (h : HRows w B a n c xs) (hB : B' ≤ B) : HRows w B' a n c xs :=
  ⟨h.own.weaken hB (Nat.le_refl _), fun x hx => ⟨(h.rd x hx).1, (h.rd x hx).2.base hB⟩⟩
/-- the rows' blocks are none of the slice's -/
theorem HRows.apart {w : World} {B B' : Nat} {a a' : Option Addr} {n c n' c' : Nat} {xs : List HRow} {ys : List Int} (h : HRows w B a n c xs) (k : OwnI w B' a' n' c' ys) : ∀ b o, a' = some ⟨b, o, none⟩ → some b ≠ (Value.slice a n c).ownBlock := by
  intro b o e e2
  rcases h.own.form with ⟨rfl, _⟩ | ⟨g, cur, rfl, _, _, hg, _⟩
  · simp [Value.ownBlock] at e2
  · obtain ⟨cur', hc⟩ := k.block e
    simp only [Value.ownBlock, Option.some.injEq] at e2
    subst e2
    rw [hg] at hc
    simp only [Option.some.injEq, Obj.cells.injEq] at hc
    exact hdrK.ne hc.2.1
theorem wpList_append_row {ops : Array Oper} {rest : List Oper} {o : Oper} {av : Act} {Q : Exit → Act → World → Prop} {w : World} (T : TypeId) (hgd : o.guard = none) (s x : Operand)
    (ho : o.op = .call { callee := .builtin .append, args := #[s, x], argTypes := #[T, T] }) (hT : Tryz.prog.underlying T = some (.slice 22))
    (B : Nat) (a : Option Addr) (n c : Nat) (xs : List HRow) (hsv : av.eval s = .slice a n c) (hown : HRows w B a n c xs)
    (g m : Nat) (a1 : Option Addr) (n1 c1 : Nat) (ys : List Int) (hx : av.eval x = .slice (some ⟨g, 0, none⟩) 1 m) (hcl : w.cell? ⟨g, 0, none⟩ = some (.slice a1 n1 c1))
    (hi1 : OwnI w B a1 n1 c1 ys) (hsm : n ≤ 1000000000) (hB : B ≤ w.heap.size)
    (h : ∀ a' c' w', HRows w' B a' (n + 1) c' (xs ++ [hrow a1 c1 ys]) → w.grownBy w' (Value.slice a n c).ownBlock → OrNew w.heap.size a a' → wpList Tryz.prog ops Q rest (av.put o.dst (.slice a' (n + 1) c')) w') : wpList Tryz.prog ops Q (o :: rest) av w := by
  obtain rfl : ys.length = n1 := hi1.len
  refine wpList_append_elem2 hdrK T (.slice none 0 0) 24 hgd s x ho hT Tryz.info22 rfl (by omega) B _ a n c (nilH n) xs hsv hown.own g m (none, 0) (hrow a1 c1 ys) hx (fun j hj => by
    obtain rfl : j = 0 := by have : j < 1 := hj; omega
    exact hcl) (OwnI.nil w B) (fun i _ b o b' o' _ e => by cases e) (fun b o b' o' _ e => by cases e) hsm hB ?_
  intro a' c' w' ho' hg hn
  rw [nilH_snoc] at ho'
  refine h a' c' w' ⟨ho', fun z hz => ?_⟩ hg hn
  rcases List.mem_append.1 hz with hz | hz
  · exact ⟨(hown.rd z hz).1, (hown.rd z hz).2.grown hg fun b o e => hown.apart (hown.rd z hz).2 b o e⟩
  · simp only [List.mem_singleton] at hz
    subst hz
    exact ⟨rfl, hi1.grown hg fun b o e => hown.apart hi1 b o e⟩
theorem nilH_apart (n m i j : Nat) : Apart ((nilH n).getD i (none, 0)).1 ((nilH m).getD j (none, 0)).1 := by
  rw [nilH_get, nilH_get]
  intro b o b' o' e
  cases e
theorem HRows.front {w : World} {B g n c : Nat} {xs : List HRow} (h : HRows w B (some ⟨g, 0, none⟩) n c xs) (i : Nat) (hi : i ≤ n) : PartK hdrK w B g 0 i (nilH i) (xs.take i) := by
  have := h.own.front i hi
  rwa [show (nilH n).take i = nilH i by simp [nilH, List.take_replicate, Nat.min_eq_left hi]] at this
theorem HRows.part {w : World} {B g n c : Nat} {xs : List HRow} (h : HRows w B (some ⟨g, 0, none⟩) n c xs) (i : Nat) (hi : i ≤ n) : PartK hdrK w B g (i * 1) (n - i) (nilH (n - i)) (xs.drop i) := by
  have := h.own.part i hi
  rwa [show (nilH n).drop i = nilH (n - i) by simp [nilH]] at this
/-- one element in a new block -/
theorem hrow_single {w : World} {B g : Nat} {a1 : Option Addr} {n1 c1 : Nat} {ys : List Int} (hl : ys.length = n1) (hc : w.cell? ⟨g, 0, none⟩ = some (.slice a1 n1 c1)) : PartK hdrK w B g 0 1 (nilH 1) [hrow a1 c1 ys] := by
  subst hl
  exact PartK.single (h1 := (none, 0)) (x1 := hrow a1 c1 ys) (fun j hj => by
    obtain rfl : j = 0 := by have : j < 1 := hj; omega
    exact hc) (OwnI.nil w B)
theorem HRows.below_grown {w w' w0 : World} {B : Nat} {a : Option Addr} {n c : Nat} {xs : List HRow} (h : HRows w B a n c xs) (hg : w.grownBy w' (Value.slice a n c).ownBlock) (hb : Below B w0 w) (hB : B ≤ w.heap.size) : Below B w0 w' := h.own.below_grown hg hb hB
theorem HRows.base_ge {w : World} {B g n c : Nat} {xs : List HRow} (h : HRows w B (some ⟨g, 0, none⟩) n c xs) : B ≤ g ∧ g < w.heap.size := h.own.base_lt g 0 rfl
/-- rows of another slice are kept by what changes this one -/
theorem HOk.grown {w w' : World} {B B' : Nat} {a : Option Addr} {n c : Nat} {xs : List HRow} {x : HRow} (k : HOk w B' x) (h : HRows w B a n c xs) (hg : w.grownBy w' (Value.slice a n c).ownBlock) : HOk w' B' x :=
  ⟨k.1, k.2.grown hg fun b o e => h.apart k.2 b o e⟩
theorem HRows.cat {w w' : World} {B : Nat} {a a' : Option Addr} {n c n2 c' : Nat} {xs ys : List HRow} (h : HRows w B a n c xs) (hg : w.grownBy w' (Value.slice a n c).ownBlock) (hy : ∀ y ∈ ys, HOk w B y)
    (ho : OwnK hdrK w' B w'.heap.size a' n2 c' (nilH n2) (xs ++ ys)) : HRows w' B a' n2 c' (xs ++ ys) :=
  ⟨ho, fun z hz => by
    rcases List.mem_append.1 hz with hz | hz
    · exact (h.rd z hz).grown h hg
    · exact (hy z hz).grown h hg⟩
theorem wp_append_rows {o : Oper} {av : Act} {Kk : Act → World → Prop} {Q : Exit → Act → World → Prop} {w : World} (s x : Operand)
    (ho : o.op = .call { callee := .builtin .append, args := #[s, x], argTypes := #[126, 126] })
    (B : Nat) (g0 n c : Nat) (xs ys : List HRow) (hsv : av.eval s = .slice (some ⟨g0, 0, none⟩) n c) (hown : HRows w B (some ⟨g0, 0, none⟩) n c xs)
    (g o2 m c2 : Nat) (hx : av.eval x = .slice (some ⟨g, o2, none⟩) m c2) (h2 : PartK hdrK w B g o2 m (nilH m) ys) (hy : ∀ y ∈ ys, HOk w B y) (hsm : n + m ≤ 1000000000) (hB : B ≤ w.heap.size)
    (h : ∀ g' c' w', HRows w' B (some ⟨g', 0, none⟩) (n + m) c' (xs ++ ys) → w.grownBy w' (some g0) → (g' = g0 ∨ w.heap.size ≤ g') → Kk (av.put o.dst (.slice (some ⟨g', 0, none⟩) (n + m) c')) w') : o.wp Tryz.prog av w Kk Q :=
  wp_append_part hdrK 126 (.slice none 0 0) 24 s x ho Tryz.underlying126 Tryz.info22 rfl (by omega) B _ g0 n c (nilH n) (nilH m) xs ys hsv hown.own g o2 m c2 hx h2 (fun i j _ _ => nilH_apart n m i j) hsm hB
    fun g' c' w' r1 r2 r3 => h g' c' w' (hown.cat r2 hy (by rw [nilH_app] at r1; exact r1)) r2 r3
theorem wpList_append_rows {ops : Array Oper} {rest : List Oper} {o : Oper} {av : Act} {Q : Exit → Act → World → Prop} {w : World} (hgd : o.guard = none) (s x : Operand)
    (ho : o.op = .call { callee := .builtin .append, args := #[s, x], argTypes := #[126, 126] })
    (B : Nat) (g0 n c : Nat) (xs ys : List HRow) (hsv : av.eval s = .slice (some ⟨g0, 0, none⟩) n c) (hown : HRows w B (some ⟨g0, 0, none⟩) n c xs)
    (g o2 m c2 : Nat) (hx : av.eval x = .slice (some ⟨g, o2, none⟩) m c2) (h2 : PartK hdrK w B g o2 m (nilH m) ys) (hy : ∀ y ∈ ys, HOk w B y) (hsm : n + m ≤ 1000000000) (hB : B ≤ w.heap.size)
    (h : ∀ g' c' w', HRows w' B (some ⟨g', 0, none⟩) (n + m) c' (xs ++ ys) → w.grownBy w' (some g0) → (g' = g0 ∨ w.heap.size ≤ g') → wpList Tryz.prog ops Q rest (av.put o.dst (.slice (some ⟨g', 0, none⟩) (n + m) c')) w') : wpList Tryz.prog ops Q (o :: rest) av w :=
  wpList_plain hgd fun _ hK' => wp_append_rows s x ho B g0 n c xs ys hsv hown g o2 m c2 hx h2 hy hsm hB fun g' c' w' r1 r2 r3 => hK' _ _ (h g' c' w' r1 r2 r3)
theorem HRows.made0 (w : World) : HRows (w.alloc (.cells #[] 22)) w.heap.size (some ⟨w.heap.size, 0, none⟩) 0 0 [] := ⟨OwnK.made0 hdrK w, fun x hx => by simp at hx⟩
end Go.Proofs.YtfikkfbnlegflaaGreatDoor

namespace Go.Proofs.YtfikkfbnlegflaaGreatDoor
open Go.RowKit

set_option maxHeartbeats 2000000 in
theorem l5Place_any (a : Option Addr) (n c : Nat) (rows : List (List Int)) (ax : Option Addr) (nx cx : Nat) (X : List Int) (w : World) (h : RowsI w a n rows) (hx : IntsAt w ax nx X) (hn : n ≤ 1000000) (hnx : nx ≤ 1000000) (hrl : ∀ i, i < n → (rows.getD i []).length ≤ 1000000) :
    Calls Tryz.prog 159 #[.slice a n c, .slice ax nx cx] w fun e w' => ∃ v : Int, e = .returned (.int .i64 v) ∧ decide (v < 0) = !rows.contains X ∧ Ext w w' := by
  have HR := hidP h
  have HX := hidP hx
  have HL := hidP hrl
  have HLen := hidP h.len
  clear h hx hrl
  go_enter Tryz.func159, Tryz.ntmps159
  go_wp2
  go_loopw [5] (fun i wr => ∃ k : Nat, k ≤ n ∧ i = .int .i64 k ∧ Hid (∀ j, j < k → rows.getD j [] ≠ X) ∧ Hid (Ext w wr)) (fun i _ => n - (intOf i).toNat)
  case atStart => exact ⟨0, Nat.zero_le _, rfl, fun j h => by omega, Ext.refl _⟩
  case round =>
    obtain ⟨k, hk, rfl, HJ, HE⟩ := hrel
    by_cases hlt : k < n
    · obtain ⟨b, o, ar, cr, rfl, hc, hr, _⟩ := (HR.out.below HE.out).get k hlt
      have hl := HL.out k hlt
      obtain ⟨V, hV⟩ : ∃ V, V = rows.getD k [] := ⟨_, rfl⟩
      rw [← hV] at hc hr hl
      have HV := hidP hV
      have HS := hidP (l1Same_any ar ax V.length nx cr cx V X wr hr (HX.out.below HE.out) (by omega) (by omega))
      clear hV hr
      cases hb : (V == X)
      · rw [hb] at HS
        have HJ' : Hid (∀ j, j < k + 1 → rows.getD j [] ≠ X) := by
          intro j hj
          rcases Nat.lt_succ_iff_lt_or_eq.1 hj with h3 | rfl
          · exact HJ.out j h3
          · rw [← HV.out]; simpa using hb
        clear hb
        go_wp2_with fail
        refine HS.out.mono ?_
        rintro e w2 ⟨rfl, q, rfl⟩
        have HE2 := hidP (HE.out.trans (Ext.drewN wr q))
        go_wp2
        go_roundw
        case rel => exact ⟨k + 1, by omega, by go_num, HJ', HE2⟩
        case measure => simp [intOf]; omega
      · rw [hb] at HS
        have HF : Hid (rows.contains X = true) := by
          show _ = _
          have hkl : k < rows.length := by have := HLen.out; omega
          rw [List.contains_iff_mem]
          have : V = X := by simpa using hb
          rw [← this, HV.out, List.getD_eq_getElem?_getD, List.getElem?_eq_getElem hkl]
          exact List.getElem_mem hkl
        clear hb
        go_wp2_with fail
        refine HS.out.mono ?_
        rintro e w2 ⟨rfl, q, rfl⟩
        have HE2 := hidP (HE.out.trans (Ext.drewN wr q))
        go_wp2
        go_ret
        exact ⟨k, rfl, by rw [HF.out]; simp, HE2.out⟩
    · have HF : Hid (rows.contains X = false) := by
        show _ = _
        rw [Bool.eq_false_iff, ne_eq, List.contains_iff_mem]
        intro hm
        obtain ⟨j, hj, rfl⟩ := List.mem_iff_getElem.1 hm
        refine HJ.out j (by have := HLen.out; omega) ?_
        rw [List.getD_eq_getElem?_getD, List.getElem?_eq_getElem hj]
        rfl
      go_wp2
      go_ret
      exact ⟨-1, rfl, by rw [HF.out]; decide, HE.out⟩

theorem lessD_same {x y : List Int} {k : Nat} (hx : k < x.length) (hy : k < y.length) (h : ∀ j, j < k → x.getD j 0 = y.getD j 0) (hne : x.getD k 0 ≠ y.getD k 0) : lessD x y = decide (y.getD k 0 < x.getD k 0) := by
  induction x generalizing y k with
  | nil => simp at hx
  | cons a x ih =>
    cases y with
    | nil => simp at hy
    | cons b y =>
      cases k with
      | zero =>
        simp only [List.getD_cons_zero] at hne ⊢
        rw [lessD, if_neg hne]
      | succ k =>
        have h0 := h 0 (by omega)
        simp only [List.getD_cons_zero] at h0
        rw [lessD, if_pos h0]
        simp only [List.getD_cons_succ] at hne ⊢
        exact ih (by simpa using hx) (by simpa using hy) (fun j hj => by have := h (j + 1) (by omega); simpa using this) hne
theorem lessD_eq {x y : List Int} (hl : x.length = y.length) (h : ∀ j, j < x.length → x.getD j 0 = y.getD j 0) : lessD x y = false := by
  induction x generalizing y with
  | nil => cases y <;> rfl
  | cons a x ih =>
    cases y with
    | nil => rfl
    | cons b y =>
      have h0 := h 0 (by simp)
      simp only [List.getD_cons_zero] at h0
      rw [lessD, if_pos h0]
      exact ih (by simpa using hl) fun j hj => by have := h (j + 1) (by simpa using hj); simpa using this
set_option maxHeartbeats 2000000 in
theorem l5Less_any (a a' : Option Addr) (n c c' : Nat) (X Y : List Int) (w : World) (h : IntsAt w a n X) (h' : IntsAt w a' n Y) (hn : n ≤ 1000) (hb : ∀ j, j < n → -100000000 ≤ X.getD j 0 ∧ X.getD j 0 ≤ 100000000) (hb' : ∀ j, j < n → -100000000 ≤ Y.getD j 0 ∧ Y.getD j 0 ≤ 100000000) :
    Calls Tryz.prog 160 #[.slice a n c, .slice a' n c'] w fun e w' => e = .returned (.bool (lessL X Y)) ∧ Ext w w' := by
  have HX := hidP h
  have HY := hidP h'
  have HH := hidP (fun w' (hx : Ext w w') => l5Height_any a n c X w' (h.below hx) hn hb)
  have HH' := hidP (fun w' (hx : Ext w w') => l5Height_any a' n c' Y w' (h'.below hx) hn hb')
  have HLX := hidP h.len
  have HLY := hidP h'.len
  obtain ⟨A, hA⟩ : ∃ A, A = hgtL X := ⟨_, rfl⟩
  obtain ⟨B, hB⟩ : ∃ B, B = hgtL Y := ⟨_, rfl⟩
  rw [← hA] at HH
  rw [← hB] at HH'
  clear h h' hb hb'
  by_cases hab : A = B
  · have HR : Hid (lessL X Y = lessD X Y) := by
      show _ = _
      unfold lessL
      rw [← hA, ← hB, if_pos hab]
    have hne : (A != B) = false := by simpa using hab
    clear hA hB hab
    go_enter Tryz.func160, Tryz.ntmps160
    go_wp2_with fail
    refine (HH.out _ (Ext.refl _)).mono ?_
    rintro e w2 ⟨rfl, rfl⟩
    go_wp2_with fail
    refine (HH'.out _ (Ext.refl _)).mono ?_
    rintro e w3 ⟨rfl, rfl⟩
    go_wp2
    go_loopw [5] (fun i wr => ∃ k : Nat, k ≤ n ∧ i = .int .i64 k ∧ Hid (∀ j, j < k → X.getD j 0 = Y.getD j 0) ∧ Hid (Ext w wr)) (fun i _ => n - (intOf i).toNat)
    case atStart => exact ⟨0, Nat.zero_le _, rfl, fun j h => by omega, Ext.refl _⟩
    case round =>
      obtain ⟨k, hk, rfl, HJ, HE⟩ := hrel
      by_cases hlt : k < n
      · obtain ⟨b, o, rfl, qx⟩ := HX.out.one k hlt
        obtain ⟨b', o', rfl, qy⟩ := HY.out.one k hlt
        obtain ⟨P, hP⟩ : ∃ P, P = X.getD k 0 := ⟨_, rfl⟩
        obtain ⟨R, hR⟩ : ∃ R, R = Y.getD k 0 := ⟨_, rfl⟩
        rw [← hP] at qx
        rw [← hR] at qy
        have HF : Hid (∀ w', Ext wr w' → w'.cell? ⟨b, o + k, none⟩ = some (.int .i64 P) ∧ w'.cell? ⟨b', o' + k, none⟩ = some (.int .i64 R)) := fun w' hx => ⟨qx w' (HE.out.trans hx), qy w' (HE.out.trans hx)⟩
        have hk0 : (0 : Int) ≤ (k : Int) := by omega
        have hkn : (k : Int) < (n : Int) := by omega
        by_cases hd : P = R
        · have HJ' : Hid (∀ j, j < k + 1 → X.getD j 0 = Y.getD j 0) := by
            intro j hj
            rcases Nat.lt_succ_iff_lt_or_eq.1 hj with h3 | rfl
            · exact HJ.out j h3
            · rw [← hP, ← hR]; exact hd
          have hne2 : (P != R) = false := by simpa using hd
          clear hd hP hR qx qy
          have hE : Ext wr wr.drew := Ext.drew wr
          go_wp2
          (refine walkR_start (fun w' => Ext wr w') 9 (by kernel_rfl) ?_; simp only [numbered, List.take_succ_cons, List.take_zero, Nat.zero_add, Nat.reduceAdd, List.length_cons, List.length_nil])
          (repeat (first | (refine walkR_still (v := ?_) rfl (by decide +kernel) rfl (fun _ _ _ h => h) hE ?_ ?_; rotate_left; (focus (intro w' hw'; obtain ⟨q1, q2⟩ := HF.out w' hw'; go_simp; all_goals (with_reducible rfl))); simp only [Act.put, List.setIfInBounds_toArray, List.set_cons_zero, List.set_cons_succ]) | (refine walkR_skip rfl (by decide +kernel) rfl (fun _ _ _ h => h) hE ?_; simp only [Act.put, List.setIfInBounds_toArray, List.set_cons_zero, List.set_cons_succ])))
          (refine walkR_tail (by rfl) (by kernel_rfl) ?_; simp only [List.drop_succ_cons, List.drop_zero])
          have HE2 := hidP (HE.out.trans hE)
          go_wp2
          go_roundw
          case rel => exact ⟨k + 1, by omega, by go_num, HJ', HE2⟩
          case measure => simp [intOf]; omega
        · have HD : Hid (lessD X Y = decide (R < P)) := by
            show _ = _
            rw [hP, hR]
            exact lessD_same (by have := HLX.out; omega) (by have := HLY.out; omega) HJ.out (by rw [← hP, ← hR]; exact hd)
          have hne2 : (P != R) = true := by simpa using hd
          clear hd hP hR qx qy
          have hE : Ext wr wr.drew := Ext.drew wr
          go_wp2
          (refine walkR_start (fun w' => Ext wr w') 9 (by kernel_rfl) ?_; simp only [numbered, List.take_succ_cons, List.take_zero, Nat.zero_add, Nat.reduceAdd, List.length_cons, List.length_nil])
          (repeat (first | (refine walkR_still (v := ?_) rfl (by decide +kernel) rfl (fun _ _ _ h => h) hE ?_ ?_; rotate_left; (focus (intro w' hw'; obtain ⟨q1, q2⟩ := HF.out w' hw'; go_simp; all_goals (with_reducible rfl))); simp only [Act.put, List.setIfInBounds_toArray, List.set_cons_zero, List.set_cons_succ]) | (refine walkR_skip rfl (by decide +kernel) rfl (fun _ _ _ h => h) hE ?_; simp only [Act.put, List.setIfInBounds_toArray, List.set_cons_zero, List.set_cons_succ])))
          (refine walkR_tail (by rfl) (by kernel_rfl) ?_; simp only [List.drop_succ_cons, List.drop_zero])
          have hE2 : Ext wr wr.drew.drew := hE.trans (Ext.drew _)
          go_wp2
          (refine walkR_start (fun w' => Ext wr w') 9 (by kernel_rfl) ?_; simp only [numbered, List.take_succ_cons, List.take_zero, Nat.zero_add, Nat.reduceAdd, List.length_cons, List.length_nil])
          (repeat (first | (refine walkR_still (v := ?_) rfl (by decide +kernel) rfl (fun _ _ _ h => h) hE2 ?_ ?_; rotate_left; (focus (intro w' hw'; obtain ⟨q1, q2⟩ := HF.out w' hw'; go_simp; all_goals (with_reducible rfl))); simp only [Act.put, List.setIfInBounds_toArray, List.set_cons_zero, List.set_cons_succ]) | (refine walkR_skip rfl (by decide +kernel) rfl (fun _ _ _ h => h) hE2 ?_; simp only [Act.put, List.setIfInBounds_toArray, List.set_cons_zero, List.set_cons_succ])))
          (refine walkR_tail (by rfl) (by kernel_rfl) ?_; simp only [List.drop_succ_cons, List.drop_zero])
          have HE2 := hidP (HE.out.trans hE2)
          go_wp2
          go_ret
          exact ⟨ret_bool (HR.out.trans HD.out).symm, HE2.out⟩
      · have HD : Hid (lessD X Y = false) := by
          show _ = _
          exact lessD_eq (by have := HLX.out; have := HLY.out; omega) (fun j hj => HJ.out j (by have := HLX.out; omega))
        go_wp2
        go_ret
        exact ⟨ret_bool (HR.out.trans HD.out).symm, HE.out⟩
  · have HR : Hid (lessL X Y = decide (A < B)) := by
      show _ = _
      unfold lessL
      rw [← hA, ← hB, if_neg hab]
    have hne : (A != B) = true := by simpa using hab
    clear hA hB hab
    go_enter Tryz.func160, Tryz.ntmps160
    go_wp2_with fail
    refine (HH.out _ (Ext.refl _)).mono ?_
    rintro e w2 ⟨rfl, rfl⟩
    go_wp2_with fail
    refine (HH'.out _ (Ext.refl _)).mono ?_
    rintro e w3 ⟨rfl, rfl⟩
    go_wp2_with fail
    refine (HH.out _ (Ext.refl _)).mono ?_
    rintro e w2 ⟨rfl, rfl⟩
    go_wp2_with fail
    refine (HH'.out _ (Ext.refl _)).mono ?_
    rintro e w3 ⟨rfl, rfl⟩
    go_wp2
    go_ret
    exact ⟨ret_bool HR.out.symm, Ext.refl _⟩
end Go.Proofs.YtfikkfbnlegflaaGreatDoor

namespace Go.Proofs.YtfikkfbnlegflaaGreatDoor
open Go.RowKit

theorem foundGo_pre (r : Nat) (ts : List Int) : ∀ (f k i : Nat) (out R : List (List Int)), foundGo r ts f k i out = some R → ∃ t, R = out ++ t
  | 0, _, _, _, _, h => by cases h
  | f + 1, k, i, out, R, h => by
    rw [foundGo] at h
    split at h
    · split at h
      · obtain ⟨t, ht⟩ := foundGo_pre r ts f _ _ _ _ h
        split at ht
        · exact ⟨_, by rw [ht, List.append_assoc]⟩
        · exact ⟨t, ht⟩
      · exact foundGo_pre r ts f _ _ _ _ h
    · cases h
      exact ⟨[], by simp⟩
theorem foundGo_end {r : Nat} {ts : List Int} {f k i : Nat} {out R : List (List Int)} (h : foundGo r ts f k i out = some R) (hk : ¬ k < out.length) : R = out := by
  cases f with
  | zero => cases h
  | succ f =>
    rw [foundGo, if_neg hk] at h
    exact (Option.some.inj h).symm
theorem foundGo_next {r : Nat} {ts : List Int} {f k : Nat} {out R : List (List Int)} (h : foundGo r ts f k r out = some R) (hk : k < out.length) : ∃ f', foundGo r ts f' (k + 1) 0 out = some R := by
  cases f with
  | zero => cases h
  | succ f =>
    rw [foundGo, if_pos hk, if_neg (by omega)] at h
    exact ⟨f, h⟩
theorem foundGo_step {r : Nat} {ts : List Int} {f k i : Nat} {out R : List (List Int)} (h : foundGo r ts f k i out = some R) (hk : k < out.length) (hi : i < r) : ∃ f', foundGo r ts f' k (i + 1) (if posL (simL r ts i (out.getD k [])) && !out.contains (simL r ts i (out.getD k [])) then out ++ [simL r ts i (out.getD k [])] else out) = some R := by
  cases f with
  | zero => cases h
  | succ f =>
    rw [foundGo, if_pos hk, if_pos hi] at h
    exact ⟨f, h⟩
theorem insR_length (out : List (List Int)) (x : List Int) : (insR out x).length = out.length + 1 := by
  simp only [insR, List.length_append, List.length_take, List.length_cons, List.length_drop]
  omega
theorem mem_insR {out : List (List Int)} {x y : List Int} (h : y ∈ insR out x) : y ∈ out ∨ y = x := by
  simp only [insR, List.mem_append, List.mem_cons] at h
  rcases h with h | h | h
  · exact .inl (List.mem_of_mem_take h)
  · exact .inr h
  · exact .inl (List.mem_of_mem_drop h)
def insTo (fs : List (List Int)) (k : Nat) : List (List Int) := (fs.take k).foldl insR []
theorem insTo_succ {fs : List (List Int)} {k : Nat} (h : k < fs.length) : insTo fs (k + 1) = insR (insTo fs k) (fs.getD k []) := by
  unfold insTo
  rw [List.take_succ_eq_append_getElem h, List.foldl_append]
  simp [List.getD_eq_getElem?_getD, h]
theorem insTo_length (fs : List (List Int)) : ∀ k, k ≤ fs.length → (insTo fs k).length = k
  | 0, _ => rfl
  | k + 1, h => by rw [insTo_succ (by omega), insR_length, insTo_length fs k (by omega)]
theorem insTo_all (fs : List (List Int)) : insTo fs fs.length = rootsOf fs := by
  unfold insTo rootsOf
  rw [List.take_length]
theorem rootsOf_length (fs : List (List Int)) : (rootsOf fs).length = fs.length := by rw [← insTo_all, insTo_length _ _ (Nat.le_refl _)]
theorem insTo_mem (fs : List (List Int)) : ∀ k, k ≤ fs.length → ∀ y ∈ insTo fs k, y ∈ fs
  | 0, _, y, h => by simp [insTo] at h
  | k + 1, hk, y, h => by
    rw [insTo_succ (by omega)] at h
    rcases mem_insR h with h | rfl
    · exact insTo_mem fs k (by omega) y h
    · rw [List.getD_eq_getElem?_getD, List.getElem?_eq_getElem (by omega)]
      exact List.getElem_mem _
/-- rows of a rank with small numbers -/
def SmallRows (r : Nat) (fs : List (List Int)) : Prop := ∀ x ∈ fs, x.length = r ∧ ∀ j, j < r → -1000 ≤ x.getD j 0 ∧ x.getD j 0 ≤ 1000
theorem SmallRows.get {r : Nat} {fs : List (List Int)} (h : SmallRows r fs) {k : Nat} (hk : k < fs.length) : (fs.getD k []).length = r ∧ ∀ j, j < r → -1000 ≤ (fs.getD k []).getD j 0 ∧ (fs.getD k []).getD j 0 ≤ 1000 := by
  refine h _ ?_
  rw [List.getD_eq_getElem?_getD, List.getElem?_eq_getElem hk]
  exact List.getElem_mem _
end Go.Proofs.YtfikkfbnlegflaaGreatDoor
