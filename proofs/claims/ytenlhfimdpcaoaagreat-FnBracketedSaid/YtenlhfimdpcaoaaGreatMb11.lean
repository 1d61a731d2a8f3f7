/-
  Draws of algebras: l12Algebra, DrawAlgebra.
  The reference's algebra in another basis: l2Change.
  The reference's table of brackets in a basis: l2Table.
  Append of integers to an owned slice, with the new slice's place: where it was, or in a new block. An algebra in a block of its own.
  Which bracket lies where in the list of all brackets. No program in sight.
  The reference's l1Solve, at a transposed basis.
  The reference's brackets of all rows of a matrix: l2Brackets. Printed by gen/brks.py.
  The reference's product of spaces: l2All, l2Product.
  The reference's span of rows: l1Span.
  l1Solve, plain: the filled matrix is augM; the last loop fills solveL.
  The reference's transposed matrix, for square matrices.
  The reference's sum of two algebras: l2Sum.
  Draws of the plainest algebras: l12Plainest.
-/
import Derived.Test.YtenlhfimdpcaoaaGreatMb10
import Derived.OwnWalk
namespace Go.Proofs.YtenlhfimdpcaoaaGreat
open Go.RowKit

/-- an algebra in a variable of its own -/
structure AlgVar (w : World) (b : Nat) (p d : Int) (a : Option Addr) (n c : Nat) : Prop where
  at_ : AlgAt w b p d a n c
  fz : ∀ j, w.frozen? ⟨b, j, none⟩ = false
theorem AlgVar.grown {w w' : World} {b : Nat} {p d : Int} {a : Option Addr} {n c : Nat} (h : AlgVar w b p d a n c) {row : Option Nat} (hg : w.grownBy w' row) (hne : some b ≠ row) : AlgVar w' b p d a n c := by
  have hl : b < w.heap.size := World.block_lt_of_cell? w ⟨b, 0, none⟩ h.at_.c0
  have hb := hg.block b hl hne
  exact ⟨⟨(World.cell?_of_block (a := ⟨b, 0, none⟩) hb).trans h.at_.c0, (World.cell?_of_block (a := ⟨b, 1, none⟩) hb).trans h.at_.c1, (World.cell?_of_block (a := ⟨b, 2, none⟩) hb).trans h.at_.c2⟩, fun j => (World.frozen?_of_block (a := ⟨b, j, none⟩) hb).trans (h.fz j)⟩
theorem AlgVar.below {w w' : World} {b : Nat} {p d : Int} {a : Option Addr} {n c : Nat} (h : AlgVar w b p d a n c) (hx : Ext w w') : AlgVar w' b p d a n c := h.grown (row := none) (hx.gb none) (by simp)
theorem AlgVar.new (w : World) (p d : Int) (a : Option Addr) (n c : Nat) (E : TypeId) : AlgVar (w.alloc (.cells #[.int .i64 p, .int .i64 d, .slice a n c] E)) w.heap.size p d a n c := ⟨AlgAt.new w _ rfl _ _ _ _ _ _, fun _ => frozen_top _ _ _ _ _ rfl⟩
def set3 (w : World) (b : Nat) (v0 v1 v2 : Value) : World := ((w.setCell ⟨b, 0, none⟩ v0).setCell ⟨b, 1, none⟩ v1).setCell ⟨b, 2, none⟩ v2
theorem AlgVar.set {w : World} {b : Nat} {p d : Int} {a : Option Addr} {n c : Nat} (h : AlgVar w b p d a n c) (p' d' : Int) (a' : Option Addr) (n' c' : Nat) :
    AlgVar (set3 w b (.int .i64 p') (.int .i64 d') (.slice a' n' c')) b p' d' a' n' c' := by
  obtain ⟨c0, c1, c2⟩ := h.at_
  have k1 : (w.setCell ⟨b, 0, none⟩ (.int .i64 p')).cell? ⟨b, 1, none⟩ = some (.int .i64 d) := by rw [World.cell?_setCell_other _ _ _ _ (by simp)]; exact c1
  have k2 : ((w.setCell ⟨b, 0, none⟩ (.int .i64 p')).setCell ⟨b, 1, none⟩ (.int .i64 d')).cell? ⟨b, 2, none⟩ = some (.slice a n c) := by rw [World.cell?_setCell_other _ _ _ _ (by simp), World.cell?_setCell_other _ _ _ _ (by simp)]; exact c2
  unfold set3
  refine ⟨⟨?_, ?_, World.cell?_setCell_same _ _ _ k2⟩, fun j => by rw [World.frozen?_setCell, World.frozen?_setCell, World.frozen?_setCell]; exact h.fz j⟩
  · rw [World.cell?_setCell_other _ _ _ _ (by simp), World.cell?_setCell_other _ _ _ _ (by simp)]
    exact World.cell?_setCell_same _ _ _ c0
  · rw [World.cell?_setCell_other _ _ _ _ (by simp)]
    exact World.cell?_setCell_same _ _ _ k1
theorem set3_gb (w : World) (b : Nat) (v0 v1 v2 : Value) : w.grownBy (set3 w b v0 v1 v2) (some b) :=
  ⟨rfl, rfl, rfl, by simp [set3, World.setCell], fun k _ hk => by
    have e : k ≠ b := fun e => hk (by rw [e])
    unfold set3
    rw [Below.heap_setCell _ _ _ _ e, Below.heap_setCell _ _ _ _ e, Below.heap_setCell _ _ _ _ e]⟩
/-- an algebra is drawn -/
structure DrawnA (w w' : World) (g : Nat) (a0 : Option Addr) (na ca : Nat) (p : Int) (d : Nat) (a : Option Addr) (N c : Nat) (t : List Int) : Prop where
  own : OwnI w' w.heap.size a N c t
  ok : algB p d t = true
  le : d ≤ 6
  st : DrawSt w w' g a0 na ca
/-- the result's variable is filled -/
theorem DrawnA.out {w wr : World} {g : Nat} {a0 : Option Addr} {na ca : Nat} {p : Int} {d : Nat} {a : Option Addr} {N c : Nat} {t : List Int} (hv : AlgVar wr w.heap.size 0 0 none 0 0) (ho : OwnI wr (w.heap.size + 1) a N c t) (hd : DrawSt w wr g a0 na ca) (hg : g < w.heap.size)
    (hok : algB p d t = true) (hle : d ≤ 6) : AlgAt (set3 wr w.heap.size (.int .i64 p) (.int .i64 d) (.slice a N c)) w.heap.size p d a N c ∧ DrawnA w (set3 wr w.heap.size (.int .i64 p) (.int .i64 d) (.slice a N c)) g a0 na ca p d a N c t := by
  refine ⟨(hv.set p d a N c).at_, ?_, hok, hle, hd.past (set3_gb _ _ _ _ _) (Nat.le_refl _) (by omega)⟩
  have hlt : w.heap.size < w.heap.size + 1 := Nat.lt_succ_self _
  exact (((ho.setBelow _ _ hlt _).setBelow _ _ hlt _).setBelow _ _ hlt _).base (Nat.le_succ _)
set_option maxRecDepth 100000 in
set_option maxHeartbeats 4000000 in
theorem l12Plainest_any (g : Nat) (p : Int) (a0 : Option Addr) (na ca : Nat) (bs : List Int) (w : World) (hc : CurAt w g a0 na ca) (hb : BytesAt w a0 na bs) (hna : na ≤ 1048576) (hp : p ∈ drawP) :
    Calls Tryz.prog 59 #[.pointer (some ⟨g, 0, none⟩), .int .i64 p] w fun e w' => ∃ d a N c t, e = .returned (algV p (d : Nat) a N c) ∧ DrawnA w w' g a0 na ca p d a N c t := by
  have hp1 := drawP_prime p hp
  obtain ⟨p2, p7⟩ := prime_bounds hp1
  have hgl := hc.lt
  have hx := Ext.alloc w (.cells #[.int .i64 0, .int .i64 0, .slice none 0 0] 26)
  have hV0 := AlgVar.new w 0 0 none 0 0 26
  obtain ⟨w0, hw0⟩ : ∃ w0, w0 = w.alloc (.cells #[.int .i64 0, .int .i64 0, .slice none 0 0] 26) := ⟨_, rfl⟩
  have hs0 : w.heap.size + 1 ≤ w0.heap.size := by rw [hw0]; simp
  rw [← hw0] at hx hV0
  have HV0 := hidP hV0
  have HB := hidP hb
  have HD0 := hidP ((DrawSt.refl hc).ext hx)
  have HS0 : Hid (w.heap.size + 1 ≤ w0.heap.size) := hs0
  have HBe := hidP (fun w' (hd : DrawSt w w' g a0 na ca) (k : Int) (hk : k ≤ 1000000000000) => l1Below_any g k a0 na ca bs w' hd.cur (hd.bytes hb) hna hk)
  have HGl : Hid (g < w.heap.size) := hgl
  have HP : Hid (p ∈ drawP) := hp
  have HP1 := hidP hp1
  clear hx hV0 hb hc hgl hs0 hp hp1
  have HB1 := hidP (HBe.out w0 HD0.out 8 (by omega))
  go_enter Tryz.func59, Tryz.ntmps59
  go_wp2_with fail
  rw [← hw0]
  clear hw0
  refine HB1.out.mono ?_
  rintro e w1 ⟨v, hv, rfl, hc1, hg1⟩
  have hd1 : DrawSt w0 w1 g a0 na ca := ⟨hc1, hg1⟩
  have HD1 := hidP (HD0.out.trans hd1)
  have HV1 := hidP (HV0.out.grown hg1 (by have := HGl.out; simp; omega))
  have HS1 : Hid (w.heap.size + 1 ≤ w1.heap.size) := Nat.le_trans HS0.out hd1.gb.size
  clear hv hc1 hg1 hd1 HB1
  by_cases h0 : v = 0
  · subst h0
    have HB2 := hidP (HBe.out w1 HD1.out 3 (by omega))
    go_wp2_with fail
    refine HB2.out.mono ?_
    rintro e w2 ⟨v2, hv2, rfl, hc2, hg2⟩
    have hd2 : DrawSt w1 w2 g a0 na ca := ⟨hc2, hg2⟩
    have hv3 : v2 < 3 := by have := hv2.2 (by omega); omega
    have HD2 := hidP (HD1.out.trans hd2)
    have HV2 := hidP (HV1.out.grown hg2 (by have := HGl.out; simp; omega))
    have HS2 : Hid (w.heap.size + 1 ≤ w2.heap.size) := Nat.le_trans HS1.out hd2.gb.size
    have e1 : IntKind.i64.wrap (1 + (v2 : Int)) = 1 + (v2 : Int) := wrap_in (by omega) (by omega)
    obtain ⟨hfk, hff, hfl⟩ := free_draw p HP.out (1 + v2) (by omega) (by omega)
    have hfr : freeRes p 2 (1 + (v2 : Int)) = (true, (p, ((wordsZ 2 (1 + v2)).length : Int), frTab p 2 (1 + v2))) := by
      have h1 : insB (1 + (v2 : Int)) 1 8 = true := insB_true.2 ⟨by omega, by omega⟩
      have h2 : (1 + (v2 : Int)).toNat = 1 + v2 := by omega
      unfold freeRes
      rw [HP1.out, h1, h2]
      simp only [show ((2 : Int)).toNat = 2 from rfl, hff, show insB 2 1 4 = true by decide, Bool.and_self, if_true]
    have hfa := sFreeAlgebra_any p 2 (1 + (v2 : Int)) w2
    rw [hfr] at hfa
    have HFA := hidP hfa
    have HOk : Hid (algB p ((wordsZ 2 (1 + v2)).length : Nat) (frTab p 2 (1 + v2)) = true) := hfk
    have HLe : Hid ((wordsZ 2 (1 + v2)).length ≤ 6) := hfl
    clear hv2 hc2 hg2 hd2 hfk hff hfl hfr hfa HB2
    go_wp2_with fail
    refine HFA.out.mono ?_
    rintro e w3 ⟨aF, N, c, rfl, ho3, hx3⟩
    have HD3 := hidP (HD2.out.ext hx3)
    have HV3 := hidP (HV2.out.below hx3)
    have HO3 := hidP (ho3.base HS2.out)
    generalize (wordsZ 2 (1 + v2)).length = d at *
    generalize frTab p 2 (1 + v2) = t at *
    clear ho3 hx3 HFA
    have hxa := Ext.alloc w3 (.cells #[.int .i64 p, .int .i64 (d : Int), .slice aF N c] 26)
    have hA := AlgVar.new w3 p d aF N c 26
    obtain ⟨w4, hw4⟩ : ∃ w4, w4 = w3.alloc (.cells #[.int .i64 p, .int .i64 (d : Int), .slice aF N c] 26) := ⟨_, rfl⟩
    rw [← hw4] at hxa hA
    have HW4 : Hid (w3.alloc (.cells #[.int .i64 p, .int .i64 (d : Int), .slice aF N c] 26) = w4) := hw4.symm
    have HD4 := hidP (HD3.out.ext hxa)
    have HV4 := hidP (HV3.out.below hxa)
    have HO4 := hidP (HO3.out.below hxa)
    obtain ⟨⟨f0, f1, f2⟩, _⟩ := hA
    clear hxa hw4 HD3 HV3 HO3
    obtain ⟨⟨z0, z1, z2⟩, zf⟩ := HV4.out
    have zf0 := zf 0
    have zf1 := zf 1
    have zf2 := zf 2
    have HFin := hidP (DrawnA.out (p := p) HV4.out HO4.out HD4.out HGl.out HOk.out HLe.out)
    clear zf
    go_wp2_with (with_reducible (refine stop_at 19 (by rfl) ?_))
    rw [HW4.out]
    clear HW4
    unfold Stopped
    go_wp2
    obtain ⟨⟨r0, r1, r2⟩, hfin⟩ := HFin.out
    unfold set3 at r0 r1 r2 hfin
    refine bodyPost_ret (v := algV p d aF N c) (by simp [results, Tryz.results59, go_sem, r0, r1, r2]) rfl ⟨d, aF, N, c, t, rfl, hfin⟩
  · have hb0 : ((v : Int) == 0) = false := by simp; omega
    by_cases h1 : v = 1
    · subst h1
      have HOne : Hid (∀ w', Calls Tryz.prog 126 #[.string ⟨#[65, 49]⟩] w' fun e w'' => ∃ a, e = .returned (carV 1 a 1 1) ∧ OwnI w'' w'.heap.size a 1 1 [2] ∧ Ext w' w'') := fun w' => l5One_any 0 (by omega) ⟨#[65, 49]⟩ rfl w'
      have HOk : Hid (algB p (3 : Nat) (a1T p) = true) := a1_valid p HP.out
      have HLe : Hid (3 ≤ 6) := (by omega : 3 ≤ 6)
      go_wp2_with fail
      refine (HOne.out _).mono ?_
      rintro e w2 ⟨ta, rfl, ho2, hx2⟩
      have HTb := hidP (l7Table_a1 p HP1.out ta 1 w2 ho2.ints)
      have HX2 := hidP hx2
      clear ho2 hx2 HOne
      go_wp2_with fail
      refine HTb.out.mono ?_
      rintro e w4 ⟨aF, rfl, ho4, hx4⟩
      have HD4 := hidP (HD1.out.ext (HX2.out.trans hx4))
      have HV4 := hidP (HV1.out.below (HX2.out.trans hx4))
      have HO4 := hidP (ho4.base (Nat.le_trans HS1.out HX2.out.size))
      clear ho4 hx4 HTb
      obtain ⟨⟨z0, z1, z2⟩, zf⟩ := HV4.out
      have zf0 := zf 0
      have zf1 := zf 1
      have zf2 := zf 2
      have HFin := hidP (DrawnA.out (p := p) HV4.out HO4.out HD4.out HGl.out HOk.out HLe.out)
      clear zf
      go_wp2
      obtain ⟨⟨r0, r1, r2⟩, hfin⟩ := HFin.out
      unfold set3 at r0 r1 r2 hfin
      rw [show ((3 : Nat) : Int) = 3 from rfl] at r0 r1 r2
      refine bodyPost_ret (v := algV p 3 aF 27 27) (by simp [results, Tryz.results59, go_sem, r0, r1, r2]) rfl ⟨3, aF, 27, 27, _, rfl, hfin⟩
    · have hb1 : ((v : Int) == 1) = false := by simp; omega
      by_cases h2 : v = 2
      · subst h2
        have HB2 := hidP (HBe.out w1 HD1.out 4 (by omega))
        go_wp2_with fail
        refine HB2.out.mono ?_
        rintro e w2 ⟨v2, hv2, rfl, hc2, hg2⟩
        have hd2 : DrawSt w1 w2 g a0 na ca := ⟨hc2, hg2⟩
        have hv3 : v2 < 4 := by have := hv2.2 (by omega); omega
        have HD2 := hidP (HD1.out.trans hd2)
        have HV2 := hidP (HV1.out.grown hg2 (by have := HGl.out; simp; omega))
        have HS2 : Hid (w.heap.size + 1 ≤ w2.heap.size) := Nat.le_trans HS1.out hd2.gb.size
        clear hv2 hc2 hg2 hd2 HB2
        have HOk : Hid (algB p (v2 : Nat) (List.replicate (v2 * v2 * v2) 0) = true) := abelian_valid p HP.out v2 hv3
        have HLe : Hid (v2 ≤ 6) := (by omega : v2 ≤ 6)
        have hN : ((v2 : Int) * v2 * v2).toNat = v2 * v2 * v2 := by rw [← Int.natCast_mul, ← Int.natCast_mul, Int.toNat_natCast]
        have hab := sAbelian_ok p v2 w2 HP1.out (by omega) (by omega)
        rw [hN] at hab
        have HAb := hidP hab
        generalize v2 * v2 * v2 = N at *
        clear hab hN
        go_wp2_with fail
        refine HAb.out.mono ?_
        rintro e w4 ⟨aF, rfl, ho4, hx4⟩
        have HD4 := hidP (HD2.out.ext hx4)
        have HV4 := hidP (HV2.out.below hx4)
        have HO4 := hidP (ho4.base HS2.out)
        clear ho4 hx4 HAb
        obtain ⟨⟨z0, z1, z2⟩, zf⟩ := HV4.out
        have zf0 := zf 0
        have zf1 := zf 1
        have zf2 := zf 2
        have HFin := hidP (DrawnA.out (p := p) HV4.out HO4.out HD4.out HGl.out HOk.out HLe.out)
        clear zf
        go_wp2
        obtain ⟨⟨r0, r1, r2⟩, hfin⟩ := HFin.out
        unfold set3 at r0 r1 r2 hfin
        refine bodyPost_ret (v := algV p v2 aF N N) (by simp [results, Tryz.results59, go_sem, r0, r1, r2]) rfl ⟨v2, aF, N, N, _, rfl, hfin⟩
      · have hb2 : ((v : Int) == 2) = false := by simp; omega
        have HB2 := hidP (HBe.out w1 HD1.out 10 (by omega))
        go_wp2_with fail
        refine HB2.out.mono ?_
        rintro e w2 ⟨v2, hv2, rfl, hc2, hg2⟩
        have hd2 : DrawSt w1 w2 g a0 na ca := ⟨hc2, hg2⟩
        have hv3 : v2 < 10 := by have := hv2.2 (by omega); omega
        have HD2 := hidP (HD1.out.trans hd2)
        have HV2 := hidP (HV1.out.grown hg2 (by have := HGl.out; simp; omega))
        have HS2 : Hid (w.heap.size + 1 ≤ w2.heap.size) := Nat.le_trans HS1.out hd2.gb.size
        clear hv2 hc2 hg2 hd2 HB2
        obtain ⟨hok, hle⟩ := ex_draw p HP.out v2 hv3
        have HOk := hidP hok
        have HLe := hidP hle
        have HAb := hidP (l12Example_any v2 hv3 p HP1.out w2)
        generalize exTab v2 p = t at *
        generalize exDim v2 = d at *
        clear hok hle
        go_wp2_with fail
        refine HAb.out.mono ?_
        rintro e w4 ⟨aF, N, rfl, ho4, hx4⟩
        have HD4 := hidP (HD2.out.ext hx4)
        have HV4 := hidP (HV2.out.below hx4)
        have HO4 := hidP (ho4.base HS2.out)
        clear ho4 hx4 HAb
        obtain ⟨⟨z0, z1, z2⟩, zf⟩ := HV4.out
        have zf0 := zf 0
        have zf1 := zf 1
        have zf2 := zf 2
        have HFin := hidP (DrawnA.out (p := p) HV4.out HO4.out HD4.out HGl.out HOk.out HLe.out)
        clear zf
        go_wp2
        obtain ⟨⟨r0, r1, r2⟩, hfin⟩ := HFin.out
        unfold set3 at r0 r1 r2 hfin
        refine bodyPost_ret (v := algV p d aF N N) (by simp [results, Tryz.results59, go_sem, r0, r1, r2]) rfl ⟨d, aF, N, N, t, rfl, hfin⟩
end Go.Proofs.YtenlhfimdpcaoaaGreat

namespace Go.Proofs.YtenlhfimdpcaoaaGreat
open Go.RowKit

theorem idx3 {n i j k : Nat} (hn : n ≤ 28) (hi : i < n) (hj : j < n) (hk : k < n) : ∃ q1 q2 q3 t : Nat, (i * n + j) * n + k = t ∧ t < n * n * n ∧ IntKind.i64.wrap ((i : Int) * n) = q1 ∧ IntKind.i64.wrap ((q1 : Int) + j) = q2 ∧ IntKind.i64.wrap ((q2 : Int) * n) = q3 ∧ IntKind.i64.wrap ((q3 : Int) + k) = t := by
  have h1 : i * n ≤ 28 * 28 := Nat.mul_le_mul (by omega) hn
  have h2 : (i * n + j) * n ≤ (28 * 28 + 28) * 28 := Nat.mul_le_mul (by omega) hn
  have h3 := nidx_lt hi hj
  refine ⟨i * n, i * n + j, (i * n + j) * n, (i * n + j) * n + k, rfl, by omega, ?_, ?_, ?_, ?_⟩
  · rw [← Int.natCast_mul]; exact wrap_in (by omega) (by omega)
  · rw [← Int.natCast_add]; exact wrap_in (by omega) (by omega)
  · rw [← Int.natCast_mul]; exact wrap_in (by omega) (by omega)
  · rw [← Int.natCast_add]; exact wrap_in (by omega) (by omega)
theorem idx3b {n a i j k : Nat} (hn : n ≤ 28) (hi : a + i < n) (hj : a + j < n) (hk : a + k < n) : ∃ y1 y2 y3 y4 y5 y6 t : Nat, ((a + i) * n + (a + j)) * n + (a + k) = t ∧ t < n * n * n ∧ IntKind.i64.wrap ((a : Int) + i) = y1 ∧ IntKind.i64.wrap ((y1 : Int) * n) = y2 ∧ IntKind.i64.wrap ((y2 : Int) + a) = y3 ∧ IntKind.i64.wrap ((y3 : Int) + j) = y4 ∧ IntKind.i64.wrap ((y4 : Int) * n) = y5 ∧ IntKind.i64.wrap ((y5 : Int) + a) = y6 ∧ IntKind.i64.wrap ((y6 : Int) + k) = t := by
  have h1 : (a + i) * n ≤ 28 * 28 := Nat.mul_le_mul (by omega) hn
  have h2 : ((a + i) * n + a + j) * n ≤ (28 * 28 + 28) * 28 := Nat.mul_le_mul (by omega) hn
  have h3 := nidx_lt hi hj
  rw [← Nat.add_assoc ((a + i) * n) a j] at h3
  refine ⟨a + i, (a + i) * n, (a + i) * n + a, (a + i) * n + a + j, ((a + i) * n + a + j) * n, ((a + i) * n + a + j) * n + a, ((a + i) * n + a + j) * n + a + k, by rw [← Nat.add_assoc ((a + i) * n) a j, Nat.add_assoc _ a k], by omega, ?_, ?_, ?_, ?_, ?_, ?_, ?_⟩
  · rw [← Int.natCast_add]; exact wrap_in (by omega) (by omega)
  · rw [← Int.natCast_mul]; exact wrap_in (by omega) (by omega)
  · rw [← Int.natCast_add]; exact wrap_in (by omega) (by omega)
  · rw [← Int.natCast_add]; exact wrap_in (by omega) (by omega)
  · rw [← Int.natCast_mul]; exact wrap_in (by omega) (by omega)
  · rw [← Int.natCast_add]; exact wrap_in (by omega) (by omega)
  · rw [← Int.natCast_add]; exact wrap_in (by omega) (by omega)
set_option maxRecDepth 100000 in
set_option maxHeartbeats 8000000 in
theorem l2Sum_any (p p' : Int) (a b : Nat) (aa ab : Option Addr) (Na ca Nb cb : Nat) (ta tb : List Int) (w : World) (ha : IntsAt w aa Na ta) (hb : IntsAt w ab Nb tb) (hNa : Na = a * a * a) (hNb : Nb = b * b * b) (hn : a + b ≤ 28) :
    Calls Tryz.prog 147 #[algV p a aa Na ca, algV p' b ab Nb cb] w fun e w' => ∃ a' N T, e = .returned (algV p (a + b : Nat) a' N N) ∧ OwnI w' w.heap.size a' N N T ∧ T.length = (a + b) * (a + b) * (a + b) ∧ (∀ i j m, i < a + b → j < a + b → m < a + b → tab T (a + b) i j m = sumE ta tb a b i j m) ∧ Ext w w' := by
  have hx1 := Ext.alloc w (.cells #[.int .i64 p, .int .i64 (a : Int), .slice aa Na ca] 26)
  have hv1 := AlgVar.new w p a aa Na ca 26
  have s1 : (w.alloc (.cells #[.int .i64 p, .int .i64 (a : Int), .slice aa Na ca] 26)).heap.size = w.heap.size + 1 := by simp
  obtain ⟨w1, hw1⟩ : ∃ w1, w1 = w.alloc (.cells #[.int .i64 p, .int .i64 (a : Int), .slice aa Na ca] 26) := ⟨_, rfl⟩
  rw [← hw1] at hx1 hv1 s1
  have hx2 := Ext.alloc w1 (.cells #[.int .i64 p', .int .i64 (b : Int), .slice ab Nb cb] 26)
  have hv2 := AlgVar.new w1 p' b ab Nb cb 26
  have s2 : (w1.alloc (.cells #[.int .i64 p', .int .i64 (b : Int), .slice ab Nb cb] 26)).heap.size = w.heap.size + 1 + 1 := by simp [s1]
  rw [s1] at hv2
  obtain ⟨w2, hw2⟩ : ∃ w2, w2 = w1.alloc (.cells #[.int .i64 p', .int .i64 (b : Int), .slice ab Nb cb] 26) := ⟨_, rfl⟩
  rw [← hw2] at hx2 hv2 s2
  have hx3 := Ext.alloc w2 (.cells #[.int .i64 0, .int .i64 0, .slice none 0 0] 26)
  have hv3 := AlgVar.new w2 0 0 none 0 0 26
  have s3 : (w2.alloc (.cells #[.int .i64 0, .int .i64 0, .slice none 0 0] 26)).heap.size = w.heap.size + 1 + 1 + 1 := by simp [s2]
  rw [s2] at hv3
  obtain ⟨w3, hw3⟩ : ∃ w3, w3 = w2.alloc (.cells #[.int .i64 0, .int .i64 0, .slice none 0 0] 26) := ⟨_, rfl⟩
  rw [← hw3] at hx3 hv3 s3
  have HW1 : Hid (w.alloc (.cells #[.int .i64 p, .int .i64 (a : Int), .slice aa Na ca] 26) = w1) := hw1.symm
  have HW2 : Hid (w1.alloc (.cells #[.int .i64 p', .int .i64 (b : Int), .slice ab Nb cb] 26) = w2) := hw2.symm
  have HW3 : Hid (w2.alloc (.cells #[.int .i64 0, .int .i64 0, .slice none 0 0] 26) = w3) := hw3.symm
  have HV1 := hidP ((hv1.below hx2).below hx3)
  have HV2 := hidP (hv2.below hx3)
  have HV3 := hidP hv3
  have hX := hx1.trans (hx2.trans hx3)
  have HX3 := hidP hX
  have HA3 := hidP (ha.below hX)
  have HB3 := hidP (hb.below hX)
  have HbA : Hid (∀ b o, aa = some ⟨b, o, none⟩ → 0 < Na → b < w.heap.size) := fun b o e h0 => by subst e; exact ha.block_lt h0
  have HbB : Hid (∀ b o, ab = some ⟨b, o, none⟩ → 0 < Nb → b < w.heap.size) := fun b o e h0 => by subst e; exact hb.block_lt h0
  have HNa := hidP hNa
  have HNb := hidP hNb
  have HS3 := hidP s3
  have hnN : (a + b) * (a + b) * (a + b) ≤ 28 * 28 * 28 := Nat.mul_le_mul (Nat.mul_le_mul hn hn) hn
  have hab : (a : Int) + (b : Int) = ((a + b : Nat) : Int) := by rw [Int.natCast_add]
  have e1 : IntKind.i64.wrap ((a : Int) + (b : Int)) = ((a + b : Nat) : Int) := by rw [← hab]; exact wrap_in (by omega) (by omega)
  have hT0 := TabD.zero (a + b) (sumE ta tb a b)
  have hNN : (a + b) * (a + b) ≤ 28 * 28 := Nat.mul_le_mul hn hn
  obtain ⟨n, hnd⟩ : ∃ n, n = a + b := ⟨_, rfl⟩
  rw [← hnd] at e1 hT0 hnN hNN ⊢
  have HND := hidP hnd
  have e2 : IntKind.i64.wrap ((n : Int) * n) = ((n * n : Nat) : Int) := by rw [Int.natCast_mul]; exact wrap_in (by rw [← Int.natCast_mul]; omega) (by rw [← Int.natCast_mul]; omega)
  have e3 : IntKind.i64.wrap (((n * n : Nat) : Int) * n) = ((n * n * n : Nat) : Int) := by rw [← Int.natCast_mul]; exact wrap_in (by omega) (by omega)
  obtain ⟨N, hN⟩ : ∃ N, N = n * n * n := ⟨_, rfl⟩
  have HN := hidP hN
  rw [← hN] at e3 hT0 hnN
  generalize hM : n * n = M at e2 e3
  have HMq := hidP hM
  have HT0 := hidP hT0
  have hmk := make_ints N (by omega) (by omega) w3.drew
  have HM0 := hidP (OwnI.made w3.drew w3.heap.size N (Nat.le_refl _) (by unfold maxLen; omega))
  have hx4 : Ext w3 (w3.drew.alloc (.cells (Array.replicate N (.int .i64 0)) 3)) := (Ext.drew w3).trans (Ext.alloc _ _)
  simp only [Int.toNat_natCast] at hmk
  clear hx1 hx2 hx3 hX hv1 hv2 hv3 s1 s2 s3 hw1 hw2 hw3 ha hb hNa hNb hnd hN hM hT0 hab hNN
  go_enter Tryz.func147, Tryz.ntmps147
  go_wp2_with fail
  rw [HW1.out, HW2.out, HW3.out]
  clear HW1 HW2 HW3
  have hE : Ext w3 w3.drew := Ext.drew w3
  (refine walkR_start (fun w' => Ext w3 w') 11 (by kernel_rfl) ?_; simp only [numbered, List.take_succ_cons, List.take_zero, Nat.zero_add, Nat.reduceAdd, List.length_cons, List.length_nil])
  (repeat (first | (refine walkR_still (v := ?_) rfl (by decide +kernel) rfl (fun _ _ _ h => h) hE ?_ ?_; rotate_left; (focus (intro w' hw'; obtain ⟨⟨x0, x1, x2⟩, _⟩ := HV1.out.below hw'; go_simp; all_goals (with_reducible rfl))); simp only [Act.put, List.setIfInBounds_toArray, List.set_cons_zero, List.set_cons_succ]) | (refine walkR_skip rfl (by decide +kernel) rfl (fun _ _ _ h => h) hE ?_; simp only [Act.put, List.setIfInBounds_toArray, List.set_cons_zero, List.set_cons_succ])))
  have hmi := fun w' => make_ints (N : Int) (by omega) (by omega) w'
  simp only [Int.toNat_natCast] at hmi
  have hown : ∀ w', Ext w3 w' → OwnI (w'.alloc (.cells (Array.replicate N (.int .i64 0)) 3)) w3.heap.size (some ⟨w'.heap.size, 0, none⟩) N N (List.replicate N 0) := fun w' hx => (OwnI.made w' w'.heap.size N (Nat.le_refl _) (by unfold maxLen; omega)).base hx.size
  have hvar : ∀ w' : World, AlgVar (w'.alloc (.cells #[.int .i64 0, .int .i64 0, .slice none 0 0] 26)) w'.heap.size 0 0 none 0 0 := fun w' => AlgVar.new w' 0 0 none 0 0 26
  have HOwn := hidP hown
  have HVar := hidP hvar
  clear hmk hown hvar HM0 hx4
  refine walkR_three (fun v w' => ∃ g, v = .slice (some ⟨g, 0, none⟩) N N ∧ OwnI w' w3.heap.size (some ⟨g, 0, none⟩) N N (List.replicate N 0) ∧ g < w'.heap.size) (fun v u w' => ∃ g, v = .slice (some ⟨g, 0, none⟩) N N ∧ u = .agg #[.int .i64 p, .int .i64 n, .slice (some ⟨g, 0, none⟩) N N] ∧ OwnI w' w3.heap.size (some ⟨g, 0, none⟩) N N (List.replicate N 0) ∧ g < w'.heap.size) (fun z w' => ∃ b, z = .pointer (some ⟨b, 0, none⟩) ∧ AlgVar w' b 0 0 none 0 0 ∧ w3.heap.size ≤ b) (fun v z w' => ∃ g b, v = .slice (some ⟨g, 0, none⟩) N N ∧ z = .pointer (some ⟨b, 0, none⟩) ∧ OwnI w' w3.heap.size (some ⟨g, 0, none⟩) N N (List.replicate N 0) ∧ AlgVar w' b 0 0 none 0 0 ∧ w3.heap.size ≤ b ∧ b ≠ g) (fun v u z w' => ∃ g b, v = .slice (some ⟨g, 0, none⟩) N N ∧ u = .agg #[.int .i64 p, .int .i64 n, .slice (some ⟨g, 0, none⟩) N N] ∧ z = .pointer (some ⟨b, 0, none⟩) ∧ OwnI w' w3.heap.size (some ⟨g, 0, none⟩) N N (List.replicate N 0) ∧ AlgVar w' b 0 0 none 0 0 ∧ w3.heap.size ≤ b ∧ b ≠ g) rfl rfl rfl (by decide +kernel) rfl rfl rfl (by decide) (by decide) (fun _ => rfl) (fun _ => rfl) (fun _ => rfl) ?_ ?_ ?_ ?_ ?_ ?_ ?_ ?_
  · intro K hK
    go_simp
    exact hK _ _ (Below.drew (Ext.alloc w3 _)) ⟨_, rfl, (HOwn.out w3 (Ext.refl _)).below (Ext.drew _), by simp [World.drew]⟩
  · rintro v w4 hx4 ⟨g, rfl, ho, hg⟩ K hK
    go_simp
    exact hK _ _ hx4 ⟨g, rfl, rfl, ho, hg⟩
  · rintro v u w4 hx4 ⟨g, rfl, rfl, ho, hg⟩ K hK
    go_simp
    exact hK _ _ (hx4.trans (Ext.alloc w4 _)) ⟨g, _, rfl, rfl, rfl, ho.below (Ext.alloc w4 _), HVar.out w4, hx4.size, by omega⟩
  · rintro v w4 hx4 ⟨g, rfl, ho, hg⟩ K hK
    go_simp
    exact hK _ _ (hx4.trans (Ext.alloc w4 _)) ⟨g, _, rfl, rfl, ho.below (Ext.alloc w4 _), HVar.out w4, hx4.size, by omega⟩
  · rintro v z w4 hx4 ⟨g, b, rfl, rfl, ho, hv, hb, hne⟩ K hK
    go_simp
    exact hK _ _ hx4 ⟨g, b, rfl, rfl, rfl, ho, hv, hb, hne⟩
  · intro K hK
    go_simp
    exact hK _ _ (Below.drew (Ext.alloc w3 _)) ⟨_, rfl, (HVar.out w3).below (Ext.drew _), Nat.le_refl _⟩
  · rintro z w4 hx4 ⟨b, rfl, hv, hb⟩ K hK
    go_simp
    exact hK _ _ (hx4.trans (Ext.alloc w4 _)) ⟨_, b, rfl, rfl, HOwn.out w4 hx4, hv.below (Ext.alloc w4 _), hb, by have : b < w4.heap.size := World.block_lt_of_cell? w4 ⟨b, 0, none⟩ hv.at_.c0; omega⟩
  · rintro v u z w4 hx4 ⟨g, bm, rfl, rfl, rfl, ho4, hv4, hb4, hne4⟩
    (try simp only [Act.put, List.setIfInBounds_toArray, List.set_cons_zero, List.set_cons_succ])
    (refine walkR_tail (by rfl) (by kernel_rfl) ?_; simp only [List.drop_succ_cons, List.drop_zero])
    have hvm := hv4
    obtain ⟨⟨z0, z1, z2⟩, zf⟩ := hv4
    have zf0 := zf 0
    have zf1 := zf 1
    have zf2 := zf 2
    clear zf
    have hg4 := set3_gb w4 bm (.int .i64 p) (.int .i64 (n : Int)) (.slice (some ⟨g, 0, none⟩) N N)
    have HVm := hidP (hvm.set p n (some ⟨g, 0, none⟩) N N)
    have hOd := ho4.grown hg4 (fun b o e => by cases e; simpa using Ne.symm hne4)
    have hXd : Ext w3 (set3 w4 bm (.int .i64 p) (.int .i64 (n : Int)) (.slice (some ⟨g, 0, none⟩) N N)) := Below.grown hx4 hg4 hx4.size fun j hj => by cases hj; exact hb4
    obtain ⟨wd, hwd⟩ : ∃ wd, wd = set3 w4 bm (.int .i64 p) (.int .i64 (n : Int)) (.slice (some ⟨g, 0, none⟩) N N) := ⟨_, rfl⟩
    rw [← hwd] at HVm hOd hXd
    have HWd : Hid (((w4.setCell ⟨bm, 0, none⟩ (.int .i64 p)).setCell ⟨bm, 1, none⟩ (.int .i64 (n : Int))).setCell ⟨bm, 2, none⟩ (.slice (some ⟨g, 0, none⟩) N N) = wd) := hwd.symm
    have hgH : w.heap.size + 1 + 1 < g := by
      have h1 := (hOd.at_base g 0 rfl).1
      have h2 := HS3.out
      omega
    have HOd := hidP hOd
    have HXd := hidP hXd
    have HV1d := hidP (HV1.out.below hXd)
    have HV2d := hidP (HV2.out.below hXd)
    have HV3d := hidP (HV3.out.below hXd)
    have HAd := hidP (HA3.out.below hXd)
    have HBd := hidP (HB3.out.below hXd)
    obtain ⟨H, hH⟩ : ∃ H, H = w.heap.size := ⟨_, rfl⟩
    have HH := hidP hH
    rw [← hH] at HV1d HV2d HV3d hgH HbA HbB
    have hne : ∀ (ax : Option Addr) (Nx : Nat) (X : List Int), Hid (∀ b o, ax = some ⟨b, o, none⟩ → 0 < Nx → b < H) → IntsAt wd ax Nx X → ∀ wr ys, UpdI wd wr (some ⟨g, 0, none⟩) N ys → IntsAt wr ax Nx X := by
      intro ax Nx X hb hi wr ys hu
      rcases Nat.eq_zero_or_pos Nx with h0 | h0
      · subst h0
        exact ⟨hi.len, fun i h => by omega⟩
      · exact hu.others hi fun b o b' o' e e' => by
          cases e
          have h2 := hb.out b' o' e' h0
          omega
    have HAr := hidP (fun wr ys hu => hne aa Na ta HbA HAd.out wr ys hu)
    have HBr := hidP (fun wr ys hu => hne ab Nb tb HbB HBd.out wr ys hu)
    have HMs : Hid (∀ wr ys, UpdI wd wr (some ⟨g, 0, none⟩) N ys → AlgAt wr H p a aa Na ca ∧ AlgAt wr (H + 1) p' b ab Nb cb ∧ AlgAt wr bm p n (some ⟨g, 0, none⟩) N N ∧ AlgVar wr (H + 1 + 1) 0 0 none 0 0) := by
      intro wr ys hu
      refine ⟨HV1d.out.at_.upd hu (fun b o e => by cases e; omega), HV2d.out.at_.upd hu (fun b o e => by cases e; omega), HVm.out.at_.upd hu (fun b o e => by cases e; exact hne4), HV3d.out.at_.upd hu (fun b o e => by cases e; omega), fun j => ?_⟩
      have hl : H + 1 + 1 < wd.heap.size := World.block_lt_of_cell? wd ⟨H + 1 + 1, 0, none⟩ HV3d.out.at_.c0
      rw [World.frozen?_of_block (a := ⟨H + 1 + 1, j, none⟩) (hu.other (H + 1 + 1) hl fun b o e _ => by cases e; omega)]
      exact HV3d.out.fz j
    have HU0 : Hid (∃ T, UpdI wd wd (some ⟨g, 0, none⟩) N T ∧ TabD n (sumE ta tb a b) (sumD1 a 0 0 0) T) := ⟨_, UpdI.start hOd.ints, HT0.out.congr fun x y z _ _ _ => sumD1_zero a x y z⟩
    clear hne hg4 hOd hXd hwd ho4 hvm hx4 hb4
    go_wp2
    rw [HWd.out]
    clear HWd z0 z1 z2 zf0 zf1 zf2
    rw [← hH]
    clear hH
    go_loopw [7] (fun v7 wr => ∃ i : Nat, i ≤ a ∧ v7 = .int .i64 i ∧ Hid (∃ T, UpdI wd wr (some ⟨g, 0, none⟩) N T ∧ TabD n (sumE ta tb a b) (sumD1 a i 0 0) T)) (fun v7 _ => a - (intOf v7).toNat)
    case atStart => exact ⟨0, Nat.zero_le _, rfl, HU0⟩
    case round =>
      clear HU0
      obtain ⟨i, hi, rfl, HU⟩ := hrel
      obtain ⟨T, hu, hT⟩ := HU.out
      obtain ⟨⟨m0, m1, m2⟩, ⟨q0, q1, q2⟩, _, _⟩ := HMs.out wr _ hu
      clear hu hT
      by_cases hin : i < a
      · have hiI : (i : Int) < (a : Int) := by omega
        go_wp2
        go_loopw [8] (fun v7 wr => ∃ j : Nat, j ≤ a ∧ v7 = .int .i64 j ∧ Hid (∃ T, UpdI wd wr (some ⟨g, 0, none⟩) N T ∧ TabD n (sumE ta tb a b) (sumD1 a i j 0) T)) (fun v7 _ => a - (intOf v7).toNat)
        case atStart => exact ⟨0, Nat.zero_le _, rfl, HU⟩
        case round =>
          clear HU m0 m1 m2 q0 q1 q2
          obtain ⟨j, hj, rfl, HU⟩ := hrel
          obtain ⟨T, hu, hT⟩ := HU.out
          obtain ⟨⟨m0, m1, m2⟩, ⟨q0, q1, q2⟩, _, _⟩ := HMs.out wr _ hu
          clear hu hT
          by_cases hjn : j < a
          · have hjI : (j : Int) < (a : Int) := by omega
            go_wp2
            go_loopw [9] (fun v7 wr => ∃ k : Nat, k ≤ a ∧ v7 = .int .i64 k ∧ Hid (∃ T, UpdI wd wr (some ⟨g, 0, none⟩) N T ∧ TabD n (sumE ta tb a b) (sumD1 a i j k) T)) (fun v7 _ => a - (intOf v7).toNat)
            case atStart => exact ⟨0, Nat.zero_le _, rfl, HU⟩
            case round =>
              clear HU m0 m1 m2 q0 q1 q2
              obtain ⟨k, hk, rfl, HU⟩ := hrel
              obtain ⟨T, hu, hT⟩ := HU.out
              obtain ⟨⟨m0, m1, m2⟩, ⟨q0, q1, q2⟩, _, _⟩ := HMs.out wr _ hu
              by_cases hkn : k < a
              · have hkI : (k : Int) < (a : Int) := by omega
                have hi2 := HAr.out wr _ hu
                have hpos : 0 < a * a * a := Nat.mul_pos (Nat.mul_pos (by omega) (by omega)) (by omega)
                obtain ⟨bA, oA, eA, _⟩ := hi2.get 0 (by have := HNa.out; omega)
                have HGet : Hid (∀ w', Ext wr w' → Calls Tryz.prog 177 #[algV p a aa Na ca, .int .i64 i, .int .i64 j, .int .i64 k] w' fun e w'' => e = .returned (.int .i64 (tab ta a i j k)) ∧ Ext w' w'') := by
                  intro w' hx
                  rw [eA] at hi2 ⊢
                  exact l2Get_any p a i j k bA oA Na ca ta w' (hi2.below hx) (by omega) hin hjn hkn HNa.out
                clear hi2 hpos eA
                have hstp := hT.step (X := i) (Y := j) (Z := k) (by have := HND.out; omega) (by have := HND.out; omega) (by have := HND.out; omega) (D' := sumD1 a i j (k + 1)) (fun x y z _ _ _ => sumD1_step hin hjn hkn x y z)
                rw [sumE_one hin hjn hkn] at hstp
                obtain ⟨y1, y2, y3, t, ht, htN, f1, f2, f3, f4⟩ := idx3 (n := n) (i := i) (j := j) (k := k) (by have := HND.out; omega) (by have := HND.out; omega) (by have := HND.out; omega) (by have := HND.out; omega)
                rw [ht] at hstp
                rw [← HN.out] at htN
                generalize tab ta a i j k = x at *
                have hu2 := hu.store t htN x
                rw [Nat.zero_add] at hu2
                have HU2 : Hid (∃ T, UpdI wd (wr.setCell ⟨g, t, none⟩ (.int .i64 x)) (some ⟨g, 0, none⟩) N T ∧ TabD n (sumE ta tb a b) (sumD1 a i j (k + 1)) T) := ⟨_, hu2, hstp⟩
                have HUe : Hid (∀ w', Ext wr w' → ∃ T, UpdI wd (w'.setCell ⟨g, t, none⟩ (.int .i64 x)) (some ⟨g, 0, none⟩) N T ∧ TabD n (sumE ta tb a b) (sumD1 a i j (k + 1)) T) := fun w' hx => ⟨_, by
                  have := (hu.ext hx).store t htN x
                  rwa [Nat.zero_add] at this, hstp⟩
                have HMr := hidP (fun w' (hx : Ext wr w') => HMs.out w' _ (hu.ext hx))
                have HC4 := hidP (fun w' (hx : Ext wr w') => (hu.ext hx).place HOd.out htN)
                have htI2 : (t : Int) < (N : Int) := by omega
                have ht0 : (0 : Int) ≤ (t : Int) := by omega
                have hE : Ext wr wr.drew := Ext.drew wr
                clear hu hT hstp hu2 HU2 ht htN HU
                go_wp2
                clear m0 m1 m2 q0 q1 q2
                (refine walkR_start (fun w' => Ext wr w') 16 (by kernel_rfl) ?_; simp only [numbered, List.take_succ_cons, List.take_zero, Nat.zero_add, Nat.reduceAdd, List.length_cons, List.length_nil])
                (repeat (first | (refine walkR_still (v := ?_) rfl (by decide +kernel) rfl (fun _ _ _ h => h) hE ?_ ?_; rotate_left; (focus (intro w' hw'; obtain ⟨⟨⟨x0, x1, x2⟩, ⟨r0, r1, r2⟩, ⟨s0, s1, s2⟩, _⟩, k0, k1⟩ := And.intro (HMr.out w' hw') (HC4.out w' hw'); go_simp; all_goals (with_reducible rfl))); simp only [Act.put, List.setIfInBounds_toArray, List.set_cons_zero, List.set_cons_succ]) | (refine walkR_skip rfl (by decide +kernel) rfl (fun _ _ _ h => h) hE ?_; simp only [Act.put, List.setIfInBounds_toArray, List.set_cons_zero, List.set_cons_succ])))
                (refine walkR_only (fun w' => Ext wr w') rfl (by decide +kernel) rfl (fun _ h => h) ?_; intro K hK; go_simp; refine (HGet.out _ hE).mono ?_; rintro e w7 ⟨rfl, hx7⟩; refine hK _ _ (hE.trans hx7) ?_; clear hK K; (try simp only [Act.put, List.setIfInBounds_toArray, List.set_cons_zero, List.set_cons_succ]))
                have HX7 := hidP (hE.trans hx7)
                obtain ⟨⟨⟨x0, x1, x2⟩, ⟨r0, r1, r2⟩, ⟨s0, s1, s2⟩, _⟩, k0, k1⟩ := And.intro (HMr.out w7 HX7.out) (HC4.out w7 HX7.out)
                (refine walkR_tail (by rfl) (by kernel_rfl) ?_; simp only [List.drop_succ_cons, List.drop_zero])
                have HU3 := hidP (HUe.out w7 HX7.out)
                clear HUe HMr HC4 HGet hx7 hE x0 x1 x2 r0 r1 r2 s0 s1 s2
                go_wp2
                go_roundw
                case rel => exact ⟨k + 1, by omega, by go_num, HU3⟩
                case measure => simp [intOf]; omega
              · obtain rfl : a = k := by omega
                have HU2 : Hid (∃ T, UpdI wd wr (some ⟨g, 0, none⟩) N T ∧ TabD n (sumE ta tb a b) (sumD1 a i (j + 1) 0) T) := ⟨_, hu, hT.congr fun x y z _ _ hz => sumD1_row x y z⟩
                clear hu hT
                go_wp2
                go_roundw
                case rel => exact ⟨j + 1, by omega, by go_num, HU2⟩
                case measure => simp [intOf]; omega
          · obtain rfl : a = j := by omega
            obtain ⟨T, hu, hT⟩ := HU.out
            have HU2 : Hid (∃ T, UpdI wd wr (some ⟨g, 0, none⟩) N T ∧ TabD n (sumE ta tb a b) (sumD1 a (i + 1) 0 0) T) := ⟨_, hu, hT.congr fun x y z _ hy hz => sumD1_next x y z⟩
            clear hu hT
            go_wp2
            go_roundw
            case rel => exact ⟨i + 1, by omega, by go_num, HU2⟩
            case measure => simp [intOf]; omega
      · obtain rfl : a = i := by omega
        obtain ⟨T, hu, hT⟩ := HU.out
        have HU2 : Hid (∃ T, UpdI wd wr (some ⟨g, 0, none⟩) N T ∧ TabD n (sumE ta tb a b) (sumD2 a 0 0 0) T) := ⟨_, hu, hT.congr fun x y z _ _ _ => sumD2_zero a x y z⟩
        clear hu hT HU
        go_wp2
        clear m0 m1 m2 q0 q1 q2
        have HU := HU2
        clear HU2
        go_loopw [10] (fun v7 wr => ∃ i : Nat, i ≤ b ∧ v7 = .int .i64 i ∧ Hid (∃ T, UpdI wd wr (some ⟨g, 0, none⟩) N T ∧ TabD n (sumE ta tb a b) (sumD2 a i 0 0) T)) (fun v7 _ => b - (intOf v7).toNat)
        case atStart => exact ⟨0, Nat.zero_le _, rfl, HU⟩
        case round =>
          clear HU
          obtain ⟨i, hi, rfl, HU⟩ := hrel
          obtain ⟨T, hu, hT⟩ := HU.out
          obtain ⟨⟨m0, m1, m2⟩, ⟨q0, q1, q2⟩, _, _⟩ := HMs.out wr _ hu
          clear hu hT
          by_cases hin : i < b
          · have hiI : (i : Int) < (b : Int) := by omega
            go_wp2
            go_loopw [11] (fun v7 wr => ∃ j : Nat, j ≤ b ∧ v7 = .int .i64 j ∧ Hid (∃ T, UpdI wd wr (some ⟨g, 0, none⟩) N T ∧ TabD n (sumE ta tb a b) (sumD2 a i j 0) T)) (fun v7 _ => b - (intOf v7).toNat)
            case atStart => exact ⟨0, Nat.zero_le _, rfl, HU⟩
            case round =>
              clear HU m0 m1 m2 q0 q1 q2
              obtain ⟨j, hj, rfl, HU⟩ := hrel
              obtain ⟨T, hu, hT⟩ := HU.out
              obtain ⟨⟨m0, m1, m2⟩, ⟨q0, q1, q2⟩, _, _⟩ := HMs.out wr _ hu
              clear hu hT
              by_cases hjn : j < b
              · have hjI : (j : Int) < (b : Int) := by omega
                go_wp2
                go_loopw [12] (fun v7 wr => ∃ k : Nat, k ≤ b ∧ v7 = .int .i64 k ∧ Hid (∃ T, UpdI wd wr (some ⟨g, 0, none⟩) N T ∧ TabD n (sumE ta tb a b) (sumD2 a i j k) T)) (fun v7 _ => b - (intOf v7).toNat)
                case atStart => exact ⟨0, Nat.zero_le _, rfl, HU⟩
                case round =>
                  clear HU m0 m1 m2 q0 q1 q2
                  obtain ⟨k, hk, rfl, HU⟩ := hrel
                  obtain ⟨T, hu, hT⟩ := HU.out
                  obtain ⟨⟨m0, m1, m2⟩, ⟨q0, q1, q2⟩, _, _⟩ := HMs.out wr _ hu
                  by_cases hkn : k < b
                  · have hkI : (k : Int) < (b : Int) := by omega
                    have hi2 := HBr.out wr _ hu
                    have hpos : 0 < b * b * b := Nat.mul_pos (Nat.mul_pos (by omega) (by omega)) (by omega)
                    obtain ⟨bA, oA, eA, _⟩ := hi2.get 0 (by have := HNb.out; omega)
                    have HGet : Hid (∀ w', Ext wr w' → Calls Tryz.prog 177 #[algV p' b ab Nb cb, .int .i64 i, .int .i64 j, .int .i64 k] w' fun e w'' => e = .returned (.int .i64 (tab tb b i j k)) ∧ Ext w' w'') := by
                      intro w' hx
                      rw [eA] at hi2 ⊢
                      exact l2Get_any p' b i j k bA oA Nb cb tb w' (hi2.below hx) (by omega) hin hjn hkn HNb.out
                    clear hi2 hpos eA
                    have hstp := hT.step (X := a + i) (Y := a + j) (Z := a + k) (by have := HND.out; omega) (by have := HND.out; omega) (by have := HND.out; omega) (D' := sumD2 a i j (k + 1)) (fun x y z _ _ _ => sumD2_step x y z)
                    rw [sumE_two] at hstp
                    obtain ⟨y1, y2, y3, y4, y5, y6, t, ht, htN, f1, f2, f3, f4, f5, f6, f7⟩ := idx3b (n := n) (a := a) (i := i) (j := j) (k := k) (by have := HND.out; omega) (by have := HND.out; omega) (by have := HND.out; omega) (by have := HND.out; omega)
                    rw [ht] at hstp
                    rw [← HN.out] at htN
                    generalize tab tb b i j k = x at *
                    have hu2 := hu.store t htN x
                    rw [Nat.zero_add] at hu2
                    have HU2 : Hid (∃ T, UpdI wd (wr.setCell ⟨g, t, none⟩ (.int .i64 x)) (some ⟨g, 0, none⟩) N T ∧ TabD n (sumE ta tb a b) (sumD2 a i j (k + 1)) T) := ⟨_, hu2, hstp⟩
                    have HUe : Hid (∀ w', Ext wr w' → ∃ T, UpdI wd (w'.setCell ⟨g, t, none⟩ (.int .i64 x)) (some ⟨g, 0, none⟩) N T ∧ TabD n (sumE ta tb a b) (sumD2 a i j (k + 1)) T) := fun w' hx => ⟨_, by
                      have := (hu.ext hx).store t htN x
                      rwa [Nat.zero_add] at this, hstp⟩
                    have HMr := hidP (fun w' (hx : Ext wr w') => HMs.out w' _ (hu.ext hx))
                    have HC4 := hidP (fun w' (hx : Ext wr w') => (hu.ext hx).place HOd.out htN)
                    have htI2 : (t : Int) < (N : Int) := by omega
                    have ht0 : (0 : Int) ≤ (t : Int) := by omega
                    have hE : Ext wr wr.drew := Ext.drew wr
                    clear hu hT hstp hu2 HU2 ht htN HU
                    go_wp2
                    clear m0 m1 m2 q0 q1 q2
                    (refine walkR_start (fun w' => Ext wr w') 25 (by kernel_rfl) ?_; simp only [numbered, List.take_succ_cons, List.take_zero, Nat.zero_add, Nat.reduceAdd, List.length_cons, List.length_nil])
                    (repeat (first | (refine walkR_still (v := ?_) rfl (by decide +kernel) rfl (fun _ _ _ h => h) hE ?_ ?_; rotate_left; (focus (intro w' hw'; obtain ⟨⟨⟨x0, x1, x2⟩, ⟨r0, r1, r2⟩, ⟨s0, s1, s2⟩, _⟩, k0, k1⟩ := And.intro (HMr.out w' hw') (HC4.out w' hw'); go_simp; all_goals (with_reducible rfl))); simp only [Act.put, List.setIfInBounds_toArray, List.set_cons_zero, List.set_cons_succ]) | (refine walkR_skip rfl (by decide +kernel) rfl (fun _ _ _ h => h) hE ?_; simp only [Act.put, List.setIfInBounds_toArray, List.set_cons_zero, List.set_cons_succ])))
                    (refine walkR_only (fun w' => Ext wr w') rfl (by decide +kernel) rfl (fun _ h => h) ?_; intro K hK; go_simp; refine (HGet.out _ hE).mono ?_; rintro e w7 ⟨rfl, hx7⟩; refine hK _ _ (hE.trans hx7) ?_; clear hK K; (try simp only [Act.put, List.setIfInBounds_toArray, List.set_cons_zero, List.set_cons_succ]))
                    have HX7 := hidP (hE.trans hx7)
                    obtain ⟨⟨⟨x0, x1, x2⟩, ⟨r0, r1, r2⟩, ⟨s0, s1, s2⟩, _⟩, k0, k1⟩ := And.intro (HMr.out w7 HX7.out) (HC4.out w7 HX7.out)
                    (refine walkR_tail (by rfl) (by kernel_rfl) ?_; simp only [List.drop_succ_cons, List.drop_zero])
                    have HU3 := hidP (HUe.out w7 HX7.out)
                    clear HUe HMr HC4 HGet hx7 hE x0 x1 x2 r0 r1 r2 s0 s1 s2
                    go_wp2
                    go_roundw
                    case rel => exact ⟨k + 1, by omega, by go_num, HU3⟩
                    case measure => simp [intOf]; omega
                  · obtain rfl : b = k := by omega
                    have HU2 : Hid (∃ T, UpdI wd wr (some ⟨g, 0, none⟩) N T ∧ TabD n (sumE ta tb a b) (sumD2 a i (j + 1) 0) T) := ⟨_, hu, hT.congr fun x y z _ _ hz => sumD2_row (b := b) x y z (by have := HND.out; omega)⟩
                    clear hu hT
                    go_wp2
                    go_roundw
                    case rel => exact ⟨j + 1, by omega, by go_num, HU2⟩
                    case measure => simp [intOf]; omega
              · obtain rfl : b = j := by omega
                obtain ⟨T, hu, hT⟩ := HU.out
                have HU2 : Hid (∃ T, UpdI wd wr (some ⟨g, 0, none⟩) N T ∧ TabD n (sumE ta tb a b) (sumD2 a (i + 1) 0 0) T) := ⟨_, hu, hT.congr fun x y z _ hy hz => sumD2_next (b := b) x y z (by have := HND.out; omega) (by have := HND.out; omega)⟩
                clear hu hT
                go_wp2
                go_roundw
                case rel => exact ⟨i + 1, by omega, by go_num, HU2⟩
                case measure => simp [intOf]; omega
          · obtain rfl : b = i := by omega
            obtain ⟨T, hu, hT⟩ := HU.out
            obtain ⟨_, _, ⟨s0, s1, s2⟩, hv⟩ := HMs.out wr _ hu
            have HT := hidP hT
            have HO := hidP (hu.own HOd.out)
            have HX := hidP (hu.below HXd.out HXd.out.size (fun b o e _ => (HOd.out.at_base b o e).1))
            have HSt := hidP (hv.set p n (some ⟨g, 0, none⟩) N N)
            obtain ⟨⟨z0, z1, z2⟩, zf⟩ := hv
            have zf0 := zf 0
            have zf1 := zf 1
            have zf2 := zf 2
            clear hu hT zf HU
            go_wp2
            obtain ⟨⟨r0, r1, r2⟩, _⟩ := HSt.out
            unfold set3 at r0 r1 r2
            have hlt : H + 1 + 1 < w3.heap.size := by have h1 := HS3.out; have h2 := HH.out; omega
            have hle : w.heap.size ≤ H + 1 + 1 := by have h2 := HH.out; omega
            refine bodyPost_ret (v := algV p n (some ⟨g, 0, none⟩) N N) (by simp [results, Tryz.results147, go_sem, r0, r1, r2]) rfl ⟨_, N, T, rfl, ?_, ?_, ?_, ?_⟩
            · exact (((HO.out.setBelow _ _ hlt _).setBelow _ _ hlt _).setBelow _ _ hlt _).base (by have h1 := HS3.out; have h2 := HH.out; omega)
            · rw [HT.out.len, HMq.out]
            · have e := HND.out
              have ht := HT.out
              rw [e] at ht ⊢
              exact sumD2_all ht
            · refine Ext.setNew (Ext.setNew (Ext.setNew ?_ _ _ hle _) _ _ hle _) _ _ hle _
              exact HX3.out.trans HX.out
end Go.Proofs.YtenlhfimdpcaoaaGreat

namespace Go.Proofs.YtenlhfimdpcaoaaGreat
open Go.RowKit

/-- a matrix that is filled number by number: the places of D are filled by f, the others hold 0 -/
structure RecD (r s : Nat) (f : Nat → Nat → Int) (D : Nat → Nat → Prop) (T : List Int) : Prop where
  len : T.length = r * s
  on : ∀ x y, x < r → y < s → D x y → T.getD (x * s + y) 0 = f x y
  off : ∀ x y, x < r → y < s → ¬ D x y → T.getD (x * s + y) 0 = 0
theorem rec_lt {r s x y : Nat} (hx : x < r) (hy : y < s) : x * s + y < r * s := by
  have h1 : (x + 1) * s ≤ r * s := Nat.mul_le_mul_right s hx
  rw [Nat.add_mul, Nat.one_mul] at h1
  omega
theorem RecD.step {r s : Nat} {f : Nat → Nat → Int} {D D' : Nat → Nat → Prop} {T : List Int} (h : RecD r s f D T) {X Y : Nat} (hX : X < r) (hY : Y < s)
    (hD : ∀ x y, x < r → y < s → (D' x y ↔ D x y ∨ (x = X ∧ y = Y))) : RecD r s f D' (T.set (X * s + Y) (f X Y)) := by
  have hb := rec_lt hX hY
  have key : ∀ x y, x < r → y < s → (T.set (X * s + Y) (f X Y)).getD (x * s + y) 0 = if x = X ∧ y = Y then f X Y else T.getD (x * s + y) 0 := fun x y hx hy => by
    rw [List.getD_eq_getElem?_getD, List.getElem?_set]
    by_cases e : x = X ∧ y = Y
    · obtain ⟨rfl, rfl⟩ := e
      rw [if_pos rfl, if_pos (by have := h.len; omega), if_pos ⟨rfl, rfl⟩]
      rfl
    · rw [if_neg fun hh => e ?_, if_neg e, List.getD_eq_getElem?_getD]
      exact ⟨by rw [← place_div (i := x) hy, ← hh, place_div hY], by rw [← place_mod (i := x) hy, ← hh, place_mod hY]⟩
  refine ⟨by rw [List.length_set]; exact h.len, fun x y hx hy hd => ?_, fun x y hx hy hd => ?_⟩
  · rw [key x y hx hy]
    by_cases e : x = X ∧ y = Y
    · rw [if_pos e]
      obtain ⟨rfl, rfl⟩ := e
      rfl
    · rw [if_neg e]
      exact h.on x y hx hy (((hD x y hx hy).1 hd).resolve_right e)
  · rw [key x y hx hy, if_neg fun e => hd ((hD x y hx hy).2 (.inr e))]
    exact h.off x y hx hy fun e => hd ((hD x y hx hy).2 (.inl e))
theorem RecD.congr {r s : Nat} {f : Nat → Nat → Int} {D D' : Nat → Nat → Prop} {T : List Int} (h : RecD r s f D T) (hD : ∀ x y, x < r → y < s → (D' x y ↔ D x y)) : RecD r s f D' T :=
  ⟨h.len, fun x y hx hy hd => h.on x y hx hy ((hD x y hx hy).1 hd), fun x y hx hy hd => h.off x y hx hy fun e => hd ((hD x y hx hy).2 e)⟩
theorem RecD.zero (r s : Nat) (f : Nat → Nat → Int) : RecD r s f (fun _ _ => False) (List.replicate (r * s) 0) := by
  refine ⟨List.length_replicate, fun _ _ _ _ h => h.elim, fun x y _ _ _ => ?_⟩
  rw [List.getD_eq_getElem?_getD, List.getElem?_replicate]
  split <;> rfl
/-- columns ahead of i, and column i down to j -/
def trnD (i j x y : Nat) : Prop := y < i ∨ (y = i ∧ x < j)
theorem trnD_zero (x y : Nat) : trnD 0 0 x y ↔ False := ⟨fun h => by unfold trnD at h; omega, False.elim⟩
theorem trnD_step {i j : Nat} (x y : Nat) : trnD i (j + 1) x y ↔ trnD i j x y ∨ (x = j ∧ y = i) := by unfold trnD; omega
theorem trnD_next {n i : Nat} (x y : Nat) (hx : x < n) : trnD (i + 1) 0 x y ↔ trnD i n x y := by unfold trnD; omega
set_option maxRecDepth 100000 in
set_option maxHeartbeats 8000000 in
theorem l1Transpose_any (p : Int) (n : Nat) (a : Option Addr) (N c : Nat) (M : List Int) (w : World) (h : IntsAt w a N M) (hN : N = n * n) (hn : n ≤ 40) :
    Calls Tryz.prog 114 #[matV p n n a N c] w fun e w' => ∃ a' T, e = .returned (matV p n n a' N N) ∧ OwnI w' w.heap.size a' N N T ∧ (∀ i j, i < n → j < n → entM n T i j = entM n M j i) ∧ Ext w w' := by
  have hx1 := Ext.alloc w (.cells #[.int .i64 p, .int .i64 (n : Int), .int .i64 (n : Int), .slice a N c] 28)
  have hv1 := MatVar.new w p n n a N c 28
  have s1 : (w.alloc (.cells #[.int .i64 p, .int .i64 (n : Int), .int .i64 (n : Int), .slice a N c] 28)).heap.size = w.heap.size + 1 := by simp
  obtain ⟨w1, hw1⟩ : ∃ w1, w1 = w.alloc (.cells #[.int .i64 p, .int .i64 (n : Int), .int .i64 (n : Int), .slice a N c] 28) := ⟨_, rfl⟩
  rw [← hw1] at hx1 hv1 s1
  have hx2 := Ext.alloc w1 (.cells #[.int .i64 0, .int .i64 0, .int .i64 0, .slice none 0 0] 28)
  have hv2 := MatVar.new w1 0 0 0 none 0 0 28
  have s2 : (w1.alloc (.cells #[.int .i64 0, .int .i64 0, .int .i64 0, .slice none 0 0] 28)).heap.size = w.heap.size + 1 + 1 := by simp [s1]
  rw [s1] at hv2
  obtain ⟨w2, hw2⟩ : ∃ w2, w2 = w1.alloc (.cells #[.int .i64 0, .int .i64 0, .int .i64 0, .slice none 0 0] 28) := ⟨_, rfl⟩
  rw [← hw2] at hx2 hv2 s2
  have HW1 : Hid (w.alloc (.cells #[.int .i64 p, .int .i64 (n : Int), .int .i64 (n : Int), .slice a N c] 28) = w1) := hw1.symm
  have HW2 : Hid (w1.alloc (.cells #[.int .i64 0, .int .i64 0, .int .i64 0, .slice none 0 0] 28) = w2) := hw2.symm
  have HV1 := hidP (hv1.below hx2)
  have HV2 := hidP hv2
  have hX := hx1.trans hx2
  have HX2 := hidP hX
  have HA2 := hidP (h.below hX)
  have HbA : Hid (∀ b o, a = some ⟨b, o, none⟩ → 0 < N → b < w.heap.size) := fun b o e h0 => by subst e; exact h.block_lt h0
  have HS2 := hidP s2
  have hz := l1Zero_any p n n w2 (by omega) (by omega) (by omega) (by omega)
  have hnn : ((n : Int) * n).toNat = N := by rw [← Int.natCast_mul, Int.toNat_natCast, hN]
  rw [hnn] at hz
  have HZ := hidP hz
  have HN := hidP hN
  have hNb : N ≤ 40 * 40 := by rw [hN]; exact Nat.mul_le_mul hn hn
  have hT0 := RecD.zero n n (fun x y => entM n M y x)
  rw [← hN] at hT0
  have HT0 := hidP hT0
  have hv1' := HV1.out
  obtain ⟨⟨d0, d1, d2, d3⟩, _⟩ := hv1'
  clear hx1 hx2 hX hv1 hv2 s1 s2 hw1 hw2 h hz hnn hT0 hN
  go_enter Tryz.func114, Tryz.ntmps114
  go_wp2_with fail
  rw [HW1.out, HW2.out]
  clear HW1 HW2
  refine HZ.out.mono ?_
  rintro e w4 ⟨a4, rfl, ho4, hx4⟩
  have hxa := Ext.alloc w4 (.cells #[.int .i64 p, .int .i64 (n : Int), .int .i64 (n : Int), .slice a4 N N] 28)
  have hvm := MatVar.new w4 p n n a4 N N 28
  have HWd : ∃ wd bm, Hid (w4.alloc (.cells #[.int .i64 p, .int .i64 (n : Int), .int .i64 (n : Int), .slice a4 N N] 28) = wd) ∧ Hid (w4.heap.size = bm) := ⟨_, _, rfl, rfl⟩
  obtain ⟨wd, bm, HWd, HBm⟩ := HWd
  rw [HWd.out] at hxa hvm
  rw [HBm.out] at hvm
  have HVm := hidP hvm
  have HOd := hidP (ho4.below hxa)
  have HXd := hidP (hx4.trans hxa)
  have HOb : Hid (∀ b o, a4 = some ⟨b, o, none⟩ → w.heap.size + 1 < b ∧ b < bm) := fun b o e => by
    have h1 := ho4.at_base b o e
    have h2 := HS2.out
    have h3 := HBm.out
    omega
  clear d0 d1 d2 d3 hxa hvm ho4 hx4 HZ
  have HV1d := hidP (HV1.out.below HXd.out)
  have HV2d := hidP (HV2.out.below HXd.out)
  have HAd := hidP (HA2.out.below HXd.out)
  obtain ⟨H, hH⟩ : ∃ H, H = w.heap.size := ⟨_, rfl⟩
  have HH := hidP hH
  rw [← hH] at HV1d HV2d HbA HOb
  have HAr : Hid (∀ wr ys, UpdI wd wr a4 N ys → IntsAt wr a N M) := by
    intro wr ys hu
    rcases Nat.eq_zero_or_pos N with h0 | h0
    · subst h0
      exact ⟨HAd.out.len, fun i h => by omega⟩
    · exact hu.others HAd.out fun b o b' o' e e' => by
        have h1 := HOb.out b o e
        have h2 := HbA.out b' o' e' h0
        omega
  have HMs : Hid (∀ wr ys, UpdI wd wr a4 N ys → MatAt wr H p n n a N c ∧ MatAt wr bm p n n a4 N N ∧ MatVar wr (H + 1) 0 0 0 none 0 0) := by
    intro wr ys hu
    have hb := HOb.out
    refine ⟨HV1d.out.mat.upd hu (fun b o e => by have := hb b o e; omega), HVm.out.mat.upd hu (fun b o e => by have := hb b o e; omega), HV2d.out.mat.upd hu (fun b o e => by have := hb b o e; omega), fun j => ?_⟩
    have hl : H + 1 < wd.heap.size := World.block_lt_of_cell? wd ⟨H + 1, 0, none⟩ HV2d.out.mat.c0
    rw [World.frozen?_of_block (a := ⟨H + 1, j, none⟩) (hu.other (H + 1) hl fun b o e _ => by have := hb b o e; omega)]
    exact HV2d.out.fz j
  have HU0 : Hid (∃ T, UpdI wd wd a4 N T ∧ RecD n n (fun x y => entM n M y x) (trnD 0 0) T) := ⟨_, UpdI.start HOd.out.ints, HT0.out.congr fun x y _ _ => trnD_zero x y⟩
  go_wp2
  rw [HWd.out, HBm.out]
  rw [← hH]
  clear hH HWd HBm HT0
  go_loopw [4] (fun v7 wr => ∃ i : Nat, i ≤ n ∧ v7 = .int .i64 i ∧ Hid (∃ T, UpdI wd wr a4 N T ∧ RecD n n (fun x y => entM n M y x) (trnD i 0) T)) (fun v7 _ => n - (intOf v7).toNat)
  case atStart => exact ⟨0, Nat.zero_le _, rfl, HU0⟩
  case round =>
    clear HU0
    obtain ⟨i, hi, rfl, HU⟩ := hrel
    obtain ⟨T, hu, hT⟩ := HU.out
    obtain ⟨⟨m0, m1, m2, m3⟩, ⟨q0, q1, q2, q3⟩, hv⟩ := HMs.out wr _ hu
    by_cases hin : i < n
    · have hiI : (i : Int) < (n : Int) := by omega
      clear hu hT hv
      go_wp2
      go_loopw [5] (fun v7 wr => ∃ j : Nat, j ≤ n ∧ v7 = .int .i64 j ∧ Hid (∃ T, UpdI wd wr a4 N T ∧ RecD n n (fun x y => entM n M y x) (trnD i j) T)) (fun v7 _ => n - (intOf v7).toNat)
      case atStart => exact ⟨0, Nat.zero_le _, rfl, HU⟩
      case round =>
        clear HU m0 m1 m2 m3 q0 q1 q2 q3
        obtain ⟨j, hj, rfl, HU⟩ := hrel
        obtain ⟨T, hu, hT⟩ := HU.out
        obtain ⟨⟨m0, m1, m2, m3⟩, ⟨q0, q1, q2, q3⟩, _⟩ := HMs.out wr _ hu
        by_cases hjn : j < n
        · have hjI : (j : Int) < (n : Int) := by omega
          have hij : i * n + j < N := by rw [HN.out]; exact place_lt hin hjn
          have HGet := hidP (fun w' (hx : Ext wr w') => l1At_any p n n i j N c a M w' ((HAr.out wr _ hu).below hx) (by omega) hij)
          have hstp := hT.step (X := j) (Y := i) hjn hin (D' := trnD i (j + 1)) (fun x y _ _ => trnD_step x y)
          rw [show entM n M i j = M.getD (i * n + j) 0 from rfl] at hstp
          obtain ⟨b4, rfl, _, _, _, _⟩ := HOd.out.cell (i * n + j) hij
          have htN : j * n + i < N := by rw [HN.out]; exact place_lt hjn hin
          have f1 : IntKind.i64.wrap ((j : Int) * n) = ((j * n : Nat) : Int) := by rw [← Int.natCast_mul]; exact wrap_in (by omega) (by omega)
          have f2 : IntKind.i64.wrap (((j * n : Nat) : Int) + i) = ((j * n + i : Nat) : Int) := by rw [← Int.natCast_add]; exact wrap_in (by omega) (by omega)
          generalize M.getD (i * n + j) 0 = x at *
          obtain ⟨t, ht⟩ : ∃ t, t = j * n + i := ⟨_, rfl⟩
          rw [← ht] at htN f2 hstp
          generalize j * n = y1 at f1 f2
          have HUe : Hid (∀ w', Ext wr w' → ∃ T, UpdI wd (w'.setCell ⟨b4, t, none⟩ (.int .i64 x)) (some ⟨b4, 0, none⟩) N T ∧ RecD n n (fun x y => entM n M y x) (trnD i (j + 1)) T) := fun w' hx => ⟨_, by
            have := (hu.ext hx).store t htN x
            rwa [Nat.zero_add] at this, hstp⟩
          have HMr := hidP (fun w' (hx : Ext wr w') => HMs.out w' _ (hu.ext hx))
          have HC4 := hidP (fun w' (hx : Ext wr w') => (hu.ext hx).place HOd.out htN)
          have htI2 : (t : Int) < (N : Int) := by omega
          have ht0 : (0 : Int) ≤ (t : Int) := by omega
          have hE : Ext wr wr.drew := Ext.drew wr
          clear hu hT hstp ht htN HU hij
          go_wp2
          clear m0 m1 m2 m3 q0 q1 q2 q3
          (refine walkR_start (fun w' => Ext wr w') 12 (by kernel_rfl) ?_; simp only [numbered, List.take_succ_cons, List.take_zero, Nat.zero_add, Nat.reduceAdd, List.length_cons, List.length_nil])
          (repeat (first | (refine walkR_still (v := ?_) rfl (by decide +kernel) rfl (fun _ _ _ h => h) hE ?_ ?_; rotate_left; (focus (intro w' hw'; obtain ⟨⟨⟨x0, x1, x2, x3⟩, ⟨r0, r1, r2, r3⟩, _⟩, k0, k1⟩ := And.intro (HMr.out w' hw') (HC4.out w' hw'); go_simp; all_goals (with_reducible rfl))); simp only [Act.put, List.setIfInBounds_toArray, List.set_cons_zero, List.set_cons_succ]) | (refine walkR_skip rfl (by decide +kernel) rfl (fun _ _ _ h => h) hE ?_; simp only [Act.put, List.setIfInBounds_toArray, List.set_cons_zero, List.set_cons_succ])))
          (refine walkR_only (fun w' => Ext wr w') rfl (by decide +kernel) rfl (fun _ h => h) ?_; intro K hK; go_simp; refine (HGet.out _ hE).mono ?_; rintro e w7 ⟨rfl, hx7⟩; refine hK _ _ (hE.trans hx7) ?_; clear hK K; (try simp only [Act.put, List.setIfInBounds_toArray, List.set_cons_zero, List.set_cons_succ]))
          have HX7 := hidP (hE.trans hx7)
          obtain ⟨⟨⟨x0, x1, x2, x3⟩, ⟨r0, r1, r2, r3⟩, _⟩, k0, k1⟩ := And.intro (HMr.out w7 HX7.out) (HC4.out w7 HX7.out)
          (refine walkR_tail (by rfl) (by kernel_rfl) ?_; simp only [List.drop_succ_cons, List.drop_zero])
          have HU3 := hidP (HUe.out w7 HX7.out)
          clear HUe HMr HC4 HGet hx7 hE x0 x1 x2 x3 r0 r1 r2 r3
          go_wp2
          go_roundw
          case rel => exact ⟨j + 1, by omega, by go_num, HU3⟩
          case measure => simp [intOf]; omega
        · obtain rfl : n = j := by omega
          have HU2 : Hid (∃ T, UpdI wd wr a4 N T ∧ RecD n n (fun x y => entM n M y x) (trnD (i + 1) 0) T) := ⟨_, hu, hT.congr fun x y hx _ => trnD_next x y hx⟩
          clear hu hT
          go_wp2
          go_roundw
          case rel => exact ⟨i + 1, by omega, by go_num, HU2⟩
          case measure => simp [intOf]; omega
    · obtain rfl : n = i := by omega
      have HT := hidP hT
      have HO := hidP (hu.own HOd.out)
      have HX := hidP (hu.below HXd.out HXd.out.size (fun b o e _ => (HOd.out.at_base b o e).1))
      have HSt := hidP (hv.set p n n a4 N N)
      obtain ⟨⟨z0, z1, z2, z3⟩, zf⟩ := hv
      have zf0 := zf 0
      have zf1 := zf 1
      have zf2 := zf 2
      have zf3 := zf 3
      clear hu hT zf HU
      go_wp2
      obtain ⟨⟨r0, r1, r2, r3⟩, _⟩ := HSt.out
      have hlt : H + 1 < w2.heap.size := by have h1 := HS2.out; have h2 := HH.out; omega
      have hle : w.heap.size ≤ H + 1 := by have h2 := HH.out; omega
      refine bodyPost_ret (v := matV p n n a4 N N) (by simp [results, Tryz.results114, go_sem, r0, r1, r2, r3]) rfl ⟨a4, T, rfl, ?_, ?_, ?_⟩
      · exact ((((HO.out.setBelow _ _ hlt _).setBelow _ _ hlt _).setBelow _ _ hlt _).setBelow _ _ hlt _).base (by have h1 := HS2.out; have h2 := HH.out; omega)
      · exact fun x y hx hy => HT.out.on x y hx hy (.inl hy)
      · refine Ext.setNew (Ext.setNew (Ext.setNew (Ext.setNew ?_ _ _ hle _) _ _ hle _) _ _ hle _) _ _ hle _
        exact HX2.out.trans HX.out
end Go.Proofs.YtenlhfimdpcaoaaGreat

namespace Go.Proofs.YtenlhfimdpcaoaaGreat
open Go.RowKit

theorem at_getD {α : Type} (l : List α) (i : Nat) (h : i < l.length) (d : α) : l[i] = l.getD i d := by
  rw [List.getD_eq_getElem?_getD, List.getElem?_eq_getElem h]
  rfl
theorem rec_aug {p : Int} {n : Nat} {M v T : List Int} {f : Nat → Nat → Int} {D : Nat → Nat → Prop} (hT : RecD n (n + 1) f D T) (hall : ∀ x y, x < n → y < n + 1 → D x y)
    (hf : ∀ x y, x < n → y < n + 1 → f x y = (if y < n then entM n M y x else v.getD x 0) % p) : matRows n (n + 1) T = augM p n M v := by
  refine List.ext_getElem (by rw [matRows_length, augM_length]) fun q h1 h2 => ?_
  have hq : q < n := by rwa [matRows_length] at h1
  rw [at_getD _ _ h1 [], at_getD _ _ h2 [], matRows_get _ _ _ _ hq, augM_row p M v hq]
  have hb : q * (n + 1) + (n + 1) ≤ T.length := by
    have h3 : (q + 1) * (n + 1) ≤ n * (n + 1) := Nat.mul_le_mul_right _ hq
    rw [Nat.add_mul, Nat.one_mul] at h3
    rw [hT.len]
    exact h3
  refine List.ext_getElem (by rw [List.length_take, List.length_drop, modL_length]; omega) fun y h3 h4 => ?_
  have hy : y < n + 1 := by rwa [modL_length] at h4
  rw [at_getD _ _ h4 0, modL_get _ _ _ _ hy, List.getElem_take, List.getElem_drop, ← hf q y hq hy, ← hT.on q y hq hy (hall q y hq hy), List.getD_eq_getElem?_getD, List.getElem?_eq_getElem (by omega)]
  rfl
theorem flat_get {p : Int} {s : Nat} {R : List (List Int)} (h : Rows p s R) {i y : Nat} (hi : i < R.length) (hy : y < s) : R.flatten.getD (i * s + y) 0 = (R.getD i []).getD y 0 := by
  have e := matRows_flatten h
  have e2 : R.getD i [] = (R.flatten.drop (i * s)).take s := by rw [← matRows_get R.length s R.flatten i hi, e]
  rw [e2, List.getD_eq_getElem?_getD, List.getD_eq_getElem?_getD, List.getElem?_take, if_pos hy, List.getElem?_drop]
/-- the coordinates behind i pivots -/
def solTo (n : Nat) (st : List (List Int) × List Int) : Nat → List Int
  | 0 => List.replicate n 0
  | i + 1 => (solTo n st i).set (pivN st i) (entN st i n)
theorem solTo_length (n : Nat) (st : List (List Int) × List Int) : ∀ i, (solTo n st i).length = n
  | 0 => List.length_replicate
  | i + 1 => by rw [solTo, List.length_set, solTo_length n st i]
theorem solTo_get {p : Int} {n : Nat} {st : List (List Int) × List Int} (h : Ech p (n + 1) st) : ∀ i, i ≤ st.2.length → ∀ j, j < n → (solTo n st i).getD j 0 = sumTo i fun k => if pivN st k = j then entN st k n else 0
  | 0, _, j, hj => by simp [solTo, sumTo, List.getD_eq_getElem?_getD, hj]
  | i + 1, hi, j, hj => by
    have ih := solTo_get h i (by omega) j hj
    have hl := solTo_length n st i
    rw [solTo, List.getD_eq_getElem?_getD, List.getElem?_set, sumTo]
    by_cases e : pivN st i = j
    · subst e
      rw [if_pos rfl, if_pos (by omega), if_pos rfl]
      have h0 : (sumTo i fun k => if pivN st k = pivN st i then entN st k n else 0) = 0 := by
        rw [sumTo_congr (g := fun _ => 0) fun k hk => if_neg fun e => by have := piv_inj h (by omega) (by omega) e; omega]
        exact sumTo_zero _
      rw [h0, Int.zero_add]
      rfl
    · rw [if_neg e, if_neg e, ← List.getD_eq_getElem?_getD, ih, Int.add_zero]
theorem solTo_res {p : Int} (hp : 0 < p) {n : Nat} {st : List (List Int) × List Int} (hr : Rows p (n + 1) st.1) (hl : st.2.length ≤ st.1.length) : ∀ i, i ≤ st.2.length → ∀ j, j < n → 0 ≤ (solTo n st i).getD j 0 ∧ (solTo n st i).getD j 0 < p
  | 0, _, j, hj => by simp [solTo, List.getD_eq_getElem?_getD, hj]; exact hp
  | i + 1, hi, j, hj => by
    have ih := solTo_res hp hr hl i (by omega) j hj
    have hlen := solTo_length n st i
    rw [solTo, List.getD_eq_getElem?_getD, List.getElem?_set]
    by_cases e : pivN st i = j
    · rw [if_pos e, if_pos (by omega)]
      have := hr.res i (by omega) n (by rw [hr.len i (by omega)]; omega)
      exact this
    · rw [if_neg e, ← List.getD_eq_getElem?_getD]
      exact ih
theorem solTo_all {p : Int} (hp : 0 < p) {n : Nat} {st : List (List Int) × List Int} (h : Ech p (n + 1) st) (hr : Rows p (n + 1) st.1) (hl : st.2.length ≤ st.1.length) : solTo n st st.2.length = solveL p n st := by
  refine List.ext_getElem (by rw [solTo_length, solveL, modL_length]) fun j h1 h2 => ?_
  have hj : j < n := by rwa [solTo_length] at h1
  obtain ⟨r0, r1⟩ := solTo_res hp hr hl _ (Nat.le_refl _) j hj
  rw [at_getD _ _ h1 0, at_getD _ _ h2 0, solveL, modL_get _ _ _ _ hj, ← solTo_get h _ (Nat.le_refl _) j hj, Int.emod_eq_of_lt r0 r1]
end Go.Proofs.YtenlhfimdpcaoaaGreat

namespace Go.Proofs.YtenlhfimdpcaoaaGreat
open Go.RowKit

end Go.Proofs.YtenlhfimdpcaoaaGreat

namespace Go.Proofs.YtenlhfimdpcaoaaGreat
open Go.RowKit

/-- one row in a slice of its own -/
theorem rowOne {w : World} {B : Nat} {a1 : Option Addr} {d : Nat} {row : List Int} (ho : OwnI w B a1 d d row) (hB : B ≤ w.heap.size) :
    OwnK rowK (w.alloc (.cells #[.slice a1 d d] 24)) B (w.alloc (.cells #[.slice a1 d d] 24)).heap.size (some ⟨w.heap.size, 0, none⟩) 1 1 [(a1, d)] [row] := by
  have hl := ho.len
  have hb := ho.below (Ext.alloc w (.cells #[.slice a1 d d] 24))
  have hs : w.heap.size < (w.alloc (.cells #[.slice a1 d d] 24)).heap.size := by simp
  refine ⟨⟨rfl, .inr ⟨w.heap.size, 1, _, rfl, hB, heap_alloc_new _ _, Nat.le_refl _, by unfold maxLen; omega, rfl, ?_⟩⟩, rfl, rfl, fun i hi => ?_, fun i j hi hj hij => by omega, fun i hi b o e => ?_, fun b o e => ?_⟩
  · show _ = [Value.slice a1 row.length d] ++ []
    rw [hl]
    rfl
  · obtain rfl : i = 0 := by omega
    show OwnI _ B a1 row.length d row
    rw [hl]
    exact hb
  · obtain rfl : i = 0 := by omega
    exact (hb.at_base b o e).2
  · simp only [Option.some.injEq, Addr.mk.injEq, and_true] at e
    simp [← e.1]
end Go.Proofs.YtenlhfimdpcaoaaGreat

namespace Go.Proofs.YtenlhfimdpcaoaaGreat
open Go.RowKit

set_option maxHeartbeats 4000000 in
theorem l2Brackets_any (p : Int) (d n : Nat) (aT aS : Option Addr) (N c N1 c1 : Nat) (t dS : List Int) (w : World) (hd : d ≤ 28) (hN : N = d * d * d)
    (ht : IntsAt w aT N t) (hS : IntsAt w aS N1 dS) (hN1 : N1 = n * d) (hc1 : N1 ≤ c1) (hcb1 : c1 ≤ 9223372036854775807)
    (hp : primeB p = true) (hrt : Res p t) (hrS : Res p dS) (h1 : n ≤ 28) (hz1 : n = 0 ∨ 1 ≤ d) :
    Calls Tryz.prog 179 #[algV p d aT N c, matV p n d aS N1 c1] w fun e w' =>
      ∃ av nv cv hv, e = .returned (.slice av nv cv) ∧ OwnK rowK w' w.heap.size w'.heap.size av nv cv hv (prodTo p t d (matRows n d dS) (matRows n d dS) n 0) ∧ Ext w w' := by
  obtain ⟨p2, p7⟩ := prime_bounds hp
  have hR1 := matRows_ok (p := p) (r := n) (s := d) (data := dS) (hS.len.trans hN1) hrS
  have hwA := Ext.alloc w (.cells #[.int .i64 p, .int .i64 (d : Int), .slice aT N c] 26)
  have hwB := Ext.alloc (w.alloc (.cells #[.int .i64 p, .int .i64 (d : Int), .slice aT N c] 26)) (.cells #[.int .i64 p, .int .i64 (n : Int), .int .i64 (d : Int), .slice aS N1 c1] 28)
  have HAL := hidP ((AlgAt.new w _ rfl p d aT N c 26).below hwB)
  have HM1 := hidP (MatAt.new (w.alloc (.cells #[.int .i64 p, .int .i64 (d : Int), .slice aT N c] 26)) (w.heap.size + 1) (by simp) p n d aS N1 c1 28)
  have hxb := hwA.trans hwB
  have HXb := hidP hxb
  have HT := hidP (ht.below hxb)
  have HS := hidP (hS.below hxb)
  have hszb : ((w.alloc (.cells #[.int .i64 p, .int .i64 (d : Int), .slice aT N c] 26)).alloc (.cells #[.int .i64 p, .int .i64 (n : Int), .int .i64 (d : Int), .slice aS N1 c1] 28)).heap.size = w.heap.size + 1 + 1 := by simp
  have HR1 := hidP hR1
  have HRT := hidP hrt
  have HN := hidP hN
  have HN1 := hidP hN1
  have HPm := hidP hp
  clear ht hS hR1 hwA hwB hrt hN hN1 hp
  go_enter Tryz.func179, Tryz.ntmps179
  go_wp2
  obtain ⟨wb, hwb⟩ : ∃ wb, wb = ((w.alloc (.cells #[.int .i64 p, .int .i64 (d : Int), .slice aT N c] 26)).alloc (.cells #[.int .i64 p, .int .i64 (n : Int), .int .i64 (d : Int), .slice aS N1 c1] 28)) := ⟨_, rfl⟩
  rw [← hwb] at HAL HM1 hxb HXb HT HS hszb ⊢
  rw [← hszb]
  have HSZ : Hid (w.heap.size ≤ wb.heap.size) := by show _ ≤ _; omega
  clear hwb hszb hxb
  have HF := hidP (fun w' (hx' : Ext wb w') => (⟨(HAL.out.below hx').c0, (HAL.out.below hx').c1, (HAL.out.below hx').c2, (HM1.out.below hx').c0, (HM1.out.below hx').c1, (HM1.out.below hx').c2, (HM1.out.below hx').c3⟩ : _ ∧ _ ∧ _ ∧ _ ∧ _ ∧ _ ∧ _))
  have HOL := hidP (OwnK.made0 rowK wb)
  have hE : rowK.E = 24 := rfl
  rw [hE] at HOL
  clear hE
  have hx0 := Ext.alloc wb (.cells #[] 24)
  obtain ⟨w0, hw0⟩ : ∃ w0, w0 = wb.alloc (.cells #[] 24) := ⟨_, rfl⟩
  rw [← hw0] at HOL hx0 ⊢
  clear hw0
  have HX0 := hidP hx0
  clear hx0
  have HS1L := hidP (matRows_length n d dS)
  have HPR := hidP (prodTo_row p t d (matRows n d dS) (matRows n d dS))
  rw [HS1L.out] at HPR
  have HLB := hidP (fun i j (hi' : i ≤ n) (hj' : j ≤ n) (hij : i = n → j = 0) => (by
    rw [prodTo_length _ _ _ _ _ _ _ (by rw [HS1L.out]; exact hj'), HS1L.out]
    by_cases e : i = n
    · have := hij e
      have := Nat.mul_le_mul hi' h1
      have := Nat.mul_le_mul h1 h1
      have := Nat.mul_le_mul h1 (Nat.le_refl n)
      omega
    · have := Nat.mul_le_mul (show i ≤ 28 by omega) h1
      omega : (prodTo p t d (matRows n d dS) (matRows n d dS) i j).length ≤ 812))
  have HPS := hidP (fun i j (hj' : j < n) => prodTo_succ p t d (matRows n d dS) (matRows n d dS) i j (by rw [HS1L.out]; exact hj'))
  have HRw1 : Hid (∀ i, i < n → ∀ w', Ext wb w' → Calls Tryz.prog 184 #[matV p n d aS N1 c1, .int .i64 (i : Int)] w' fun e w'' => ∃ a' c', e = .returned (.slice a' d c') ∧ IntsAt w'' a' d ((matRows n d dS).getD i []) ∧ Ext w' w'') := by
    intro i hi w' hx
    have hd0 : 1 ≤ d := by omega
    obtain ⟨b, o, e, _⟩ := HS.out.get (i * d) (by rw [HN1.out]; have := flat_lt (L := d) (j := 0) hi hd0; omega)
    have hS2 := HS.out.below hx
    rw [e] at hS2 ⊢
    exact l1Row_any p n d i b o N1 c1 dS w' hS2 HN1.out hc1 hcb1 (by omega) (by omega) hd0 hi
  generalize hRS : matRows n d dS = RS at *
  have HRS1 := hidP hRS
  clear hRS
  go_loopw [5, 6] (fun v vi wr => ∃ (i : Nat) (av : Option Addr) (nv cv : Nat) (hv : List Hdr), i ≤ n ∧ vi = .int .i64 i ∧ v = .slice av nv cv ∧ Hid (OwnK rowK wr wb.heap.size wr.heap.size av nv cv hv (prodTo p t d RS RS i 0)) ∧ Hid (Ext wb wr) ∧ Hid (av ≠ none)) (fun _ vi _ => n - (intOf vi).toNat)
  case atStart => exact ⟨0, _, 0, 0, [], Nat.zero_le _, rfl, rfl, HOL, HX0, by show _ ≠ _; simp⟩
  case round =>
    clear HOL HX0
    obtain ⟨i, av, nv, cv, hv, hi1, rfl, rfl, HL, HX, HNn⟩ := hrel
    obtain ⟨wo, rfl⟩ : ∃ wo : World, wo = wr := ⟨_, rfl⟩
    obtain ⟨f0, f1, f2, g0, g1, g2, g3⟩ := HF.out wo HX.out
    by_cases hlt : i < n
    · go_wp2
      go_loopw [5, 7] (fun v vj wr => ∃ (j : Nat) (av : Option Addr) (nv cv : Nat) (hv : List Hdr), j ≤ n ∧ vj = .int .i64 j ∧ v = .slice av nv cv ∧ Hid (OwnK rowK wr wb.heap.size wr.heap.size av nv cv hv (prodTo p t d RS RS i j)) ∧ Hid (Ext wb wr) ∧ Hid (av ≠ none)) (fun _ vj _ => n - (intOf vj).toNat)
      case atStart => exact ⟨0, _, _, _, _, Nat.zero_le _, rfl, rfl, HL, HX, HNn⟩
      case round =>
        clear HL HX HNn f0 f1 f2 g0 g1 g2 g3
        obtain ⟨j, av, nv, cv, hv, hj1, rfl, rfl, HL, HX, HNn⟩ := hrel
        obtain ⟨f0, f1, f2, g0, g1, g2, g3⟩ := HF.out wr HX.out
        by_cases hjl : j < n
        · have HPSJ := hidP (HPS.out i j hjl)
          have HLBJ := hidP (HLB.out i j hi1 hj1 (by omega))
          have hnv := HL.out.xl
          have hnvb : nv ≤ 812 := by have := HLBJ.out; omega
          have hlu := HR1.out.len i (by have := HS1L.out; omega)
          have HRu := hidP (HR1.out.res i (by have := HS1L.out; omega))
          have hlv := HR1.out.len j (by have := HS1L.out; omega)
          have HRv := hidP (HR1.out.res j (by have := HS1L.out; omega))
          have HC1 := hidP (HRw1.out i hlt)
          have HC2 := hidP (HRw1.out j hjl)
          have hE : Ext wb wr.drew := HX.out.trans (Ext.drew wr)
          have HL0 := hidP ((HL.out.below (Ext.drew wr)))
          clear hnv hlu hlv f0 f1 f2 g0
          go_wp2
          clear g1 g2 g3
          (refine walkR_start (fun w' => Ext wb w') 11 (by kernel_rfl) ?_; simp only [numbered, List.take_succ_cons, List.take_zero, Nat.zero_add, Nat.reduceAdd, List.length_cons, List.length_nil])
          (repeat (first | (refine walkR_still (v := ?_) rfl (by decide +kernel) rfl (fun _ _ _ h => h) hE ?_ ?_; rotate_left; (focus (intro w' hw'; obtain ⟨f0, f1, f2, g0, g1, g2, g3⟩ := HF.out w' hw'; go_simp; all_goals (with_reducible rfl))); simp only [Act.put, List.setIfInBounds_toArray, List.set_cons_zero, List.set_cons_succ]) | (refine walkR_skip rfl (by decide +kernel) rfl (fun _ _ _ h => h) hE ?_; simp only [Act.put, List.setIfInBounds_toArray, List.set_cons_zero, List.set_cons_succ])))
          (refine walkR_later ?_; simp only [List.cons_append, List.nil_append])
          (repeat (first | (refine walkR_still (v := ?_) rfl (by decide +kernel) rfl (fun _ _ _ h => h) hE ?_ ?_; rotate_left; (focus (intro w' hw'; obtain ⟨f0, f1, f2, g0, g1, g2, g3⟩ := HF.out w' hw'; go_simp; all_goals (with_reducible rfl))); simp only [Act.put, List.setIfInBounds_toArray, List.set_cons_zero, List.set_cons_succ]) | (refine walkR_skip rfl (by decide +kernel) rfl (fun _ _ _ h => h) hE ?_; simp only [Act.put, List.setIfInBounds_toArray, List.set_cons_zero, List.set_cons_succ])))
          (refine walkR_later ?_; simp only [List.cons_append, List.nil_append]); (refine walkR_later ?_; simp only [List.cons_append, List.nil_append]); (refine walkR_later ?_; simp only [List.cons_append, List.nil_append]); (refine walkR_later ?_; simp only [List.cons_append, List.nil_append])
          (refine walkR_only (fun w' => Ext wb w') rfl (by decide +kernel) rfl (fun _ h => h) ?_; intro K hK; go_simp; refine (HC1.out _ hE).mono ?_; rintro e w1 ⟨b1, cb1, rfl, hi1', hx1⟩; refine hK _ _ (hE.trans hx1) ?_; clear hK K; (try simp only [Act.put, List.setIfInBounds_toArray, List.set_cons_zero, List.set_cons_succ]))
          have hE1 := hE.trans hx1
          (repeat (first | (refine walkR_still (v := ?_) rfl (by decide +kernel) rfl (fun _ _ _ h => h) hE1 ?_ ?_; rotate_left; (focus (intro w' hw'; obtain ⟨f0, f1, f2, g0, g1, g2, g3⟩ := HF.out w' hw'; go_simp; all_goals (with_reducible rfl))); simp only [Act.put, List.setIfInBounds_toArray, List.set_cons_zero, List.set_cons_succ]) | (refine walkR_skip rfl (by decide +kernel) rfl (fun _ _ _ h => h) hE1 ?_; simp only [Act.put, List.setIfInBounds_toArray, List.set_cons_zero, List.set_cons_succ])))
          (refine walkR_only (fun w' => Ext wb w') rfl (by decide +kernel) rfl (fun _ h => h) ?_; intro K hK; go_simp; refine (HC2.out _ hE1).mono ?_; rintro e w2 ⟨b2, cb2, rfl, hi2', hx2⟩; refine hK _ _ (hE1.trans hx2) ?_; clear hK K; (try simp only [Act.put, List.setIfInBounds_toArray, List.set_cons_zero, List.set_cons_succ]))
          have hE2 := hE1.trans hx2
          have HBr := hidP (l2Bracket_any p d N c cb1 cb2 aT b1 b2 t (RS.getD i []) (RS.getD j []) w2 hd HN.out (HT.out.below hE2) (hi1'.below hx2) hi2' (by omega) p7 HRT.out HRu.out HRv.out)
          (refine walkR_only (fun w' => Ext wb w') rfl (by decide +kernel) rfl (fun _ h => h) ?_; intro K hK; go_simp; refine (HBr.out).mono ?_; rintro e w3 ⟨b3, rfl, ho3, hx3⟩; refine hK _ _ (hE2.trans hx3) ?_; clear hK K; (try simp only [Act.put, List.setIfInBounds_toArray, List.set_cons_zero, List.set_cons_succ]))
          have hE3 := hE2.trans hx3
          have HL3 := hidP (((HL0.out.below hx1).below hx2).below hx3)
          have HO3 := hidP (ho3.base (B' := wb.heap.size) hE2.size)
          have HAp : Hid (∀ i j, i < nv → j < 1 → Apart (hv.getD i (none, 0)).1 (([(b3, d)] : List Hdr).getD j (none, 0)).1) := by
            intro i j hi hj b o b' o' e e'
            obtain rfl : j = 0 := by omega
            have h1 := HL.out.lt i hi b o e
            have h2 := (ho3.at_base b' o' e').1
            have h3 := hx1.size
            have h4 := hx2.size
            have h5 : wr.drew.heap.size = wr.heap.size := rfl
            omega
          (refine walkR_only (fun w' => Ext wb w') rfl (by decide +kernel) rfl ?_ ?_)
          · exact fun _ h => h
          intro K hK
          go_simp
          have hxa := Ext.alloc w3 (.cells #[.slice b3 d d] 24)
          have HOne := hidP (rowOne HO3.out hE3.size)
          have hE4 := hE3.trans hxa
          have HL4 := hidP (HL3.out.below hxa)
          refine hK _ _ hE4 ?_
          clear hK K
          (try simp only [Act.put, List.setIfInBounds_toArray, List.set_cons_zero, List.set_cons_succ])
          (refine walkR_only (fun w' => Ext wb w') rfl (by decide +kernel) rfl ?_ ?_)
          · exact fun _ h => h
          intro K hK
          refine wp_append_elems rowK 74 (.slice none 0 0) 24 (.tmp 21) (.tmp 30) rfl Tryz.underlying74 Tryz.info24 rfl (by omega) wb.heap.size _ _ av nv cv hv [(b3, d)] _ [brL p t d (RS.getD i []) (RS.getD j [])] rfl HL4.out w3.heap.size 1 1 rfl HOne.out HAp.out (by omega) HNn.out hE4.size ?_
          intro a6 c6 w6 ho6 hg6 hn6
          have hE6 : Ext wb w6 := grown_ext hg6 hE4 hE4.size (fun q e => by
            rcases HL4.out.form with ⟨h, _⟩ | ⟨g, cur, h, h2, _⟩
            · rw [h] at e; cases e
            · rw [h] at e; cases e; exact h2)
          rw [← HPSJ.out] at ho6
          have HO6 := hidP ho6
          have HE6 := hidP hE6
          have HN6 : Hid (a6 ≠ none) := by
            rintro rfl
            rcases ho6.form with ⟨_, h, _⟩ | ⟨g, cur, h, _⟩
            · omega
            · cases h
          refine hK _ _ hE6 ?_
          clear hK K ho6 hg6 hn6 hE6 hE hE1 hE2 hE3 hE4 hx1 hx2 hx3 hxa hi1' hi2' ho3
          (try simp only [Act.put, List.setIfInBounds_toArray, List.set_cons_zero, List.set_cons_succ])
          (refine walkR_tail (by rfl) (by kernel_rfl) ?_; simp only [List.drop_succ_cons, List.drop_zero])
          go_wp2
          go_roundw
          case rel => exact ⟨j + 1, a6, nv + 1, c6, hv ++ [(b3, d)], by omega, by go_num, rfl, HO6, HE6, HN6⟩
          case measure => simp [intOf]; omega
        · have HL2 : Hid (OwnK rowK wr wb.heap.size wr.heap.size av nv cv hv (prodTo p t d RS RS (i + 1) 0)) := by
            have hh := HL.out
            rw [show j = n by omega, HPR.out] at hh
            exact hh
          go_wp2
          go_roundw
          case rel => exact ⟨i + 1, av, nv, cv, hv, by omega, by go_num, rfl, HL2, HX, HNn⟩
          case measure => simp [intOf]; omega
    · have HL2 : Hid (OwnK rowK wo wb.heap.size wo.heap.size av nv cv hv (prodTo p t d RS RS n 0)) := by
        have hh := HL.out
        rw [show i = n by omega] at hh
        exact hh
      go_wp2
      go_ret
      exact ⟨av, nv, cv, hv, rfl, by rw [HRS1.out]; exact HL2.out.weaken HSZ.out (Nat.le_refl _), HXb.out.trans HX.out⟩
end Go.Proofs.YtenlhfimdpcaoaaGreat

namespace Go.Proofs.YtenlhfimdpcaoaaGreat
open Go.RowKit

def solD (i j x y : Nat) : Prop := x < i ∨ (x = i ∧ y < j)
theorem solD_zero (x y : Nat) : solD 0 0 x y ↔ False := ⟨fun h => by unfold solD at h; omega, False.elim⟩
theorem solD_step {i j : Nat} (x y : Nat) : solD i (j + 1) x y ↔ solD i j x y ∨ (x = i ∧ y = j) := by unfold solD; omega
def augF (n : Nat) (TM V : List Int) (x y : Nat) : Int := if y < n then entM n TM x y else V.getD x 0
set_option maxRecDepth 100000 in
set_option maxHeartbeats 8000000 in
theorem l1Solve_any (p : Int) (n : Nat) (a av : Option Addr) (N c cv : Nat) (TM V M : List Int) (w : World) (h : IntsAt w a N TM) (hN : N = n * n) (hv : IntsAt w av n V) (hn : n ≤ 28) (hp : primeB p = true)
    (hM : ∀ i j, i < n → j < n → entM n TM i j = entM n M j i) (hr : Res p TM) (hV : Res p V) (hB : Basis p n M) :
    Calls Tryz.prog 200 #[matV p n n a N c, .slice av n cv] w fun e w' => ∃ a', e = .returned (.tuple #[.slice a' n n, .bool true]) ∧ OwnI w' w.heap.size a' n n (solveL p n (redTo p (augM p n M V) (n + 1))) ∧ Ext w w' := by
  obtain ⟨p2, p7⟩ := prime_bounds hp
  have hx1 := Ext.alloc w (.cells #[.int .i64 p, .int .i64 (n : Int), .int .i64 (n : Int), .slice a N c] 28)
  have hv1 := MatVar.new w p n n a N c 28
  obtain ⟨w1, hw1⟩ : ∃ w1, w1 = w.alloc (.cells #[.int .i64 p, .int .i64 (n : Int), .int .i64 (n : Int), .slice a N c] 28) := ⟨_, rfl⟩
  have s1 : w1.heap.size = w.heap.size + 1 := by rw [hw1]; simp
  rw [← hw1] at hx1 hv1
  have HW1 : Hid (w.alloc (.cells #[.int .i64 p, .int .i64 (n : Int), .int .i64 (n : Int), .slice a N c] 28) = w1) := hw1.symm
  have HV1 := hidP hv1
  have HX1 := hidP hx1
  have HA1 := hidP (h.below hx1)
  have HVv := hidP (hv.below hx1)
  have HbA : Hid (∀ b o, a = some ⟨b, o, none⟩ → 0 < N → b < w.heap.size) := fun b o e h0 => by subst e; exact h.block_lt h0
  have HbV : Hid (∀ b o, av = some ⟨b, o, none⟩ → 0 < n → b < w.heap.size) := fun b o e h0 => by subst e; exact hv.block_lt h0
  have HS1 := hidP s1
  have hnI : (n : Int) + 1 = ((n + 1 : Nat) : Int) := by omega
  have e1 : IntKind.i64.wrap ((n : Int) + 1) = ((n + 1 : Nat) : Int) := by rw [hnI]; exact wrap_in (by omega) (by omega)
  have hz := l1Zero_any p n ((n + 1 : Nat) : Int) w1 (by omega) (by omega) (by omega) (by omega)
  have hnn : ((n : Int) * ((n + 1 : Nat) : Int)).toNat = n * (n + 1) := by rw [← Int.natCast_mul, Int.toNat_natCast]
  rw [hnn] at hz
  have hT0 := RecD.zero n (n + 1) (augF n TM V)
  have hNb2 : n * (n + 1) ≤ 28 * 29 := Nat.mul_le_mul hn (by omega)
  have hNb : N ≤ 28 * 28 := by rw [hN]; exact Nat.mul_le_mul hn hn
  obtain ⟨s, hs⟩ : ∃ s, s = n + 1 := ⟨_, rfl⟩
  have HSn := hidP hs
  rw [← hs] at hz hT0 e1 hNb2
  obtain ⟨N2, hN2⟩ : ∃ N2, N2 = n * s := ⟨_, rfl⟩
  have HN2 := hidP hN2
  rw [← hN2] at hz hT0 hNb2
  have HZ := hidP hz
  have HN := hidP hN
  have HT0 := hidP hT0
  have HP := hidP hp
  have HM := hidP hM
  have HR := hidP hr
  have HRV := hidP hV
  have HBs := hidP hB
  have hv1' := HV1.out
  obtain ⟨⟨d0, d1, d2, d3⟩, _⟩ := hv1'
  clear hx1 hv1 hw1 h hv s1 hnI hz hnn hT0 hN hs hN2 hp hM hr hV hB
  go_enter Tryz.func200, Tryz.ntmps200
  go_wp2_with fail
  rw [HW1.out]
  clear HW1
  refine HZ.out.mono ?_
  rintro e w4 ⟨a4, rfl, ho4, hx4⟩
  have hxa := Ext.alloc w4 (.cells #[.int .i64 p, .int .i64 (n : Int), .int .i64 (s : Int), .slice a4 N2 N2] 28)
  have hvm := MatVar.new w4 p n s a4 N2 N2 28
  have HWd : ∃ wd bm, Hid (w4.alloc (.cells #[.int .i64 p, .int .i64 (n : Int), .int .i64 (s : Int), .slice a4 N2 N2] 28) = wd) ∧ Hid (w4.heap.size = bm) := ⟨_, _, rfl, rfl⟩
  obtain ⟨wd, bm, HWd, HBm⟩ := HWd
  rw [HWd.out] at hxa hvm
  rw [HBm.out] at hvm
  have HVm := hidP hvm
  have HOd := hidP (ho4.below hxa)
  have HXd := hidP (hx4.trans hxa)
  have HOb : Hid (∀ b o, a4 = some ⟨b, o, none⟩ → w.heap.size < b ∧ b < bm) := fun b o e => by
    have h1 := ho4.at_base b o e
    have h2 := HS1.out
    have h3 := HBm.out
    omega
  clear d0 d1 d2 d3 hxa hvm ho4 hx4 HZ
  have HV1d := hidP (HV1.out.below HXd.out)
  have HAd := hidP (HA1.out.below HXd.out)
  have HVd := hidP (HVv.out.below HXd.out)
  obtain ⟨H, hH⟩ : ∃ H, H = w.heap.size := ⟨_, rfl⟩
  have HH := hidP hH
  rw [← hH] at HV1d HbA HbV HOb
  have hne : ∀ (ax : Option Addr) (Nx : Nat) (X : List Int), Hid (∀ b o, ax = some ⟨b, o, none⟩ → 0 < Nx → b < H) → IntsAt wd ax Nx X → ∀ wr ys, UpdI wd wr a4 N2 ys → IntsAt wr ax Nx X := by
    intro ax Nx X hb hi wr ys hu
    rcases Nat.eq_zero_or_pos Nx with h0 | h0
    · subst h0
      exact ⟨hi.len, fun i h => by omega⟩
    · exact hu.others hi fun b o b' o' e e' => by
        have h1 := HOb.out b o e
        have h2 := hb.out b' o' e' h0
        omega
  have HAr := hidP (fun wr ys hu => hne a N TM HbA HAd.out wr ys hu)
  have HVr := hidP (fun wr ys hu => hne av n V HbV HVd.out wr ys hu)
  have HMs : Hid (∀ wr ys, UpdI wd wr a4 N2 ys → MatAt wr H p n n a N c ∧ MatAt wr bm p n s a4 N2 N2) := by
    intro wr ys hu
    have hb := HOb.out
    exact ⟨HV1d.out.mat.upd hu (fun b o e => by have := hb b o e; omega), HVm.out.mat.upd hu (fun b o e => by have := hb b o e; omega)⟩
  have HU0 : Hid (∃ T, UpdI wd wd a4 N2 T ∧ RecD n s (augF n TM V) (solD 0 0) T) := ⟨_, UpdI.start HOd.out.ints, HT0.out.congr fun x y _ _ => solD_zero x y⟩
  clear hne
  go_wp2
  rw [HWd.out, HBm.out]
  rw [← hH]
  clear hH HWd HBm HT0
  go_loopw [7] (fun v7 wr => ∃ i : Nat, i ≤ n ∧ v7 = .int .i64 i ∧ Hid (∃ T, UpdI wd wr a4 N2 T ∧ RecD n s (augF n TM V) (solD i 0) T)) (fun v7 _ => n - (intOf v7).toNat)
  case atStart => exact ⟨0, Nat.zero_le _, rfl, HU0⟩
  case round =>
    clear HU0
    obtain ⟨i, hi, rfl, HU⟩ := hrel
    obtain ⟨T, hu, hT⟩ := HU.out
    obtain ⟨⟨m0, m1, m2, m3⟩, ⟨q0, q1, q2, q3⟩⟩ := HMs.out wr _ hu
    by_cases hin : i < n
    · have hiI : (i : Int) < (n : Int) := by omega
      clear hu hT
      go_wp2
      go_loopw [8] (fun v7 wr => ∃ j : Nat, j ≤ n ∧ v7 = .int .i64 j ∧ Hid (∃ T, UpdI wd wr a4 N2 T ∧ RecD n s (augF n TM V) (solD i j) T)) (fun v7 _ => n - (intOf v7).toNat)
      case atStart => exact ⟨0, Nat.zero_le _, rfl, HU⟩
      case round =>
        clear HU m0 m1 m2 m3 q0 q1 q2 q3
        obtain ⟨j, hj, rfl, HU⟩ := hrel
        obtain ⟨T, hu, hT⟩ := HU.out
        obtain ⟨⟨m0, m1, m2, m3⟩, ⟨q0, q1, q2, q3⟩⟩ := HMs.out wr _ hu
        have hjs : j < s := by have := HSn.out; omega
        have htN : i * s + j < N2 := by rw [HN2.out]; exact rec_lt hin hjs
        have f1 : IntKind.i64.wrap ((i : Int) * s) = ((i * s : Nat) : Int) := by rw [← Int.natCast_mul]; exact wrap_in (by omega) (by omega)
        have f2 : IntKind.i64.wrap (((i * s : Nat) : Int) + j) = ((i * s + j : Nat) : Int) := by rw [← Int.natCast_add]; exact wrap_in (by omega) (by omega)
        have hstp := hT.step (X := i) (Y := j) hin hjs (D' := solD i (j + 1)) (fun x y _ _ => solD_step x y)
        obtain ⟨b4, rfl, _, _, _, _⟩ := HOd.out.cell (i * s + j) htN
        obtain ⟨t, ht⟩ : ∃ t, t = i * s + j := ⟨_, rfl⟩
        rw [← ht] at htN f2 hstp
        generalize i * s = y1 at f1 f2
        have htI2 : (t : Int) < (N2 : Int) := by omega
        have ht0 : (0 : Int) ≤ (t : Int) := by omega
        by_cases hjn : j < n
        · have hjI : (j : Int) < (n : Int) := by omega
          have hij : i * n + j < N := by rw [HN.out]; exact place_lt hin hjn
          have HGet := hidP (fun w' (hx : Ext wr w') => l1At_any p n n i j N c a TM w' ((HAr.out wr _ hu).below hx) (by omega) hij)
          rw [show augF n TM V i j = TM.getD (i * n + j) 0 by unfold augF; rw [if_pos hjn]; rfl] at hstp
          generalize TM.getD (i * n + j) 0 = x at *
          have HUe : Hid (∀ w', Ext wr w' → ∃ T, UpdI wd (w'.setCell ⟨b4, t, none⟩ (.int .i64 x)) (some ⟨b4, 0, none⟩) N2 T ∧ RecD n s (augF n TM V) (solD i (j + 1)) T) := fun w' hx => ⟨_, by
            have := (hu.ext hx).store t htN x
            rwa [Nat.zero_add] at this, hstp⟩
          have HMr := hidP (fun w' (hx : Ext wr w') => HMs.out w' _ (hu.ext hx))
          have HC4 := hidP (fun w' (hx : Ext wr w') => (hu.ext hx).place HOd.out htN)
          have hE : Ext wr wr.drew := Ext.drew wr
          clear hu hT hstp ht htN HU hij
          go_wp2
          clear m0 m1 m2 m3 q0 q1 q2 q3
          (refine walkR_start (fun w' => Ext wr w') 12 (by kernel_rfl) ?_; simp only [numbered, List.take_succ_cons, List.take_zero, Nat.zero_add, Nat.reduceAdd, List.length_cons, List.length_nil])
          (repeat (first | (refine walkR_still (v := ?_) rfl (by decide +kernel) rfl (fun _ _ _ h => h) hE ?_ ?_; rotate_left; (focus (intro w' hw'; obtain ⟨⟨⟨x0, x1, x2, x3⟩, ⟨r0, r1, r2, r3⟩⟩, k0, k1⟩ := And.intro (HMr.out w' hw') (HC4.out w' hw'); go_simp; all_goals (with_reducible rfl))); simp only [Act.put, List.setIfInBounds_toArray, List.set_cons_zero, List.set_cons_succ]) | (refine walkR_skip rfl (by decide +kernel) rfl (fun _ _ _ h => h) hE ?_; simp only [Act.put, List.setIfInBounds_toArray, List.set_cons_zero, List.set_cons_succ])))
          (refine walkR_only (fun w' => Ext wr w') rfl (by decide +kernel) rfl (fun _ h => h) ?_; intro K hK; go_simp; refine (HGet.out _ hE).mono ?_; rintro e w7 ⟨rfl, hx7⟩; refine hK _ _ (hE.trans hx7) ?_; clear hK K; (try simp only [Act.put, List.setIfInBounds_toArray, List.set_cons_zero, List.set_cons_succ]))
          have HX7 := hidP (hE.trans hx7)
          obtain ⟨⟨⟨x0, x1, x2, x3⟩, ⟨r0, r1, r2, r3⟩⟩, k0, k1⟩ := And.intro (HMr.out w7 HX7.out) (HC4.out w7 HX7.out)
          (refine walkR_tail (by rfl) (by kernel_rfl) ?_; simp only [List.drop_succ_cons, List.drop_zero])
          have HU3 := hidP (HUe.out w7 HX7.out)
          clear HUe HMr HC4 HGet hx7 hE x0 x1 x2 x3 r0 r1 r2 r3
          go_wp2
          go_roundw
          case rel => exact ⟨j + 1, by omega, by go_num, HU3⟩
          case measure => simp [intOf]; omega
        · obtain rfl : n = j := by omega
          obtain ⟨bv, ov, rfl, hcv⟩ := (HVr.out wr _ hu).get i hin
          have hblv := World.block_lt_of_cell? wr _ hcv
          have HC5 := hidP (fun w' (hx : Ext wr w') => (hx.cell (p := ⟨bv, ov + i, none⟩) hblv).trans hcv)
          have hstp2 := hstp.congr (D' := solD (i + 1) 0) (fun x y _ hy => by have := HSn.out; unfold solD; omega)
          rw [show augF n TM V i n = V.getD i 0 by unfold augF; rw [if_neg (Nat.lt_irrefl n)]] at hstp2
          generalize V.getD i 0 = x at *
          have HUe : Hid (∀ w', Ext wr w' → ∃ T, UpdI wd (w'.setCell ⟨b4, t, none⟩ (.int .i64 x)) (some ⟨b4, 0, none⟩) N2 T ∧ RecD n s (augF n TM V) (solD (i + 1) 0) T) := fun w' hx => ⟨_, by
            have := (hu.ext hx).store t htN x
            rwa [Nat.zero_add] at this, hstp2⟩
          have HMr := hidP (fun w' (hx : Ext wr w') => HMs.out w' _ (hu.ext hx))
          have HC4 := hidP (fun w' (hx : Ext wr w') => (hu.ext hx).place HOd.out htN)
          have hE : Ext wr wr.drew := Ext.drew wr
          clear hu hT hstp hstp2 ht htN HU hcv
          go_wp2
          clear m0 m1 m2 m3 q0 q1 q2 q3
          (refine walkR_start (fun w' => Ext wr w') 14 (by kernel_rfl) ?_; simp only [numbered, List.take_succ_cons, List.take_zero, Nat.zero_add, Nat.reduceAdd, List.length_cons, List.length_nil])
          (repeat (first | (refine walkR_still (v := ?_) rfl (by decide +kernel) rfl (fun _ _ _ h => h) hE ?_ ?_; rotate_left; (focus (intro w' hw'; obtain ⟨⟨⟨x0, x1, x2, x3⟩, ⟨r0, r1, r2, r3⟩⟩, k0, k1⟩ := And.intro (HMr.out w' hw') (HC4.out w' hw'); have k2 := HC5.out w' hw'; go_simp; all_goals (with_reducible rfl))); simp only [Act.put, List.setIfInBounds_toArray, List.set_cons_zero, List.set_cons_succ]) | (refine walkR_skip rfl (by decide +kernel) rfl (fun _ _ _ h => h) hE ?_; simp only [Act.put, List.setIfInBounds_toArray, List.set_cons_zero, List.set_cons_succ])))
          obtain ⟨⟨⟨x0, x1, x2, x3⟩, ⟨r0, r1, r2, r3⟩⟩, k0, k1⟩ := And.intro (HMr.out _ hE) (HC4.out _ hE)
          (refine walkR_tail (by rfl) (by kernel_rfl) ?_; simp only [List.drop_succ_cons, List.drop_zero])
          have HU3 := hidP (HUe.out _ hE)
          clear HUe HMr HC4 HC5 x0 x1 x2 x3 r0 r1 r2 r3
          go_wp2
          go_roundw
          case rel => exact ⟨i + 1, by omega, by go_num, HU3⟩
          case measure => simp [intOf]; omega
    · obtain rfl : n = i := by omega
      have hrw : matRows n s T = augM p n M V := by
        have e := HSn.out
        have hT' := hT
        rw [e] at hT' ⊢
        refine rec_aug hT' (fun x y hx _ => .inl hx) fun x y hx hy => ?_
        unfold augF
        by_cases hyn : y < n
        · rw [if_pos hyn, if_pos hyn, ← HM.out x y hx hyn]
          have := HR.out (x * n + y) (by rw [HAd.out.len, HN.out]; exact place_lt hx hyn)
          exact (Int.emod_eq_of_lt this.1 this.2).symm
        · rw [if_neg hyn, if_neg hyn]
          have := HRV.out x (by rw [HVd.out.len]; exact hx)
          exact (Int.emod_eq_of_lt this.1 this.2).symm
      have hfl : T = (augM p n M V).flatten := by rw [← hrw, matRows_flat hT.len]
      have ho := hu.own HOd.out
      rw [hfl] at ho
      have hRo : Rows p s (augM p n M V) := by
        have e := HSn.out
        rw [e]
        exact augM_rows (by omega) n M V
      have HRd := hidP (l1Reduce_any p n s a4 N2 N2 (augM p n M V) wr ho.ints ho.nil_cap hRo (augM_length p n M V) HP.out (by omega) (by have := HSn.out; omega) (by rw [← HN2.out]; omega))
      have HXr := hidP (hu.below HXd.out HXd.out.size (fun b o e _ => (HOd.out.at_base b o e).1))
      have HMr := hidP (fun w' (hx : Ext wr w') => (HMs.out w' _ (hu.ext hx)).1)
      have HOk := hidP (redTo_ok (p := p) (by omega) hRo s)
      have HEc : Hid (Ech p s (redTo p (augM p n M V) s)) := (red_all HP.out hRo s (Nat.le_refl _)).1
      have HCo := hidP ((coords_ok HP.out HBs.out V).1)
      clear hu hT hrw hfl ho hRo HU
      go_wp2_with fail
      refine HRd.out.mono ?_
      rintro e w5 ⟨a5, c5, ap, np, cp, det, rfl, ho5, hop5, hx5⟩
      have hnp := hop5.len
      obtain ⟨st, hst⟩ : ∃ st, st = redTo p (augM p n M V) s := ⟨_, rfl⟩
      have HSt := hidP hst
      rw [← hst] at ho5 hop5 hnp HOk HEc
      have hxb := Ext.alloc w5 (.cells #[.int .i64 p, .int .i64 (n : Int), .int .i64 (s : Int), .slice a5 N2 c5] 28)
      have hv9 := MatVar.new w5 p n s a5 N2 c5 28
      have HW6 : ∃ w6 b9, Hid (w5.alloc (.cells #[.int .i64 p, .int .i64 (n : Int), .int .i64 (s : Int), .slice a5 N2 c5] 28) = w6) ∧ Hid (w5.heap.size = b9) := ⟨_, _, rfl, rfl⟩
      obtain ⟨w6, b9, HW6, HB9⟩ := HW6
      rw [HW6.out] at hxb hv9
      rw [HB9.out] at hv9
      have HV9 := hidP hv9
      have HO6 := hidP (ho5.below hxb)
      have HOp6 := hidP (hop5.below hxb)
      have HX6 := hidP (HX1.out.trans (Ext.trans HXr.out (hx5.trans hxb)))
      have HXw := hidP (hx5.trans hxb)
      obtain ⟨m0', m1', m2', m3'⟩ := HMr.out w6 (hx5.trans hxb)
      have hno : ¬ (n : Int) ∈ st.2 := by
        intro hm
        obtain ⟨k, hk, e⟩ := List.getElem_of_mem hm
        have h1 : pivB st n = false := by rw [hst, HSn.out]; exact HCo.out
        have h2 : pivB st n = true := pivB_true.2 ⟨k, hk, by unfold pivN; rw [List.getD_eq_getElem?_getD, List.getElem?_eq_getElem hk, e]; simp⟩
        rw [h1] at h2
        cases h2
      have hnps : np ≤ 28 := by have := HOk.out.pn; rw [augM_length] at this; omega
      have HFi := hidP (l1Find_any ap np cp st.2 (n : Int) w6 HOp6.out.ints (by omega))
      have HNo := hidP hno
      have HNp := hidP hnp
      clear m0 m1 m2 m3 q0 q1 q2 q3 hno hnp hst ho5 hop5 hx5 hxb hv9 HRd
      go_wp2_with (with_reducible (refine stop_at 69 (by rfl) ?_))
      rw [HW6.out]
      try rw [HB9.out]
      clear HW6 HB9
      unfold Stopped
      go_wp2_with fail
      refine HFi.out.mono ?_
      rintro e w7 ⟨v, rfl, hv, hv1, hv2, rfl⟩
      have hvn : ¬ 0 ≤ v := fun h0 => HNo.out (hv.1 h0)
      have hmk := make_ints n (by omega) (by omega) w6
      have HOz := hidP (OwnI.made w6 w6.heap.size n (Nat.le_refl _) (by unfold maxLen; omega))
      have hxz := Ext.alloc w6 (.cells (Array.replicate n (.int .i64 0)) 3)
      simp only [Int.toNat_natCast] at hmk
      clear hv hv1 hv2 HFi
      go_wp2
      obtain ⟨w8, hw8⟩ : ∃ w8, w8 = w6.alloc (.cells (Array.replicate n (.int .i64 0)) 3) := ⟨_, rfl⟩
      rw [← hw8] at HOz hxz ⊢
      have HXz := hidP hxz
      clear hw8 hmk hxz m0' m1' m2' m3'
      go_loopw [13] (fun v7 wq => ∃ i : Nat, i ≤ np ∧ v7 = .int .i64 i ∧ Hid (OwnI wq w6.heap.size (some ⟨w6.heap.size, 0, none⟩) n n (solTo n st i)) ∧ Hid (Ext w6 wq)) (fun v7 _ => np - (intOf v7).toNat)
      case atStart => exact ⟨0, Nat.zero_le _, rfl, HOz, HXz⟩
      case round =>
        clear HOz HXz
        obtain ⟨i, hi, rfl, HS, HX⟩ := hrel
        by_cases hin : i < np
        · obtain ⟨gp, egp, _, hgp, hcp, _⟩ := (HOp6.out.below HX.out).cell i hin
          subst egp
          have hpn : st.2.getD i 0 = (pivN st i : Int) := by
            have := HOk.out.pv i (by rw [HNp.out]; exact hin)
            unfold pivN
            omega
          have hpl : pivN st i < n := by
            have h1 := HEc.out.lt i (by rw [HNp.out]; exact hin)
            have h2 := HSn.out
            have h3 : pivN st i ≠ n := fun e => by
              have h5 : pivB st n = true := pivB_true.2 ⟨i, by rw [HNp.out]; exact hin, e⟩
              have h4 := HCo.out
              rw [← h2, ← HSt.out, h5] at h4
              cases h4
            omega
          rw [hpn] at hcp
          have hval : st.1.flatten.getD (i * s + n) 0 = entN st i n := flat_get HOk.out.rows (by have h1 := HOk.out.pn; have h2 := HOk.out.len; have h3 := HNp.out; omega) (by have := HSn.out; omega)
          have hst2 := HS.out.stored (pivN st i) (entN st i n)
          obtain ⟨_, egz, _, _, hcz, hfz⟩ := HS.out.cell (pivN st i) hpl
          cases egz
          have hlt2 : i * s + n < N2 := by rw [HN2.out]; exact rec_lt (by have h1 := HOk.out.pn; rw [augM_length] at h1; have h3 := HNp.out; omega) (by have := HSn.out; omega)
          have HGet := hidP (fun w' (hx : Ext wr w') => l1At_any p n s i n N2 c5 a5 st.1.flatten w' ((HO6.out.below (Ext.trans HX.out hx)).ints) (by omega) hlt2)
          rw [hval] at HGet
          have HSs : Hid (∀ w', Ext wr w' → OwnI (w'.setCell ⟨w6.heap.size, pivN st i, none⟩ (.int .i64 (entN st i n))) w6.heap.size (some ⟨w6.heap.size, 0, none⟩) n n (solTo n st (i + 1))) := fun w' hx => (HS.out.below hx).stored (pivN st i) (entN st i n)
          generalize pivN st i = q at *
          generalize entN st i n = x at *
          have hbz := World.block_lt_of_cell? wr _ hcz
          have hbp := World.block_lt_of_cell? wr _ hcp
          have HCs := hidP (fun w' (hx : Ext wr w') => (⟨(hx.cell hbp).trans hcp, (hx.cell hbz).trans hcz, (hx.frozen (p := ⟨w6.heap.size, q, none⟩) hbz).trans hfz, (HV9.out.below (Ext.trans HX.out hx)).mat, HMr.out w' (Ext.trans HXw.out (Ext.trans HX.out hx))⟩ : _ ∧ _ ∧ _ ∧ _ ∧ _))
          have hqI : (q : Int) < (n : Int) := by omega
          have hq0 : (0 : Int) ≤ (q : Int) := by omega
          have hiI : (i : Int) < (np : Int) := by omega
          have hE : Ext wr wr.drew := Ext.drew wr
          clear hst2 hcp hcz hfz hpn hval hlt2 HS hbz hbp
          go_wp2
          (refine walkR_start (fun w' => Ext wr w') 10 (by kernel_rfl) ?_; simp only [numbered, List.take_succ_cons, List.take_zero, Nat.zero_add, Nat.reduceAdd, List.length_cons, List.length_nil])
          (repeat (first | (refine walkR_still (v := ?_) rfl (by decide +kernel) rfl (fun _ _ _ h => h) hE ?_ ?_; rotate_left; (focus (intro w' hw'; obtain ⟨k0, k1, k2, ⟨x0, x1, x2, x3⟩, ⟨r0, r1, r2, r3⟩⟩ := HCs.out w' hw'; go_simp; all_goals (with_reducible rfl))); simp only [Act.put, List.setIfInBounds_toArray, List.set_cons_zero, List.set_cons_succ]) | (refine walkR_skip rfl (by decide +kernel) rfl (fun _ _ _ h => h) hE ?_; simp only [Act.put, List.setIfInBounds_toArray, List.set_cons_zero, List.set_cons_succ])))
          (refine walkR_only (fun w' => Ext wr w') rfl (by decide +kernel) rfl (fun _ h => h) ?_; intro K hK; go_simp; refine (HGet.out _ hE).mono ?_; rintro e w9 ⟨rfl, hx9⟩; refine hK _ _ (hE.trans hx9) ?_; clear hK K; (try simp only [Act.put, List.setIfInBounds_toArray, List.set_cons_zero, List.set_cons_succ]))
          have HX9 := hidP (hE.trans hx9)
          obtain ⟨k0, k1, k2, ⟨x0, x1, x2, x3⟩, ⟨r0, r1, r2, r3⟩⟩ := HCs.out w9 HX9.out
          (refine walkR_tail (by rfl) (by kernel_rfl) ?_; simp only [List.drop_succ_cons, List.drop_zero])
          have HS9 := hidP (HSs.out w9 HX9.out)
          have HX10 : Hid (Ext w6 (w9.setCell ⟨w6.heap.size, q, none⟩ (.int .i64 x))) := Ext.setNew (Ext.trans HX.out HX9.out) _ _ (Nat.le_refl _) _
          clear HCs HSs HGet hx9 hE x0 x1 x2 x3 r0 r1 r2 r3
          go_wp2
          go_roundw
          case rel => exact ⟨i + 1, by omega, by go_num, HS9, HX10⟩
          case measure => simp [intOf]; omega
        · obtain rfl : np = i := by omega
          have HE : Hid (solTo n st np = solveL p n (redTo p (augM p n M V) (n + 1))) := by
            have h1 := HEc.out
            have h2 := HOk.out
            have h3 := HNp.out
            have h4 := HSt.out
            rw [HSn.out] at h1 h2 h4
            show _ = _
            rw [← h4, ← h3]
            exact solTo_all (by omega) h1 h2.rows (by rw [h2.len]; exact h2.pn)
          have hsz : w.heap.size ≤ w6.heap.size := HX6.out.size
          go_wp2
          refine bodyPost_ret (v := .tuple #[.slice (some ⟨w6.heap.size, 0, none⟩) n n, .bool true]) (by simp [results, Tryz.results200, go_sem]) rfl ⟨_, rfl, by rw [← HE.out]; exact HS.out.base hsz, HX6.out.trans HX.out⟩
end Go.Proofs.YtenlhfimdpcaoaaGreat

namespace Go.Proofs.YtenlhfimdpcaoaaGreat
open Go.RowKit

theorem prodTo_at {p : Int} {t : List Int} {d n : Nat} {S T : List (List Int)} (hT : T.length = n) {j : Nat} (hj : j < n) : ∀ (m i : Nat), i < m → (prodTo p t d S T m 0).getD (i * n + j) [] = brL p t d (S.getD i []) (T.getD j [])
  | 0, i, h => by omega
  | m + 1, i, h => by
    have hlen := prodTo_length p t d S T m 0 (Nat.zero_le _)
    rw [hT, Nat.add_zero] at hlen
    have e : prodTo p t d S T (m + 1) 0 = prodTo p t d S T m 0 ++ T.map (brL p t d (S.getD m [])) := by
      rw [← prodTo_row]
      cases m with
      | zero => simp [prodTo]
      | succ m => rw [← prodTo_row p t d S T m]; simp [prodTo]
    rw [e, List.getD_eq_getElem?_getD]
    by_cases him : i < m
    · have hlt : i * n + j < m * n := by
        have h3 : (i + 1) * n ≤ m * n := Nat.mul_le_mul_right _ him
        rw [Nat.add_mul, Nat.one_mul] at h3
        omega
      rw [List.getElem?_append_left (by omega), ← List.getD_eq_getElem?_getD]
      exact prodTo_at hT hj m i him
    · obtain rfl : i = m := by omega
      have hj2 : j < T.length := by omega
      rw [List.getElem?_append_right (by omega), hlen, Nat.add_sub_cancel_left, List.getElem?_map, List.getElem?_eq_getElem hj2, ← at_getD T j hj2 []]
      rfl
end Go.Proofs.YtenlhfimdpcaoaaGreat

namespace Go.Proofs.YtenlhfimdpcaoaaGreat
open Go.RowKit

theorem wpList_append_ints2 {ops : Array Oper} {rest : List Oper} {o : Oper} {a : Act} {Q : Exit → Act → World → Prop} {w : World} (hgd : o.guard = none) (s x : Operand)
    (ho : o.op = .call { callee := .builtin .append, args := #[s, x], argTypes := #[24, 24] })
    (B : Nat) (av : Option Addr) (nv cv : Nat) (xs : List Int) (hs : a.eval s = .slice av nv cv) (hown : OwnI w B av nv cv xs)
    (ad : Addr) (m c : Nat) (ys : List Int) (hx : a.eval x = .slice (some ad) m c) (hys : IntsAt w (some ad) m ys) (hm : 0 < m) (hsm : nv + m ≤ 1000000000000) (hB : B ≤ w.heap.size)
    (h : ∀ a' c' w', OwnI w' B a' (nv + m) c' (xs ++ ys) → w.grownBy w' (Value.slice av nv cv).ownBlock → OrNew w.heap.size av a' → wpList Tryz.prog ops Q rest (a.put o.dst (.slice a' (nv + m) c')) w') : wpList Tryz.prog ops Q (o :: rest) a w := by
  obtain ⟨i, hi, hz0, hz1, hz2⟩ := info_parts Tryz.info3
  have hl := hys.len
  have hnews : ∀ j u, (ivs ys)[j]? = some u → w.cell? (ad.add j) = some u := by
    intro j u hu
    obtain ⟨hj, rfl⟩ := ivs_get_inv hu
    obtain ⟨b, o', e, hc⟩ := hys.get j (by omega)
    simp only [Option.some.injEq] at e
    subst e
    rw [add_none]
    exact hc
  by_cases hroom : nv + m ≤ cv
  · rcases hown.row.2 with ⟨he, h0⟩ | ⟨g, cap, cur, he, _⟩
    · simp only [Value.slice.injEq] at he
      omega
    · simp only [Value.slice.injEq, true_and] at he
      obtain ⟨rfl, rfl⟩ := he
      refine wpList_append_fits w hgd s x 24 ho B 3 i 1 Tryz.underlying24 hi hz1 g nv cv (ivs xs) hs hown.row ad m c (ivs ys) hx (by simp [ivs_length, hl]) hnews (ivs_one ys) hroom ?_
      intro w' hr hg
      rw [show ivs xs ++ ivs ys = ivs (xs ++ ys) by simp [ivs]] at hr
      exact h _ _ w' ⟨hr⟩ hg (.inl rfl)
  · refine wpList_append_grows w hgd s x 24 ho 3 i (.int .i64 0) 1 8 Tryz.underlying24 hi hz0 hz1 hz2 rfl (by decide) av nv cv (ivs xs) hs ?_ (by simp [ivs_length, hown.len]) ?_ ad m c (ivs ys) hx (by simp [ivs_length, hl]) hnews (ivs_one ys) (by omega) (by unfold maxLen; omega) (by omega) ?_
    · intro e
      rcases hown.row.2 with ⟨he, h0⟩ | ⟨g, cap, cur, he, _⟩
      · simp only [Value.slice.injEq] at he
        exact ⟨h0, he.2.2⟩
      · simp only [Value.slice.injEq] at he
        rw [e] at he
        cases he.1
    · intro b e j u hu
      obtain ⟨hj, rfl⟩ := ivs_get_inv hu
      obtain ⟨g, e', _, _, hc, _⟩ := hown.cell j (by rw [← hown.len]; exact hj)
      rw [e] at e'
      simp only [Option.some.injEq] at e'
      subst e'
      rw [add_none, Nat.zero_add]
      exact hc
    · intro v' w' hr hg0
      have hg : w.grownBy w' (Value.slice av nv cv).ownBlock := ⟨hg0.os, hg0.tape, hg0.output, hg0.size, fun k hk _ => hg0.block k hk (by simp)⟩
      rw [show ivs xs ++ ivs ys = ivs (xs ++ ys) by simp [ivs]] at hr
      obtain ⟨a', c', rfl, ho'⟩ := own_of_row hr
      exact h a' c' w' (ho'.base hB) hg (.inr fun b o e => (ho'.at_base b o e).1)

/-- an algebra's block -/
def AlgB (w : World) (b : Nat) (p d : Int) (a : Option Addr) (n c : Nat) : Prop := w.heap[b]? = some (.cells #[.int .i64 p, .int .i64 d, .slice a n c] 26)
namespace AlgB
variable {w w' : World} {b : Nat} {p d : Int} {a : Option Addr} {n c : Nat}
theorem lt (h : AlgB w b p d a n c) : b < w.heap.size := (Array.getElem?_eq_some_iff.1 h).1
theorem at' (h : AlgB w b p d a n c) : AlgAt w b p d a n c := by
  unfold AlgB at h
  constructor <;> simp [World.cell?, h]
theorem fz (h : AlgB w b p d a n c) (j : Nat) : w.frozen? ⟨b, j, none⟩ = false := by
  unfold AlgB at h
  simp [World.frozen?, h]
theorem new (w : World) (p d : Int) (a : Option Addr) (n c : Nat) : AlgB (w.alloc (.cells #[.int .i64 p, .int .i64 d, .slice a n c] 26)) w.heap.size p d a n c := heap_alloc_new _ _
theorem same (h : AlgB w b p d a n c) (e : w'.heap[b]? = w.heap[b]?) : AlgB w' b p d a n c := e.trans h
theorem below (h : AlgB w b p d a n c) (hx : Ext w w') : AlgB w' b p d a n c := h.same (hx.block b h.lt)
theorem ne {B : Nat} {av : Option Addr} {m cv : Nat} {xs : List Int} (h : AlgB w b p d a n c) (k : OwnI w B av m cv xs) {g o : Nat} (e : av = some ⟨g, o, none⟩) : g ≠ b := by
  rintro rfl
  obtain ⟨cur, hc⟩ := k.block e
  unfold AlgB at h
  rw [h] at hc
  simp at hc
theorem grown {B : Nat} {av : Option Addr} {m cv : Nat} {xs : List Int} (h : AlgB w b p d a n c) (k : OwnI w B av m cv xs) (hg : w.grownBy w' (Value.slice av m cv).ownBlock) : AlgB w' b p d a n c := by
  refine h.same (hg.block b h.lt fun e => ?_)
  cases av with
  | none => simp [Value.ownBlock] at e
  | some q =>
    simp only [Value.ownBlock, Option.some.injEq] at e
    rcases k.row.2 with ⟨he, _⟩ | ⟨g', cap, cur, he, hB, hg', _⟩
    · simp at he
    · simp only [Value.slice.injEq, Option.some.injEq] at he
      obtain ⟨rfl, _⟩ := he
      exact h.ne k rfl e.symm
theorem put2 (h : AlgB w b p d a n c) (a' : Option Addr) (n' c' : Nat) : AlgB (w.setCell ⟨b, 2, none⟩ (.slice a' n' c')) b p d a' n' c' := heap_setCell_at w b 2 _ _ _ _ h
theorem other (h : AlgB w b p d a n c) {b' i : Nat} (v : Value) (hne : b' ≠ b) : AlgB (w.setCell ⟨b', i, none⟩ v) b p d a n c :=
  h.same (Below.heap_setCell _ _ _ _ hne.symm)
theorem off {B m cv : Nat} {av : Option Addr} {xs : List Int} (h : AlgB w b p d a n c) (k : OwnI w B av m cv xs) (i : Nat) (v : Value) : OwnI (w.setCell ⟨b, i, none⟩ v) B av m cv xs :=
  k.grown (row := some b) ⟨rfl, rfl, rfl, by simp [World.setCell], fun k _ hk => Below.heap_setCell _ _ _ _ (fun e => hk (by rw [e]))⟩ (fun g' o e => by simpa using h.ne k e)
end AlgB
end Go.Proofs.YtenlhfimdpcaoaaGreat

namespace Go.Proofs.YtenlhfimdpcaoaaGreat
open Go.RowKit

/-- the coordinates of the first k brackets in the rows of M -/
def tabRows (p : Int) (n : Nat) (M : List Int) (Br : List (List Int)) : Nat → List Int
  | 0 => []
  | k + 1 => tabRows p n M Br k ++ solveL p n (redTo p (augM p n M (Br.getD k [])) (n + 1))
theorem tabRows_length (p : Int) (n : Nat) (M : List Int) (Br : List (List Int)) : ∀ k, (tabRows p n M Br k).length = k * n
  | 0 => by simp [tabRows]
  | k + 1 => by rw [tabRows, List.length_append, tabRows_length p n M Br k, solveL, modL_length, Nat.add_mul, Nat.one_mul]
theorem tabRows_get (p : Int) (n : Nat) (M : List Int) (Br : List (List Int)) {y : Nat} (hy : y < n) : ∀ k q, q < k → (tabRows p n M Br k).getD (q * n + y) 0 = (solveL p n (redTo p (augM p n M (Br.getD q [])) (n + 1))).getD y 0
  | 0, q, h => by omega
  | k + 1, q, h => by
    have hl := tabRows_length p n M Br k
    rw [tabRows, List.getD_eq_getElem?_getD]
    by_cases e : q < k
    · have : q * n + y < k * n := rec_lt e hy
      rw [List.getElem?_append_left (by omega), ← List.getD_eq_getElem?_getD]
      exact tabRows_get p n M Br hy k q e
    · obtain rfl : q = k := by omega
      rw [List.getElem?_append_right (by omega), hl, Nat.add_sub_cancel_left, ← List.getD_eq_getElem?_getD]
theorem trn_res {p : Int} {n : Nat} {M T : List Int} (hM : Res p M) (hl : M.length = n * n) (hT : T.length = n * n) (h : ∀ i j, i < n → j < n → entM n T i j = entM n M j i) : Res p T := by
  intro q hq
  rw [hT] at hq
  have hn : 0 < n := by
    rcases Nat.eq_zero_or_pos n with h0 | h0
    · subst h0; simp at hq
    · exact h0
  have h1 : q / n < n := Nat.div_lt_of_lt_mul hq
  have h2 : q % n < n := Nat.mod_lt _ hn
  have h3 := h (q / n) (q % n) h1 h2
  unfold entM at h3
  rw [Nat.div_add_mod'] at h3
  rw [h3]
  exact hM _ (by rw [hl]; exact place_lt h2 h1)
/-- the table so far, in a variable; what else the loops read -/
structure TabSt (w : World) (U H bT : Nat) (p : Int) (n : Nat) (aT : Option Addr) (N : Nat) (T : List Int) (a : Option Addr) (k c : Nat) (xs : List Int) (wr : World) : Prop where
  alg : AlgB wr (H + 1 + 1 + 1) p n a k c
  own : OwnI wr H a k c xs
  pl : a = some ⟨H + 1 + 1, 0, none⟩ ∨ ∀ b o, a = some ⟨b, o, none⟩ → U ≤ b
  mat : MatB wr bT p n n aT N N
  tr : OwnI wr (H + 1 + 1 + 1 + 1) aT N N T
  res : AlgB wr (H + 1) 0 0 none 0 0
  ext : Ext w wr
  up : U ≤ wr.heap.size
theorem AlgB.put3 {w : World} {b : Nat} {p d : Int} {a : Option Addr} {n c : Nat} (h : AlgB w b p d a n c) (p' d' : Int) (a' : Option Addr) (n' c' : Nat) : AlgB (set3 w b (.int .i64 p') (.int .i64 d') (.slice a' n' c')) b p' d' a' n' c' :=
  heap_setCell_at _ b 2 _ _ _ _ (heap_setCell_at _ b 1 _ _ _ _ (heap_setCell_at w b 0 _ _ _ _ h))
namespace TabSt
variable {w wr w' : World} {U H bT : Nat} {p : Int} {n : Nat} {aT : Option Addr} {N : Nat} {T : List Int} {a : Option Addr} {k c : Nat} {xs : List Int}
theorem below (h : TabSt w U H bT p n aT N T a k c xs wr) (hx : Ext wr w') : TabSt w U H bT p n aT N T a k c xs w' :=
  ⟨h.alg.below hx, h.own.below hx, h.pl, h.mat.below hx, h.tr.below hx, h.res.below hx, h.ext.trans hx, Nat.le_trans h.up hx.size⟩
theorem push (h : TabSt w U H bT p n aT N T a k c xs wr) {a' : Option Addr} {k' c' : Nat} {ys : List Int} (ho : OwnI w' H a' k' c' ys) (hg : wr.grownBy w' (Value.slice a k c).ownBlock) (hn : OrNew wr.heap.size a a')
    (hT : ∀ b o, aT = some ⟨b, o, none⟩ → b < U) (hbT : H + 1 + 1 + 1 < bT) (hH : H = w.heap.size) : TabSt w U H bT p n aT N T a' k' c' ys (w'.setCell ⟨H + 1 + 1 + 1, 2, none⟩ (.slice a' k' c')) := by
  have ha := h.alg.grown h.own hg
  have hm := h.mat.grown h.own hg
  have hr := h.res.grown h.own hg
  have htr := h.tr.grown hg (fun g o e => by
    have h1 := hT g o e
    have h2 := (h.tr.at_base g o e).1
    cases ha0 : a with
    | none => simp [Value.ownBlock]
    | some q =>
      rcases h.own.row.2 with ⟨he, _⟩ | ⟨g', cap, cur, he, hB, _⟩
      · simp [ha0] at he
      · simp only [Value.slice.injEq] at he
        rw [ha0] at he
        simp only [Option.some.injEq] at he
        obtain ⟨rfl, _⟩ := he
        simp only [Value.ownBlock, ne_eq, Option.some.injEq]
        rcases h.pl with h3 | h3
        · rw [ha0] at h3
          simp only [Option.some.injEq, Addr.mk.injEq, and_true] at h3
          omega
        · have := h3 g' 0 ha0
          omega)
  refine ⟨ha.put2 _ _ _, ha.off ho 2 _, ?_, hm.other _ (by omega), htr.setBelow _ _ (by omega) _, hr.other _ (by omega), ?_, ?_⟩
  · rcases hn with rfl | h2
    · exact h.pl
    · exact .inr fun b o e => Nat.le_trans h.up (h2 b o e)
  · refine Ext.setNew ?_ _ _ (by omega) _
    have h2 : w.heap.size ≤ wr.heap.size := h.ext.size
    exact grown_ext hg h.ext h2 (fun q e => by rw [← hH]; exact h.own.addr_base q e)
  · have := h.up
    have h2 := hg.size
    simp only [World.setCell, Array.size_modify]
    omega
end TabSt
set_option maxRecDepth 100000 in
set_option maxHeartbeats 8000000 in
theorem l2Table_any (p : Int) (n : Nat) (a av : Option Addr) (N c nv cv : Nat) (M : List Int) (Br : List (List Int)) (w : World) (h : IntsAt w a N M) (hN : N = n * n) (hv : RowsI w av nv Br) (hnv : nv = n * n) (hBr : Rows p n Br) (hn : n ≤ 28) (hp : primeB p = true)
    (hr : Res p M) (hB : Basis p n M) :
    Calls Tryz.prog 178 #[matV p n n a N c, .slice av nv cv] w fun e w' => ∃ a' N' c', e = .returned (.tuple #[algV p n a' N' c', .bool true]) ∧ OwnI w' w.heap.size a' N' c' (tabRows p n M Br (n * n)) ∧ Ext w w' := by
  obtain ⟨p2, p7⟩ := prime_bounds hp
  have hx1 := Ext.alloc w (.cells #[.int .i64 p, .int .i64 (n : Int), .int .i64 (n : Int), .slice a N c] 28)
  have hb1 := MatB.new w p n n a N c
  obtain ⟨w1, hw1⟩ : ∃ w1, w1 = w.alloc (.cells #[.int .i64 p, .int .i64 (n : Int), .int .i64 (n : Int), .slice a N c] 28) := ⟨_, rfl⟩
  have s1 : w1.heap.size = w.heap.size + 1 := by rw [hw1]; simp
  rw [← hw1] at hx1 hb1
  have hx2 := Ext.alloc w1 (.cells #[.int .i64 0, .int .i64 0, .slice none 0 0] 26)
  have hb2 := AlgB.new w1 0 0 none 0 0
  obtain ⟨w2, hw2⟩ : ∃ w2, w2 = w1.alloc (.cells #[.int .i64 0, .int .i64 0, .slice none 0 0] 26) := ⟨_, rfl⟩
  have s2 : w2.heap.size = w.heap.size + 1 + 1 := by rw [hw2]; simp [s1]
  rw [← hw2] at hx2 hb2
  rw [s1] at hb2
  have hx3 := Ext.alloc w2 (.cells #[] 3)
  have ho3 : OwnI (w2.alloc (.cells #[] 3)) w.heap.size (some ⟨w2.heap.size, 0, none⟩) 0 0 [] := OwnI.made w2 w.heap.size 0 (by omega) (by unfold maxLen; omega)
  obtain ⟨w3, hw3⟩ : ∃ w3, w3 = w2.alloc (.cells #[] 3) := ⟨_, rfl⟩
  have s3 : w3.heap.size = w.heap.size + 1 + 1 + 1 := by rw [hw3]; simp [s2]
  rw [← hw3] at hx3 ho3
  rw [s2] at ho3
  have hx4 := Ext.alloc w3 (.cells #[.int .i64 p, .int .i64 (n : Int), .slice (some ⟨w.heap.size + 1 + 1, 0, none⟩) 0 0] 26)
  have hb4 := AlgB.new w3 p n (some ⟨w.heap.size + 1 + 1, 0, none⟩) 0 0
  obtain ⟨w4, hw4⟩ : ∃ w4, w4 = w3.alloc (.cells #[.int .i64 p, .int .i64 (n : Int), .slice (some ⟨w.heap.size + 1 + 1, 0, none⟩) 0 0] 26) := ⟨_, rfl⟩
  have s4 : w4.heap.size = w.heap.size + 1 + 1 + 1 + 1 := by rw [hw4]; simp [s3]
  rw [← hw4] at hx4 hb4
  rw [s3] at hb4
  have hX := ((hx1.trans hx2).trans hx3).trans hx4
  have HB1 := hidP (((hb1.below hx2).below hx3).below hx4)
  have HB2 := hidP ((hb2.below hx3).below hx4)
  have HB4 := hidP hb4
  have HO3 := hidP (ho3.below hx4)
  have HX4 := hidP hX
  have HW1 : Hid (w.alloc (.cells #[.int .i64 p, .int .i64 (n : Int), .int .i64 (n : Int), .slice a N c] 28) = w1) := hw1.symm
  have HW2 : Hid (w1.alloc (.cells #[.int .i64 0, .int .i64 0, .slice none 0 0] 26) = w2) := hw2.symm
  have HW3 : Hid (w2.alloc (.cells #[] 3) = w3) := hw3.symm
  have HW4 : Hid (w3.alloc (.cells #[.int .i64 p, .int .i64 (n : Int), .slice (some ⟨w.heap.size + 1 + 1, 0, none⟩) 0 0] 26) = w4) := hw4.symm
  have HTr := hidP (l1Transpose_any p n a N c M w4 (h.below hX) hN (by omega))
  have HML := hidP h.len
  have HS4 := hidP s4
  have HRw := hidP hv
  have HN := hidP hN
  have HNv := hidP hnv
  have HBr := hidP hBr
  have HP := hidP hp
  have HR := hidP hr
  have HBs := hidP hB
  clear hx1 hx2 hx3 hx4 hb1 hb2 hb4 ho3 hw1 hw2 hw3 hw4 hX s1 s2 s3 s4 h hv hN hnv hBr hp hr hB
  go_enter Tryz.func178, Tryz.ntmps178
  go_wp2_with fail
  rw [HW1.out, HW2.out, HW3.out, HW4.out]
  clear HW1 HW2 HW3 HW4
  refine HTr.out.mono ?_
  rintro e w5 ⟨aT, T, rfl, ho5, hT, hx5⟩
  have hTl : T.length = N := ho5.len
  have hTr : Res p T := trn_res HR.out (by rw [HML.out, HN.out]) (by rw [hTl, HN.out]) hT
  have hxa := Ext.alloc w5 (.cells #[.int .i64 p, .int .i64 (n : Int), .int .i64 (n : Int), .slice aT N N] 28)
  have hbT := MatB.new w5 p n n aT N N
  have HWd : ∃ wd bT, Hid (w5.alloc (.cells #[.int .i64 p, .int .i64 (n : Int), .int .i64 (n : Int), .slice aT N N] 28) = wd) ∧ Hid (w5.heap.size = bT) := ⟨_, _, rfl, rfl⟩
  obtain ⟨wd, bT, HWd, HBT⟩ := HWd
  rw [HWd.out] at hxa hbT
  rw [HBT.out] at hbT
  have HMT := hidP hbT
  have HOT := hidP (ho5.below hxa)
  have HX45 := hidP (hx5.trans hxa)
  have HB4d := hidP (HB4.out.below (hx5.trans hxa))
  have HB2d := hidP (HB2.out.below (hx5.trans hxa))
  have HO3d := hidP (HO3.out.below (hx5.trans hxa))
  have HTM := hidP hT
  have HTR := hidP hTr
  obtain ⟨H, hH⟩ : ∃ H, H = w.heap.size := ⟨_, rfl⟩
  have HH := hidP hH
  rw [← hH] at HB2d HB4d HO3d HS4
  have HDs : Hid (w4.heap.size < wd.heap.size ∧ w4.heap.size ≤ bT) := ⟨by have := hx5.size; have h2 : w5.heap.size < wd.heap.size := by rw [← HWd.out]; simp
                                                                          omega, by have := hx5.size; have := HBT.out; omega⟩
  clear hT hTl hTr hxa hbT ho5 hx5 HTr
  go_wp2
  rw [HWd.out, HBT.out]
  rw [← hH]
  clear hH HWd HBT
  have HTb : Hid (∀ b o, aT = some ⟨b, o, none⟩ → b < wd.heap.size) := fun b o e => (HOT.out.at_base b o e).2
  have HS0 : Hid (TabSt w wd.heap.size H bT p n aT N T (some ⟨H + 1 + 1, 0, none⟩) 0 0 (tabRows p n M Br 0) wd) :=
    ⟨HB4d.out, HO3d.out, .inl rfl, HMT.out, HOT.out.base (by have := HS4.out; omega), HB2d.out, HX4.out.trans HX45.out, Nat.le_refl _⟩
  have HBt : Hid (H + 1 + 1 + 1 < bT) := by have h1 := HDs.out.2; have h2 := HS4.out; show _ < _; omega
  have HNe : Hid (n * n = n * n + 0) := (Nat.add_zero _).symm
  clear HMT HOT HB4d HB2d HO3d
  go_loopw [9] (fun v9 wr => ∃ (i : Nat) (a : Option Addr) (c : Nat), i ≤ n ∧ v9 = .int .i64 i ∧ Hid (TabSt w wd.heap.size H bT p n aT N T a (i * n * n) c (tabRows p n M Br (i * n)) wr)) (fun v9 _ => n - (intOf v9).toNat)
  case atStart => exact ⟨0, _, _, Nat.zero_le _, rfl, by simpa using HS0⟩
  case round =>
    clear HS0
    obtain ⟨i, a, c, hi, rfl, HS⟩ := hrel
    by_cases hin : i < n
    · have hiI : (i : Int) < (n : Int) := by omega
      have HSi : Hid (TabSt w wd.heap.size H bT p n aT N T a ((i * n + 0) * n) c (tabRows p n M Br (i * n + 0)) wr) := by rw [Nat.add_zero]; exact HS
      clear HS
      go_wp2
      go_loopw [10] (fun v9 wr => ∃ (j : Nat) (a : Option Addr) (c : Nat), j ≤ n ∧ v9 = .int .i64 j ∧ Hid (TabSt w wd.heap.size H bT p n aT N T a ((i * n + j) * n) c (tabRows p n M Br (i * n + j)) wr)) (fun v9 _ => n - (intOf v9).toNat)
      case atStart => exact ⟨0, _, _, Nat.zero_le _, rfl, HSi⟩
      case round =>
        clear HSi
        obtain ⟨j, a, c, hj, rfl, HS⟩ := hrel
        by_cases hjn : j < n
        · have hjI : (j : Int) < (n : Int) := by omega
          have hq : i * n + j < nv := by rw [HNv.out]; exact place_lt hin hjn
          have hqN : (i * n + j) * n + n ≤ n * n * n := by
            have h1 : (i * n + j + 1) * n ≤ n * n * n := Nat.mul_le_mul_right _ (place_lt hin hjn)
            rw [Nat.add_mul (i * n + j), Nat.one_mul] at h1
            exact h1
          have hN3 : n * n * n ≤ 28 * 28 * 28 := Nat.mul_le_mul (Nat.mul_le_mul hn hn) hn
          have hin2 : i * n ≤ 28 * 28 := Nat.mul_le_mul (by omega) hn
          have f1 : IntKind.i64.wrap ((i : Int) * n) = ((i * n : Nat) : Int) := by rw [← Int.natCast_mul]; exact wrap_in (by omega) (by omega)
          have f2 : IntKind.i64.wrap (((i * n : Nat) : Int) + j) = ((i * n + j : Nat) : Int) := by rw [← Int.natCast_add]; exact wrap_in (by omega) (by omega)
          obtain ⟨t, ht⟩ : ∃ t, t = i * n + j := ⟨_, rfl⟩
          have HTt := hidP ht
          rw [← ht] at hq hqN f2 HS
          obtain ⟨y1, hy1⟩ : ∃ y1, y1 = i * n := ⟨_, rfl⟩
          rw [← hy1] at f1 f2 hin2
          clear hy1
          obtain ⟨bb, ob, ar, cr, rfl, hcr, hir, _⟩ := HRw.out.get t hq
          have hrl : (Br.getD t []).length = n := HBr.out.len t (by rw [HRw.out.len]; exact hq)
          have hrr : Res p (Br.getD t []) := HBr.out.res t (by rw [HRw.out.len]; exact hq)
          rw [hrl] at hcr hir
          have hbl := World.block_lt_of_cell? w _ hcr
          have HC := hidP (fun w' (hx : Ext wr w') => (⟨(HS.out.below hx).mat.at', ((HS.out.ext.trans hx).cell (p := ⟨bb, ob + t, none⟩) hbl).trans hcr⟩ : _ ∧ _))
          have HSo := hidP (fun w' (hx : Ext wr w') => l1Solve_any p n aT ar N N cr T (Br.getD t []) M w' (HS.out.below hx).tr.ints HN.out (hir.below (HS.out.ext.trans hx)) hn HP.out HTM.out HTR.out hrr HBs.out)
          have HSx := hidP (fun w' (hx : Ext wr w') => HS.out.below hx)
          have htI : (t : Int) < (nv : Int) := by omega
          have ht0 : (0 : Int) ≤ (t : Int) := by omega
          have hE : Ext wr wr.drew := Ext.drew wr
          have hsuc : tabRows p n M Br (t + 1) = tabRows p n M Br t ++ solveL p n (redTo p (augM p n M (Br.getD t [])) (n + 1)) := rfl
          have HSuc := hidP hsuc
          clear hq ht hcr hir hrl hrr hbl hsuc HS
          generalize solveL p n (redTo p (augM p n M (Br.getD t [])) (n + 1)) = sol at *
          go_wp2
          (refine walkR_start (fun w' => Ext wr w') 14 (by kernel_rfl) ?_; simp only [numbered, List.take_succ_cons, List.take_zero, Nat.zero_add, Nat.reduceAdd, List.length_cons, List.length_nil])
          (repeat (first | (refine walkR_still (v := ?_) rfl (by decide +kernel) rfl (fun _ _ _ h => h) hE ?_ ?_; rotate_left; (focus (intro w' hw'; obtain ⟨⟨x0, x1, x2, x3⟩, k0⟩ := HC.out w' hw'; go_simp; all_goals (with_reducible rfl))); simp only [Act.put, List.setIfInBounds_toArray, List.set_cons_zero, List.set_cons_succ]) | (refine walkR_skip rfl (by decide +kernel) rfl (fun _ _ _ h => h) hE ?_; simp only [Act.put, List.setIfInBounds_toArray, List.set_cons_zero, List.set_cons_succ])))
          (refine walkR_only (fun w' => Ext wr w') rfl (by decide +kernel) rfl (fun _ h => h) ?_; intro K hK; go_simp; refine (HSo.out _ hE).mono ?_; rintro e w7 ⟨a7, rfl, ho7, hx7⟩; refine hK _ _ (hE.trans hx7) ?_; clear hK K; (try simp only [Act.put, List.setIfInBounds_toArray, List.set_cons_zero, List.set_cons_succ]))
          have hE7 := hE.trans hx7
          (repeat (first | (refine walkR_still (v := ?_) rfl (by decide +kernel) rfl (fun _ _ _ h => h) hE7 ?_ ?_; rotate_left; (focus (intro w' hw'; skip; go_simp; all_goals (with_reducible rfl))); simp only [Act.put, List.setIfInBounds_toArray, List.set_cons_zero, List.set_cons_succ]) | (refine walkR_skip rfl (by decide +kernel) rfl (fun _ _ _ h => h) hE7 ?_; simp only [Act.put, List.setIfInBounds_toArray, List.set_cons_zero, List.set_cons_succ])))
          (refine walkR_tail (by rfl) (by kernel_rfl) ?_; simp only [List.drop_succ_cons, List.drop_zero])
          have HS7 := hidP (HSx.out w7 hE7)
          obtain ⟨g7, rfl, _, _, _, _⟩ := ho7.cell 0 (by omega)
          have HI7 := hidP ho7.ints
          obtain ⟨y0, y1, y2⟩ := HS7.out.alg.at'
          have HHb : Hid (H ≤ w7.heap.size) := by
            have h1 := HS7.out.ext.size
            have h2 := HH.out
            show _ ≤ _
            omega
          clear HSo HC HSx ho7 hx7 hE hE7
          go_wp2_with (at_builtin; refine wpList_append_ints2 rfl (.tmp 49) (.tmp 50) rfl H a (t * n) c (tabRows p n M Br t) rfl HS7.out.own ⟨g7, 0, none⟩ n n sol rfl HI7.out (by omega) (by omega) HHb.out ?_; intro a5 c5 w5 ho5 hg5 hn5; have HA5 := hidP (HS7.out.alg.grown HS7.out.own hg5); rw [← HSuc.out] at ho5; have HP5 := hidP (HS7.out.push ho5 hg5 hn5 HTb.out HBt.out HH.out); clear ho5 hg5 hn5 y0 y1 y2; obtain ⟨y0, y1, y2⟩ := HA5.out.at'; have y3 := HA5.out.fz 2)
          have e9 : t * n + n = (i * n + (j + 1)) * n := by rw [HTt.out, ← Nat.add_assoc, Nat.add_mul (i * n + j) 1, Nat.one_mul]
          have HP6 : Hid (TabSt w wd.heap.size H bT p n aT N T a5 ((i * n + (j + 1)) * n) c5 (tabRows p n M Br (i * n + (j + 1))) (w5.setCell ⟨H + 1 + 1 + 1, 2, none⟩ (.slice a5 (t * n + n) c5))) := by
            have h1 := HP5.out
            rw [e9] at h1 ⊢
            rwa [HTt.out, Nat.add_assoc] at h1
          clear HP5 y0 y1 y2 y3
          go_roundw
          case rel => exact ⟨j + 1, a5, c5, by omega, by go_num, HP6⟩
          case measure => simp [intOf]; omega
        · obtain rfl : n = j := by omega
          have HS2 : Hid (TabSt w wd.heap.size H bT p n aT N T a ((i + 1) * n * n) c (tabRows p n M Br ((i + 1) * n)) wr) := by
            have h1 := HS.out
            rwa [show i * n + n = (i + 1) * n by rw [Nat.add_mul, Nat.one_mul]] at h1
          clear HS
          go_wp2
          go_roundw
          case rel => exact ⟨i + 1, a, c, by omega, by go_num, HS2⟩
          case measure => simp [intOf]; omega
    · obtain rfl : n = i := by omega
      have HA := hidP HS.out.alg
      have HR2 := hidP HS.out.res
      obtain ⟨y0, y1, y2⟩ := HA.out.at'
      obtain ⟨z0, z1, z2⟩ := HR2.out.at'
      have zf0 := HR2.out.fz 0
      have zf1 := HR2.out.fz 1
      have zf2 := HR2.out.fz 2
      have HQ := hidP HS.out
      obtain ⟨N3, hN3⟩ : ∃ N3, N3 = n * n * n := ⟨_, rfl⟩
      rw [← hN3] at HQ y2 HA
      clear hN3 HS
      have HSt := hidP (HR2.out.put3 p n a N3 c)
      have hne : H + 1 + 1 + 1 ≠ H + 1 := by omega
      go_wp2
      obtain ⟨r0, r1, r2⟩ := HSt.out.at'
      unfold set3 at r0 r1 r2
      have HO2 := HQ.out.own
      refine bodyPost_ret (v := .tuple #[algV p n a N3 c, .bool true]) (by simp [results, Tryz.results178, go_sem, r0, r1, r2]) rfl ⟨_, _, _, rfl, ?_, ?_⟩
      · rw [← HH.out]
        exact HQ.out.own.grown (set3_gb wr (H + 1) (.int .i64 p) (.int .i64 (n : Int)) (.slice a N3 c)) (fun b o e => by simpa using HR2.out.ne HQ.out.own e)
      · have h2 := HH.out
        exact Below.grown HQ.out.ext (set3_gb wr (H + 1) (.int .i64 p) (.int .i64 (n : Int)) (.slice a N3 c)) HQ.out.ext.size fun j hj => by cases hj; omega
end Go.Proofs.YtenlhfimdpcaoaaGreat

namespace Go.Proofs.YtenlhfimdpcaoaaGreat
open Go.RowKit

section
variable {P : Program} {ops : Array Oper} {Q : Exit → Act → World → Prop} {n : Nat} {C : World → Prop}
/-- the second operation is put behind all others -/
theorem walkR_laterS {x y : Nat × Oper} {rem : List (Nat × Oper)} {f : Nat} {listed : Array Bool} {a : Act} {w : World} (h : WalkR P ops Q n C (x :: (rem ++ [y])) f listed a w) : WalkR P ops Q n C (x :: y :: rem) f listed a w := h
theorem walkR_split {i j : Nat} {oi oj : Oper} {rem : List (Nat × Oper)} {f : Nat} {listed : Array Bool} {a : Act} {w : World} (hi : ops[i]? = some oi) (hj : ops[j]? = some oj)
    (hb : (decide (Region.ready .any ops listed = [i, j]) && decide (i < n) && decide (j < n)) = true) (hwi : Region.wanted oi (yielded ops a.tmps) = true) (hwj : Region.wanted oj (yielded ops a.tmps) = true)
    (h1 : ∀ K : Act → World → Prop, (∀ a' w', C w' → WalkR P ops Q n C ((j, oj) :: rem) f (listed.setIfInBounds i true) a' w' → K a' w') → oi.wp P a w K Q)
    (h2 : ∀ K : Act → World → Prop, (∀ a' w', C w' → WalkR P ops Q n C ((i, oi) :: rem) f (listed.setIfInBounds j true) a' w' → K a' w') → oj.wp P a w K Q) : WalkR P ops Q n C ((i, oi) :: (j, oj) :: rem) (f + 1) listed a w :=
  walkC_split hi hj hb hwi hwj h1 h2
end
theorem rowsM_mat {n : Nat} {M : List Int} (hl : M.length = n * n) : matRows n n M = rowsM n M := by
  refine List.ext_getElem (by rw [matRows_length, rowsM_length]) fun i h1 h2 => ?_
  have hi : i < n := by rwa [matRows_length] at h1
  rw [at_getD _ _ h1 [], at_getD _ _ h2 [], matRows_get _ _ _ _ hi]
  have hb : i * n + n ≤ M.length := by
    have h3 : (i + 1) * n ≤ n * n := Nat.mul_le_mul_right _ hi
    rw [Nat.add_mul, Nat.one_mul] at h3
    rw [hl]
    exact h3
  have hrl : ((rowsM n M).getD i []).length = n := by simp [rowsM, List.getD_eq_getElem?_getD, hi]
  refine ints_ext (by rw [List.length_take, List.length_drop, hrl]; omega) fun y hy => ?_
  rw [List.length_take, List.length_drop] at hy
  rw [rowsM_get M hi (by omega), List.getD_eq_getElem?_getD, List.getElem?_take, if_pos (by omega), List.getElem?_drop, ← List.getD_eq_getElem?_getD]
  rfl
/-- the table in the basis M -/
def chgT (p : Int) (t : List Int) (n : Nat) (M : List Int) : List Int := tabRows p n M (prodTo p t n (rowsM n M) (rowsM n M) n 0) (n * n)
theorem chgT_valid {p : Int} {n : Nat} {t M : List Int} (h : algB p n t = true) (hM : Basis p n M) : algB p n (chgT p t n M) = true := by
  refine change_valid h hM (by rw [chgT, tabRows_length]) fun i j k hi hj hk => ?_
  unfold tab chgT
  rw [tabRows_get _ _ _ _ hk _ _ (place_lt hi hj), prodTo_at (by rw [rowsM_length]) hj _ _ hi]
set_option maxRecDepth 100000 in
set_option maxHeartbeats 8000000 in
theorem l2Change_any (p : Int) (n : Nat) (aT am : Option Addr) (N c N2 c2 : Nat) (t M : List Int) (w : World) (ht : IntsAt w aT N t) (hM : IntsAt w am N2 M) (hN : N = n * n * n) (hN2 : N2 = n * n) (hc2 : N2 ≤ c2) (hcb : c2 ≤ 9223372036854775807) (hn : n ≤ 28) (hp : primeB p = true)
    (hrt : Res p t) (hrM : Res p M) (hB : Basis p n M) :
    Calls Tryz.prog 148 #[algV p n aT N c, matV p n n am N2 c2] w fun e w' => ∃ a' N' c', e = .returned (algV p n a' N' c') ∧ OwnI w' w.heap.size a' N' c' (chgT p t n M) ∧ Ext w w' := by
  have hx1 := Ext.alloc w (.cells #[.int .i64 p, .int .i64 (n : Int), .slice aT N c] 26)
  have hb1 := AlgB.new w p n aT N c
  obtain ⟨w1, hw1⟩ : ∃ w1, w1 = w.alloc (.cells #[.int .i64 p, .int .i64 (n : Int), .slice aT N c] 26) := ⟨_, rfl⟩
  have s1 : w1.heap.size = w.heap.size + 1 := by rw [hw1]; simp
  rw [← hw1] at hx1 hb1
  have hx2 := Ext.alloc w1 (.cells #[.int .i64 p, .int .i64 (n : Int), .int .i64 (n : Int), .slice am N2 c2] 28)
  have hb2 := MatB.new w1 p n n am N2 c2
  obtain ⟨w2, hw2⟩ : ∃ w2, w2 = w1.alloc (.cells #[.int .i64 p, .int .i64 (n : Int), .int .i64 (n : Int), .slice am N2 c2] 28) := ⟨_, rfl⟩
  have s2 : w2.heap.size = w.heap.size + 1 + 1 := by rw [hw2]; simp [s1]
  rw [← hw2] at hx2 hb2
  rw [s1] at hb2
  have hx3 := Ext.alloc w2 (.cells #[.int .i64 0, .int .i64 0, .slice none 0 0] 26)
  have hb3 := AlgB.new w2 0 0 none 0 0
  obtain ⟨w3, hw3⟩ : ∃ w3, w3 = w2.alloc (.cells #[.int .i64 0, .int .i64 0, .slice none 0 0] 26) := ⟨_, rfl⟩
  have s3 : w3.heap.size = w.heap.size + 1 + 1 + 1 := by rw [hw3]; simp [s2]
  rw [← hw3] at hx3 hb3
  rw [s2] at hb3
  have HW1 : Hid (w.alloc (.cells #[.int .i64 p, .int .i64 (n : Int), .slice aT N c] 26) = w1) := hw1.symm
  have HW2 : Hid (w1.alloc (.cells #[.int .i64 p, .int .i64 (n : Int), .int .i64 (n : Int), .slice am N2 c2] 28) = w2) := hw2.symm
  have HW3 : Hid (w2.alloc (.cells #[.int .i64 0, .int .i64 0, .slice none 0 0] 26) = w3) := hw3.symm
  have hX := (hx1.trans hx2).trans hx3
  have HB1 := hidP ((hb1.below hx2).below hx3)
  have HB2 := hidP (hb2.below hx3)
  have HB3 := hidP hb3
  have HX := hidP hX
  have HS3 := hidP s3
  have hml : M.length = n * n := hM.len.trans hN2
  have HBr := hidP (fun w' (hx : Ext w3 w') => l2Brackets_any p n n aT am N c N2 c2 t M w' hn hN (ht.below (hX.trans hx)) (hM.below (hX.trans hx)) hN2 hc2 hcb hp hrt hrM hn (by omega))
  rw [rowsM_mat hml] at HBr
  have HTb := hidP (fun w' (hx : Ext w3 w') av nv cv hv (hr : RowsI w' av nv (prodTo p t n (rowsM n M) (rowsM n M) n 0)) => l2Table_any p n am av N2 c2 nv cv M _ w' (hM.below (hX.trans hx)) hN2 hr hv (prodTo_rows (by have := (prime_bounds hp).1; omega) t n _ _ n 0) hn hp hrM hB)
  have hln : (prodTo p t n (rowsM n M) (rowsM n M) n 0).length = n * n := by
    rw [prodTo_length _ _ _ _ _ _ _ (Nat.zero_le _), rowsM_length, Nat.add_zero]
  have HLn := hidP hln
  have HC : Hid (tabRows p n M (prodTo p t n (rowsM n M) (rowsM n M) n 0) (n * n) = chgT p t n M) := rfl
  rw [HC.out] at HTb
  generalize prodTo p t n (rowsM n M) (rowsM n M) n 0 = Br at *
  generalize chgT p t n M = T at *
  clear hx1 hx2 hx3 hb1 hb2 hb3 hw1 hw2 hw3 s1 s2 s3 hX ht hM hN hN2 hml hrt hrM hB hp hln HC
  go_enter Tryz.func148, Tryz.ntmps148
  go_wp2_with fail
  rw [HW1.out, HW2.out, HW3.out]
  clear HW1 HW2 HW3
  have hE : Ext w3 w3.drew := Ext.drew w3
  (refine walkR_start (fun w' => Ext w3 w') 10 (by kernel_rfl) ?_; simp only [numbered, List.take_succ_cons, List.take_zero, Nat.zero_add, Nat.reduceAdd, List.length_cons, List.length_nil])
  (repeat (first | (refine walkR_still (v := ?_) rfl (by decide +kernel) rfl (fun _ _ _ h => h) hE ?_ ?_; rotate_left; (focus (intro w' hw'; obtain ⟨⟨x0, x1, x2⟩, ⟨y0, y1, y2, y3⟩⟩ := And.intro (HB1.out.below hw').at' (HB2.out.below hw').at'; go_simp; all_goals (with_reducible rfl))); simp only [Act.put, List.setIfInBounds_toArray, List.set_cons_zero, List.set_cons_succ]) | (refine walkR_skip rfl (by decide +kernel) rfl (fun _ _ _ h => h) hE ?_; simp only [Act.put, List.setIfInBounds_toArray, List.set_cons_zero, List.set_cons_succ])))
  have hvar : ∀ w' : World, AlgB (w'.alloc (.cells #[.int .i64 0, .int .i64 0, .slice none 0 0] 26)) w'.heap.size 0 0 none 0 0 := fun w' => AlgB.new w' 0 0 none 0 0
  have HVar := hidP hvar
  clear hvar
  (refine walkR_laterS ?_; simp only [List.cons_append, List.nil_append])
  (refine walkR_laterS ?_; simp only [List.cons_append, List.nil_append])
  (refine walkR_laterS ?_; simp only [List.cons_append, List.nil_append])
  (refine walkR_laterS ?_; simp only [List.cons_append, List.nil_append])
  refine walkR_split rfl rfl (by decide +kernel) rfl rfl ?_ ?_
  · intro K hK
    go_simp
    refine (HBr.out _ hE).mono ?_
    rintro e w4 ⟨av, nv, cv, hv, rfl, ho4, hx4⟩
    have hE4 := hE.trans hx4
    have hr4 := ho4.rowsI
    have HL4 : Hid (nv = n * n) := hr4.len.symm.trans HLn.out
    refine hK _ _ hE4 ?_
    clear hK K
    (try simp only [Act.put, List.setIfInBounds_toArray, List.set_cons_zero, List.set_cons_succ])
    (refine walkR_later ?_; simp only [List.cons_append, List.nil_append]); (refine walkR_later ?_; simp only [List.cons_append, List.nil_append])
    (refine walkR_laterS ?_; simp only [List.cons_append, List.nil_append])
    (refine walkR_laterS ?_; simp only [List.cons_append, List.nil_append])
    (refine walkR_laterS ?_; simp only [List.cons_append, List.nil_append])
    refine walkR_split rfl rfl (by decide +kernel) rfl rfl ?_ ?_
    · intro K hK
      go_simp
      refine (HTb.out _ hE4 av nv cv HL4.out hr4).mono ?_
      rintro e w5' ⟨a5, N5, c5, rfl, ho5', hx5⟩
      have hE5' := hE4.trans hx5
      refine hK _ _ hE5' ?_
      clear hK K
      (try simp only [Act.put, List.setIfInBounds_toArray, List.set_cons_zero, List.set_cons_succ])
      (refine walkR_later ?_; simp only [List.cons_append, List.nil_append]); (refine walkR_later ?_; simp only [List.cons_append, List.nil_append])
      (repeat (first | (refine walkR_still (v := ?_) rfl (by decide +kernel) rfl (fun _ _ _ h => h) hE5' ?_ ?_; rotate_left; (focus (intro w' hw'; skip; go_simp; all_goals (with_reducible rfl))); simp only [Act.put, List.setIfInBounds_toArray, List.set_cons_zero, List.set_cons_succ]) | (refine walkR_skip rfl (by decide +kernel) rfl (fun _ _ _ h => h) hE5' ?_; simp only [Act.put, List.setIfInBounds_toArray, List.set_cons_zero, List.set_cons_succ])))
      (refine walkR_only (fun w' => Ext w3 w') rfl (by decide +kernel) rfl ?_ ?_)
      · exact fun _ h => h
      intro K hK
      go_simp
      have hxa := Ext.alloc w5' (.cells #[.int .i64 0, .int .i64 0, .slice none 0 0] 26)
      have hb5 := HVar.out w5'
      have hE5 := hE5'.trans hxa
      have ho5 := (ho5'.base hE4.size).below hxa
      have hle := hE5'.size
      refine hK _ _ hE5 ?_
      clear hK K
      obtain ⟨w5, hw5⟩ : ∃ w5, w5 = w5'.alloc (.cells #[.int .i64 0, .int .i64 0, .slice none 0 0] 26) := ⟨_, rfl⟩
      rw [← hw5] at hb5 hE5 ho5 ⊢
      clear hw5
      (try simp only [Act.put, List.setIfInBounds_toArray, List.set_cons_zero, List.set_cons_succ])
      (refine walkR_only (fun w' => Ext w3 w' ∧ AlgB w' w5'.heap.size p n a5 N5 c5 ∧ OwnI w' w3.heap.size a5 N5 c5 T) rfl (by decide +kernel) rfl ?_ ?_)
      · exact fun _ h => h.1
      intro K hK
      obtain ⟨z0, z1, z2⟩ := hb5.at'
      have zf0 := hb5.fz 0
      have zf1 := hb5.fz 1
      have zf2 := hb5.fz 2
      go_simp
      clear z0 z1 z2 zf0 zf1 zf2
      refine hK _ _ ⟨Below.grown hE5 (set3_gb w5 w5'.heap.size (.int .i64 p) (.int .i64 (n : Int)) (.slice a5 N5 c5)) hE5.size fun j hj => by cases hj; exact hle, hb5.put3 p n a5 N5 c5, ho5.grown (set3_gb w5 w5'.heap.size (.int .i64 p) (.int .i64 (n : Int)) (.slice a5 N5 c5)) (fun b' o e => by simpa using hb5.ne ho5 e)⟩ ?_
      (try simp only [Act.put, List.setIfInBounds_toArray, List.set_cons_zero, List.set_cons_succ])
      (refine walkR_tail (by rfl) (by kernel_rfl) ?_; simp only [List.drop_succ_cons, List.drop_zero])
      have hE6 := Below.grown hE5 (set3_gb w5 w5'.heap.size (.int .i64 p) (.int .i64 (n : Int)) (.slice a5 N5 c5)) hE5.size fun j hj => by cases hj; exact hle
      have hb6 := hb5.put3 p n a5 N5 c5
      have ho6 := ho5.grown (set3_gb w5 w5'.heap.size (.int .i64 p) (.int .i64 (n : Int)) (.slice a5 N5 c5)) (fun b' o e => by simpa using hb5.ne ho5 e)
      unfold set3 at hE6 hb6 ho6
      obtain ⟨w6, hw6⟩ : ∃ w6, w6 = ((w5.setCell ⟨w5'.heap.size, 0, none⟩ (.int .i64 p)).setCell ⟨w5'.heap.size, 1, none⟩ (.int .i64 (n : Int))).setCell ⟨w5'.heap.size, 2, none⟩ (.slice a5 N5 c5) := ⟨_, rfl⟩
      rw [← hw6] at hE6 hb6 ho6 ⊢
      have HO6 := hidP ho6
      have HE6 := hidP hE6
      have hb36 := HB3.out.below hE6
      have HSt := hidP (hb36.put3 p n a5 N5 c5)
      have HNe := hidP (fun b' o (e : a5 = some ⟨b', o, none⟩) => hb36.ne ho6 e)
      obtain ⟨y0, y1, y2⟩ := hb6.at'
      obtain ⟨z0, z1, z2⟩ := hb36.at'
      have zf0 := hb36.fz 0
      have zf1 := hb36.fz 1
      have zf2 := hb36.fz 2
      clear hw6 hE6 hb6 ho6 hb36 hb5 ho5 hE5 hle
      go_wp2
      obtain ⟨r0, r1, r2⟩ := HSt.out.at'
      unfold set3 at r0 r1 r2
      refine bodyPost_ret (v := algV p n a5 N5 c5) (by simp [results, Tryz.results148, go_sem, r0, r1, r2]) rfl ⟨_, _, _, rfl, ?_, ?_⟩
      · exact (HO6.out.grown (set3_gb w6 (w.heap.size + 1 + 1) (.int .i64 p) (.int .i64 (n : Int)) (.slice a5 N5 c5)) (fun b' o e => by simpa using HNe.out b' o e)).base HX.out.size
      · have h2 := HS3.out
        exact Below.grown (HX.out.trans HE6.out) (set3_gb w6 (w.heap.size + 1 + 1) (.int .i64 p) (.int .i64 (n : Int)) (.slice a5 N5 c5)) (Nat.le_trans HX.out.size HE6.out.size) fun j hj => by cases hj; omega
    · intro K hK
      go_simp
      have hxa := Ext.alloc w4 (.cells #[.int .i64 0, .int .i64 0, .slice none 0 0] 26)
      have hb4 := HVar.out w4
      have hE4' := hE4.trans hxa
      have hr4' := hr4.below hxa
      have hle := hE4.size
      refine hK _ _ hE4' ?_
      clear hK K hr4
      obtain ⟨w4', hw4⟩ : ∃ w4', w4' = w4.alloc (.cells #[.int .i64 0, .int .i64 0, .slice none 0 0] 26) := ⟨_, rfl⟩
      rw [← hw4] at hb4 hE4' hr4' ⊢
      clear hw4
      (try simp only [Act.put, List.setIfInBounds_toArray, List.set_cons_zero, List.set_cons_succ])
      (refine walkR_only (fun w' => Ext w3 w') rfl (by decide +kernel) rfl ?_ ?_)
      · exact fun _ h => h
      intro K hK
      go_simp
      refine (HTb.out _ hE4' av nv cv HL4.out hr4').mono ?_
      rintro e w5 ⟨a5, N5, c5, rfl, ho5', hx5⟩
      have hE5 := hE4'.trans hx5
      have ho5 := ho5'.base hE4'.size
      refine hK _ _ hE5 ?_
      clear hK K
      (try simp only [Act.put, List.setIfInBounds_toArray, List.set_cons_zero, List.set_cons_succ])
      have hb5 := hb4.below hx5
      (refine walkR_later ?_; simp only [List.cons_append, List.nil_append])
      (repeat (first | (refine walkR_still (v := ?_) rfl (by decide +kernel) rfl (fun _ _ _ h => h) hE5 ?_ ?_; rotate_left; (focus (intro w' hw'; skip; go_simp; all_goals (with_reducible rfl))); simp only [Act.put, List.setIfInBounds_toArray, List.set_cons_zero, List.set_cons_succ]) | (refine walkR_skip rfl (by decide +kernel) rfl (fun _ _ _ h => h) hE5 ?_; simp only [Act.put, List.setIfInBounds_toArray, List.set_cons_zero, List.set_cons_succ])))
      (refine walkR_only (fun w' => Ext w3 w' ∧ AlgB w' w4.heap.size p n a5 N5 c5 ∧ OwnI w' w3.heap.size a5 N5 c5 T) rfl (by decide +kernel) rfl ?_ ?_)
      · exact fun _ h => h.1
      intro K hK
      obtain ⟨z0, z1, z2⟩ := hb5.at'
      have zf0 := hb5.fz 0
      have zf1 := hb5.fz 1
      have zf2 := hb5.fz 2
      go_simp
      clear z0 z1 z2 zf0 zf1 zf2
      refine hK _ _ ⟨Below.grown hE5 (set3_gb w5 w4.heap.size (.int .i64 p) (.int .i64 (n : Int)) (.slice a5 N5 c5)) hE5.size fun j hj => by cases hj; exact hle, hb5.put3 p n a5 N5 c5, ho5.grown (set3_gb w5 w4.heap.size (.int .i64 p) (.int .i64 (n : Int)) (.slice a5 N5 c5)) (fun b' o e => by simpa using hb5.ne ho5 e)⟩ ?_
      (try simp only [Act.put, List.setIfInBounds_toArray, List.set_cons_zero, List.set_cons_succ])
      (refine walkR_tail (by rfl) (by kernel_rfl) ?_; simp only [List.drop_succ_cons, List.drop_zero])
      have hE6 := Below.grown hE5 (set3_gb w5 w4.heap.size (.int .i64 p) (.int .i64 (n : Int)) (.slice a5 N5 c5)) hE5.size fun j hj => by cases hj; exact hle
      have hb6 := hb5.put3 p n a5 N5 c5
      have ho6 := ho5.grown (set3_gb w5 w4.heap.size (.int .i64 p) (.int .i64 (n : Int)) (.slice a5 N5 c5)) (fun b' o e => by simpa using hb5.ne ho5 e)
      unfold set3 at hE6 hb6 ho6
      obtain ⟨w6, hw6⟩ : ∃ w6, w6 = ((w5.setCell ⟨w4.heap.size, 0, none⟩ (.int .i64 p)).setCell ⟨w4.heap.size, 1, none⟩ (.int .i64 (n : Int))).setCell ⟨w4.heap.size, 2, none⟩ (.slice a5 N5 c5) := ⟨_, rfl⟩
      rw [← hw6] at hE6 hb6 ho6 ⊢
      have HO6 := hidP ho6
      have HE6 := hidP hE6
      have hb36 := HB3.out.below hE6
      have HSt := hidP (hb36.put3 p n a5 N5 c5)
      have HNe := hidP (fun b' o (e : a5 = some ⟨b', o, none⟩) => hb36.ne ho6 e)
      obtain ⟨y0, y1, y2⟩ := hb6.at'
      obtain ⟨z0, z1, z2⟩ := hb36.at'
      have zf0 := hb36.fz 0
      have zf1 := hb36.fz 1
      have zf2 := hb36.fz 2
      clear hw6 hE6 hb6 ho6 hb36 hb5 ho5 hE5 hle
      go_wp2
      obtain ⟨r0, r1, r2⟩ := HSt.out.at'
      unfold set3 at r0 r1 r2
      refine bodyPost_ret (v := algV p n a5 N5 c5) (by simp [results, Tryz.results148, go_sem, r0, r1, r2]) rfl ⟨_, _, _, rfl, ?_, ?_⟩
      · exact (HO6.out.grown (set3_gb w6 (w.heap.size + 1 + 1) (.int .i64 p) (.int .i64 (n : Int)) (.slice a5 N5 c5)) (fun b' o e => by simpa using HNe.out b' o e)).base HX.out.size
      · have h2 := HS3.out
        exact Below.grown (HX.out.trans HE6.out) (set3_gb w6 (w.heap.size + 1 + 1) (.int .i64 p) (.int .i64 (n : Int)) (.slice a5 N5 c5)) (Nat.le_trans HX.out.size HE6.out.size) fun j hj => by cases hj; omega
  · intro K hK
    go_simp
    have hb3n := (HVar.out w3).below (Ext.drew _)
    have hE3 : Ext w3 ((w3.alloc (.cells #[.int .i64 0, .int .i64 0, .slice none 0 0] 26)).drew) := Below.drew (Ext.alloc w3 _)
    refine hK _ _ hE3 ?_
    clear hK K
    obtain ⟨w3', hw3'⟩ : ∃ w3', w3' = (w3.alloc (.cells #[.int .i64 0, .int .i64 0, .slice none 0 0] 26)).drew := ⟨_, rfl⟩
    rw [← hw3'] at hb3n hE3 ⊢
    clear hw3'
    (try simp only [Act.put, List.setIfInBounds_toArray, List.set_cons_zero, List.set_cons_succ])
    (refine walkR_only (fun w' => Ext w3 w') rfl (by decide +kernel) rfl ?_ ?_)
    · exact fun _ h => h
    intro K hK
    go_simp
    refine (HBr.out _ hE3).mono ?_
    rintro e w4 ⟨av, nv, cv, hv, rfl, ho4, hx4⟩
    have hE4 := hE3.trans hx4
    have hr4 := ho4.rowsI
    have HL4 : Hid (nv = n * n) := hr4.len.symm.trans HLn.out
    have hle : w3.heap.size ≤ w3.heap.size := Nat.le_refl _
    refine hK _ _ hE4 ?_
    clear hK K
    (try simp only [Act.put, List.setIfInBounds_toArray, List.set_cons_zero, List.set_cons_succ])
    (refine walkR_later ?_; simp only [List.cons_append, List.nil_append])
    (refine walkR_only (fun w' => Ext w3 w') rfl (by decide +kernel) rfl ?_ ?_)
    · exact fun _ h => h
    intro K hK
    go_simp
    refine (HTb.out _ hE4 av nv cv HL4.out hr4).mono ?_
    rintro e w5 ⟨a5, N5, c5, rfl, ho5', hx5⟩
    have hE5 := hE4.trans hx5
    have ho5 := ho5'.base hE4.size
    refine hK _ _ hE5 ?_
    clear hK K
    (try simp only [Act.put, List.setIfInBounds_toArray, List.set_cons_zero, List.set_cons_succ])
    have hb5 := (hb3n.below hx4).below hx5
    (repeat (first | (refine walkR_still (v := ?_) rfl (by decide +kernel) rfl (fun _ _ _ h => h) hE5 ?_ ?_; rotate_left; (focus (intro w' hw'; skip; go_simp; all_goals (with_reducible rfl))); simp only [Act.put, List.setIfInBounds_toArray, List.set_cons_zero, List.set_cons_succ]) | (refine walkR_skip rfl (by decide +kernel) rfl (fun _ _ _ h => h) hE5 ?_; simp only [Act.put, List.setIfInBounds_toArray, List.set_cons_zero, List.set_cons_succ])))
    (refine walkR_only (fun w' => Ext w3 w' ∧ AlgB w' w3.heap.size p n a5 N5 c5 ∧ OwnI w' w3.heap.size a5 N5 c5 T) rfl (by decide +kernel) rfl ?_ ?_)
    · exact fun _ h => h.1
    intro K hK
    obtain ⟨z0, z1, z2⟩ := hb5.at'
    have zf0 := hb5.fz 0
    have zf1 := hb5.fz 1
    have zf2 := hb5.fz 2
    go_simp
    clear z0 z1 z2 zf0 zf1 zf2
    refine hK _ _ ⟨Below.grown hE5 (set3_gb w5 w3.heap.size (.int .i64 p) (.int .i64 (n : Int)) (.slice a5 N5 c5)) hE5.size fun j hj => by cases hj; exact hle, hb5.put3 p n a5 N5 c5, ho5.grown (set3_gb w5 w3.heap.size (.int .i64 p) (.int .i64 (n : Int)) (.slice a5 N5 c5)) (fun b' o e => by simpa using hb5.ne ho5 e)⟩ ?_
    (try simp only [Act.put, List.setIfInBounds_toArray, List.set_cons_zero, List.set_cons_succ])
    (refine walkR_tail (by rfl) (by kernel_rfl) ?_; simp only [List.drop_succ_cons, List.drop_zero])
    have hE6 := Below.grown hE5 (set3_gb w5 w3.heap.size (.int .i64 p) (.int .i64 (n : Int)) (.slice a5 N5 c5)) hE5.size fun j hj => by cases hj; exact hle
    have hb6 := hb5.put3 p n a5 N5 c5
    have ho6 := ho5.grown (set3_gb w5 w3.heap.size (.int .i64 p) (.int .i64 (n : Int)) (.slice a5 N5 c5)) (fun b' o e => by simpa using hb5.ne ho5 e)
    unfold set3 at hE6 hb6 ho6
    obtain ⟨w6, hw6⟩ : ∃ w6, w6 = ((w5.setCell ⟨w3.heap.size, 0, none⟩ (.int .i64 p)).setCell ⟨w3.heap.size, 1, none⟩ (.int .i64 (n : Int))).setCell ⟨w3.heap.size, 2, none⟩ (.slice a5 N5 c5) := ⟨_, rfl⟩
    rw [← hw6] at hE6 hb6 ho6 ⊢
    have HO6 := hidP ho6
    have HE6 := hidP hE6
    have hb36 := HB3.out.below hE6
    have HSt := hidP (hb36.put3 p n a5 N5 c5)
    have HNe := hidP (fun b' o (e : a5 = some ⟨b', o, none⟩) => hb36.ne ho6 e)
    obtain ⟨y0, y1, y2⟩ := hb6.at'
    obtain ⟨z0, z1, z2⟩ := hb36.at'
    have zf0 := hb36.fz 0
    have zf1 := hb36.fz 1
    have zf2 := hb36.fz 2
    clear hw6 hE6 hb6 ho6 hb36 hb5 ho5 hE5 hle
    go_wp2
    obtain ⟨r0, r1, r2⟩ := HSt.out.at'
    unfold set3 at r0 r1 r2
    refine bodyPost_ret (v := algV p n a5 N5 c5) (by simp [results, Tryz.results148, go_sem, r0, r1, r2]) rfl ⟨_, _, _, rfl, ?_, ?_⟩
    · exact (HO6.out.grown (set3_gb w6 (w.heap.size + 1 + 1) (.int .i64 p) (.int .i64 (n : Int)) (.slice a5 N5 c5)) (fun b' o e => by simpa using HNe.out b' o e)).base HX.out.size
    · have h2 := HS3.out
      exact Below.grown (HX.out.trans HE6.out) (set3_gb w6 (w.heap.size + 1 + 1) (.int .i64 p) (.int .i64 (n : Int)) (.slice a5 N5 c5)) (Nat.le_trans HX.out.size HE6.out.size) fun j hj => by cases hj; omega
end Go.Proofs.YtenlhfimdpcaoaaGreat

namespace Go.Proofs.YtenlhfimdpcaoaaGreat
open Go.RowKit

/-- the algebra drawn so far, in a variable -/
structure AlgS (w : World) (g : Nat) (a0 : Option Addr) (na ca : Nat) (p : Int) (b5 : Nat) (d : Nat) (a : Option Addr) (N c : Nat) (t : List Int) (wr : World) : Prop where
  var : AlgB wr b5 p d a N c
  own : OwnI wr (w.heap.size + 1) a N c t
  ok : algB p d t = true
  le : d ≤ 6
  st : DrawSt w wr g a0 na ca
  res : AlgB wr w.heap.size 0 0 none 0 0
  far : w.heap.size < b5
  lt : g < w.heap.size
namespace AlgS
variable {w wr w' : World} {g : Nat} {a0 : Option Addr} {na ca : Nat} {p : Int} {b5 d : Nat} {a : Option Addr} {N c : Nat} {t : List Int}
theorem draw (h : AlgS w g a0 na ca p b5 d a N c t wr) (hd : DrawSt wr w' g a0 na ca) : AlgS w g a0 na ca p b5 d a N c t w' := by
  have h1 := h.far
  have h2 := h.lt
  exact ⟨h.var.same (hd.gb.block b5 h.var.lt (by simp; omega)), hd.own h.st.cur h.own, h.ok, h.le, h.st.trans hd, h.res.same (hd.gb.block _ h.res.lt (by simp; omega)), h1, h2⟩
theorem ext (h : AlgS w g a0 na ca p b5 d a N c t wr) (hx : Ext wr w') : AlgS w g a0 na ca p b5 d a N c t w' :=
  ⟨h.var.below hx, h.own.below hx, h.ok, h.le, h.st.ext hx, h.res.below hx, h.far, h.lt⟩
theorem set (h : AlgS w g a0 na ca p b5 d a N c t wr) {d' : Nat} {a' : Option Addr} {N' c' : Nat} {t' : List Int} (ho : OwnI wr (w.heap.size + 1) a' N' c' t') (hok : algB p d' t' = true) (hle : d' ≤ 6) :
    AlgS w g a0 na ca p b5 d' a' N' c' t' (set3 wr b5 (.int .i64 p) (.int .i64 d') (.slice a' N' c')) := by
  have h1 := h.far
  have h2 := h.lt
  have hg := set3_gb wr b5 (.int .i64 p) (.int .i64 (d' : Int)) (.slice a' N' c')
  exact ⟨h.var.put3 _ _ _ _ _, ho.grown hg (fun b o e => by simpa using h.var.ne ho e), hok, hle, h.st.past hg (by omega) (by omega), h.res.same (hg.block _ h.res.lt (by simp; omega)), h1, h2⟩
theorem dim (h : AlgS w g a0 na ca p b5 d a N c t wr) : N = d * d * d := by
  obtain ⟨g1, _⟩ := algB_true.1 h.ok
  obtain ⟨_, _, _, e1, _⟩ := headB_true g1
  have e2 := h.own.len
  have e : ((d * d * d : Nat) : Int) = (d : Int) * d * d := by simp
  omega
theorem prime (h : AlgS w g a0 na ca p b5 d a N c t wr) : primeB p = true ∧ Res p t := by
  obtain ⟨g1, _⟩ := algB_true.1 h.ok
  obtain ⟨hp, _, _, _, hr⟩ := headB_true g1
  exact ⟨hp, hr⟩
/-- the result's variable is filled -/
theorem done (h : AlgS w g a0 na ca p b5 d a N c t wr) : DrawnA w (set3 wr w.heap.size (.int .i64 p) (.int .i64 d) (.slice a N c)) g a0 na ca p d a N c t := by
  have hg := set3_gb wr w.heap.size (.int .i64 p) (.int .i64 (d : Int)) (.slice a N c)
  have h2 := h.lt
  exact ⟨(h.own.grown hg (fun b o e => by simpa using h.res.ne h.own e)).base (Nat.le_succ _), h.ok, h.le, h.st.past hg (Nat.le_refl _) (by omega)⟩
end AlgS
theorem algB_dim {p : Int} {d : Nat} {t : List Int} (h : algB p d t = true) : t.length = d * d * d := by
  obtain ⟨g1, _⟩ := algB_true.1 h
  obtain ⟨_, _, _, e1, _⟩ := headB_true g1
  have e : ((d * d * d : Nat) : Int) = (d : Int) * d * d := by simp
  omega
set_option maxRecDepth 100000 in
set_option maxHeartbeats 8000000 in
theorem l12Algebra_any (g : Nat) (p : Int) (a0 : Option Addr) (na ca : Nat) (bs : List Int) (w : World) (hc : CurAt w g a0 na ca) (hb : BytesAt w a0 na bs) (hna : na ≤ 1048576) (hp : p ∈ drawP) :
    Calls Tryz.prog 95 #[.pointer (some ⟨g, 0, none⟩), .int .i64 p] w fun e w' => ∃ d a N c t, e = .returned (algV p (d : Nat) a N c) ∧ DrawnA w w' g a0 na ca p d a N c t := by
  have hp1 := drawP_prime p hp
  have hgl := hc.lt
  have hx := Ext.alloc w (.cells #[.int .i64 0, .int .i64 0, .slice none 0 0] 26)
  have hV0 := AlgB.new w 0 0 none 0 0
  obtain ⟨w0, hw0⟩ : ∃ w0, w0 = w.alloc (.cells #[.int .i64 0, .int .i64 0, .slice none 0 0] 26) := ⟨_, rfl⟩
  have hs0 : w0.heap.size = w.heap.size + 1 := by rw [hw0]; simp
  rw [← hw0] at hx hV0
  have HV0 := hidP hV0
  have HD0 := hidP ((DrawSt.refl hc).ext hx)
  have HS0 := hidP hs0
  have HPl := hidP (fun w' (hd : DrawSt w w' g a0 na ca) => l12Plainest_any g p a0 na ca bs w' hd.cur (hd.bytes hb) hna hp)
  have HOn := hidP (fun w' (hd : DrawSt w w' g a0 na ca) (k : Int) (hk : k ≤ 1000000000000) => l1Once_any g k a0 na ca bs w' hd.cur (hd.bytes hb) hna hk)
  have HIn := hidP (fun w' (hd : DrawSt w w' g a0 na ca) (n : Nat) (hn : n ≤ 40) => l12Invertible_any g p n a0 na ca bs w' hd.cur (hd.bytes hb) hna hp1 hn)
  have HGl : Hid (g < w.heap.size) := hgl
  have HW0 : Hid (w.alloc (.cells #[.int .i64 0, .int .i64 0, .slice none 0 0] 26) = w0) := hw0.symm
  clear hx hV0 hb hc hgl hs0 hp hp1 hw0
  go_enter Tryz.func95, Tryz.ntmps95
  go_wp2_with fail
  rw [HW0.out]
  clear HW0
  refine (HPl.out w0 HD0.out).mono ?_
  rintro e w1 ⟨d, a, N, c, t, rfl, hd1⟩
  have hxa := Ext.alloc w1 (.cells #[.int .i64 p, .int .i64 (d : Int), .slice a N c] 26)
  have hA := AlgB.new w1 p d a N c
  obtain ⟨w2, hw2⟩ : ∃ w2, w2 = w1.alloc (.cells #[.int .i64 p, .int .i64 (d : Int), .slice a N c] 26) := ⟨_, rfl⟩
  rw [← hw2] at hxa hA
  have HW2 : Hid (w1.alloc (.cells #[.int .i64 p, .int .i64 (d : Int), .slice a N c] 26) = w2) := hw2.symm
  obtain ⟨b5, hb5⟩ : ∃ b5, b5 = w1.heap.size := ⟨_, rfl⟩
  rw [← hb5] at hA
  have HB5 : Hid (w1.heap.size = b5) := hb5.symm
  have HS : Hid (AlgS w g a0 na ca p b5 d a N c t w2) := by
    have h1 := HD0.out.trans hd1.st
    have h2 := hd1.st.gb.size
    have h3 := HS0.out
    have h4 := HGl.out
    refine ⟨hA, (hd1.own.base (by omega)).below hxa, hd1.ok, hd1.le, h1.ext hxa, (HV0.out.same (hd1.st.gb.block _ (by omega) (by simp; omega))).below hxa, by omega, h4⟩
  clear hxa hw2 hb5 hd1 hA HV0 HD0
  have HO1 := hidP (HOn.out w2 HS.out.st 4 (by omega))
  go_wp2_with fail
  rw [HW2.out, HB5.out]
  clear HW2
  refine HO1.out.mono ?_
  rintro e w3 ⟨b, rfl, hd3⟩
  have HS3 := hidP (HS.out.draw hd3)
  clear hd3 HS HO1
  go_simp
  repeat (first | (with_reducible refine cond_join (c := .tmp 11) (fun a a' w' => ∃ (v6 v12 v13 v14 v15 v16 v17 v18 v19 v20 v21 v22 v23 : Value) (d' : Nat) (a'' : Option Addr) (N' c' : Nat) (t' : List Int), a' = (((((((((((((a.put (some 6) v6).put (some 12) v12).put (some 13) v13).put (some 14) v14).put (some 15) v15).put (some 16) v16).put (some 17) v17).put (some 18) v18).put (some 19) v19).put (some 20) v20).put (some 21) v21).put (some 22) v22).put (some 23) v23) ∧ Hid (AlgS w g a0 na ca p b5 d' a'' N' c' t' w')) ?_ ?_) | go_skip | go_step)
  rotate_left
  · cases b with
    | false =>
      go_wp2
      exact ⟨_, _, _, _, _, HS3⟩
    | true =>
      have HP2 := hidP (HPl.out w3 HS3.out.st)
      go_wp2_with fail
      refine HP2.out.mono ?_
      rintro e w4 ⟨d2, a2, N2, c2, t2, rfl, hd4⟩
      have hxa := Ext.alloc w4 (.cells #[.int .i64 p, .int .i64 (d2 : Int), .slice a2 N2 c2] 26)
      have hA := AlgB.new w4 p d2 a2 N2 c2
      obtain ⟨w5, hw5⟩ : ∃ w5, w5 = w4.alloc (.cells #[.int .i64 p, .int .i64 (d2 : Int), .slice a2 N2 c2] 26) := ⟨_, rfl⟩
      rw [← hw5] at hxa hA
      have HW5 : Hid (w4.alloc (.cells #[.int .i64 p, .int .i64 (d2 : Int), .slice a2 N2 c2] 26) = w5) := hw5.symm
      have HS5 := hidP ((HS3.out.draw hd4.st).ext hxa)
      have HA := hidP hA
      have HO2 := hidP (hd4.own.below hxa)
      have HK2 := hidP hd4.ok
      have hd6 := HS5.out.le
      have hd26 := hd4.le
      have e1 : IntKind.i64.wrap ((d : Int) + (d2 : Int)) = ((d + d2 : Nat) : Int) := by rw [Int.natCast_add]; exact wrap_in (by omega) (by omega)
      obtain ⟨m0, m1, m2⟩ := HS5.out.var.at'
      obtain ⟨n0, n1, n2⟩ := hA.at'
      clear hxa hw5 hA hd4 HP2 HS3
      go_wp2_with (with_reducible (refine stop_at 16 (by rfl) ?_))
      rw [HW5.out]
      clear HW5
      unfold Stopped
      by_cases hle : d + d2 ≤ 6
      · have hleI : ((d + d2 : Nat) : Int) ≤ 6 := by omega
        have HSm := hidP (l2Sum_any p p d d2 a a2 N c N2 c2 t t2 w5 HS5.out.own.ints HO2.out.ints HS5.out.dim (HO2.out.len.symm.trans (algB_dim HK2.out)) (by omega))
        go_wp2_with fail
        refine HSm.out.mono ?_
        rintro e w6 ⟨a6, N6, T6, rfl, ho6, hl6, hT6, hx6⟩
        have hok6 : algB p (d + d2 : Nat) T6 = true := sum_valid HS5.out.ok HK2.out (by omega) hl6 hT6
        have hS6 := HS5.out.ext hx6
        have HS6 := hidP hS6
        have hsz : w.heap.size + 1 ≤ w5.heap.size := by have h1 := hS6.var; have h2 := HS5.out.far; have h3 := HS5.out.var.lt; omega
        have HS7 := hidP (hS6.set (ho6.base hsz) hok6 hle)
        clear m0 m1 m2 n0 n1 n2
        obtain ⟨m0, m1, m2⟩ := hS6.var.at'
        have mf0 := hS6.var.fz 0
        have mf1 := hS6.var.fz 1
        have mf2 := hS6.var.fz 2
        clear hT6 hl6 hx6 hok6 hS6 ho6 hsz HSm
        go_wp2
        have h7 := HS7.out
        unfold set3 at h7
        exact ⟨_, _, _, _, _, h7⟩
      · have hleI : ¬ ((d + d2 : Nat) : Int) ≤ 6 := by omega
        go_wp2
        exact ⟨_, _, _, _, _, HS5⟩
  rintro a' w4 ⟨v6, v12, v13, v14, v15, v16, v17, v18, v19, v20, v21, v22, v23, d', a'', N', c', t', rfl, HS4⟩
  (try simp only [Act.put, List.setIfInBounds_toArray, List.set_cons_zero, List.set_cons_succ])
  have HO4 := hidP (HOn.out w4 HS4.out.st 2 (by omega))
  go_wp2_with fail
  refine HO4.out.mono ?_
  rintro e w5 ⟨b, rfl, hd5⟩
  have HS5 := hidP (HS4.out.draw hd5)
  clear hd5 HS4 HO4
  cases b with
  | false =>
    obtain ⟨m0, m1, m2⟩ := HS5.out.var.at'
    obtain ⟨z0, z1, z2⟩ := HS5.out.res.at'
    have zf0 := HS5.out.res.fz 0
    have zf1 := HS5.out.res.fz 1
    have zf2 := HS5.out.res.fz 2
    have HSt := hidP (HS5.out.res.put3 p d' a'' N' c')
    go_wp2
    obtain ⟨r0, r1, r2⟩ := HSt.out.at'
    unfold set3 at r0 r1 r2
    refine bodyPost_ret (v := algV p d' a'' N' c') (by simp [results, Tryz.results95, go_sem, r0, r1, r2]) rfl ⟨_, _, _, _, _, rfl, HS5.out.done⟩
  | true =>
    have hE : AlgS w g a0 na ca p b5 d' a'' N' c' t' w5.drew := HS5.out.ext (Ext.drew w5)
    have hd6 := hE.le
    go_wp2
    (refine walkR_start (fun w' => AlgS w g a0 na ca p b5 d' a'' N' c' t' w') 7 (by kernel_rfl) ?_; simp only [numbered, List.take_succ_cons, List.take_zero, Nat.zero_add, Nat.reduceAdd, List.length_cons, List.length_nil])
    (repeat (first | (refine walkR_still (v := ?_) rfl (by decide +kernel) rfl (fun _ _ _ h => h) hE ?_ ?_; rotate_left; (focus (intro w' hw'; obtain ⟨m0, m1, m2⟩ := hw'.var.at'; go_simp; all_goals (with_reducible rfl))); simp only [Act.put, List.setIfInBounds_toArray, List.set_cons_zero, List.set_cons_succ]) | (refine walkR_skip rfl (by decide +kernel) rfl (fun _ _ _ h => h) hE ?_; simp only [Act.put, List.setIfInBounds_toArray, List.set_cons_zero, List.set_cons_succ])))
    (refine walkR_only (fun w' => AlgS w g a0 na ca p b5 d' a'' N' c' t' w') rfl (by decide +kernel) rfl (fun _ h => h) ?_; intro K hK; go_simp; refine (HIn.out _ hE.st d' (by omega)).mono ?_; rintro e w6 ⟨a6, M, rfl, ho6, hM6, hd6⟩; refine hK _ _ (hE.draw hd6) ?_; clear hK K; (try simp only [Act.put, List.setIfInBounds_toArray, List.set_cons_zero, List.set_cons_succ]))
    have hE6 := hE.draw hd6
    have HCh := hidP (l2Change_any p d' a'' a6 N' c' _ _ t' M w6 hE6.own.ints ho6.ints hE6.dim rfl (Nat.le_refl _) (by have := Nat.mul_le_mul hE.le hE.le; omega) (by omega) hE6.prime.1 hE6.prime.2 hM6.res hM6.basis)
    (refine walkR_only (fun w' => AlgS w g a0 na ca p b5 d' a'' N' c' t' w') rfl (by decide +kernel) rfl (fun _ h => h) ?_; intro K hK; go_simp; refine (HCh.out).mono ?_; rintro e w7 ⟨a7, N7, c7, rfl, ho7, hx7⟩; refine hK _ _ (hE6.ext hx7) ?_; clear hK K; (try simp only [Act.put, List.setIfInBounds_toArray, List.set_cons_zero, List.set_cons_succ]))
    have hE7 := hE6.ext hx7
    have hok7 := chgT_valid hE6.ok hM6.basis
    have hsz : w.heap.size + 1 ≤ w6.heap.size := by have h2 := hE6.far; have h3 := hE6.var.lt; omega
    (refine walkR_tail (by rfl) (by kernel_rfl) ?_; simp only [List.drop_succ_cons, List.drop_zero])
    have HS8 := hidP (hE7.set (ho7.base hsz) hok7 hE7.le)
    obtain ⟨m0, m1, m2⟩ := hE7.var.at'
    have mf0 := hE7.var.fz 0
    have mf1 := hE7.var.fz 1
    have mf2 := hE7.var.fz 2
    clear hE7 hE6 hE ho6 hM6 hd6 ho7 hx7 hok7 hsz HCh HIn HPl HOn HS5
    go_wp2_with (with_reducible (refine stop_at 33 (by rfl) ?_))
    unfold Stopped
    unfold set3 at HS8
    obtain ⟨w8, hw8⟩ : ∃ w8, w8 = ((w7.setCell ⟨b5, 0, none⟩ (.int .i64 p)).setCell ⟨b5, 1, none⟩ (.int .i64 (d' : Int))).setCell ⟨b5, 2, none⟩ (.slice a7 N7 c7) := ⟨_, rfl⟩
    rw [← hw8] at HS8 ⊢
    clear hw8 m0 m1 m2 mf0 mf1 mf2
    obtain ⟨m0, m1, m2⟩ := HS8.out.var.at'
    obtain ⟨z0, z1, z2⟩ := HS8.out.res.at'
    have zf0 := HS8.out.res.fz 0
    have zf1 := HS8.out.res.fz 1
    have zf2 := HS8.out.res.fz 2
    have HSt := hidP (HS8.out.res.put3 p d' a7 N7 c7)
    go_wp2
    obtain ⟨r0, r1, r2⟩ := HSt.out.at'
    unfold set3 at r0 r1 r2
    refine bodyPost_ret (v := algV p d' a7 N7 c7) (by simp [results, Tryz.results95, go_sem, r0, r1, r2]) rfl ⟨_, _, _, _, _, rfl, HS8.out.done⟩
end Go.Proofs.YtenlhfimdpcaoaaGreat
