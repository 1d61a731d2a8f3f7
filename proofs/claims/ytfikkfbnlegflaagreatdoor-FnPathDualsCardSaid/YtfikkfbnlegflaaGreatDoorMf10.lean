/-
  FnPathDuals: gone back, a path is raised where it was lowered, and ends at the opposite weight.
  No condition.
  FnPathDuals: the walk.
  What the contracts give at a path and at its dual; lists of noughts.
  The program's DualPath.
  Paths gone back: their ends, and the end of a path joined to its own dual. No program in sight.
  Lowering and raising in a small crystal, plain: ends and counts; the contracts at hand there.
  The laws' sums of lists; weights of simple roots; the least height.
  The laws' own small functions; weights of simple roots; the least height.
  The draw of a path of a small module: the walk.
  Straight paths; the draw of a path of a small module.
  The small types, their small highest weights and the crystals of these: checked by the kernel.
  The draw of a highest weight with a small module.
-/
import Derived.Test.YtfikkfbnlegflaaGreatDoorMf9
import Derived.Test.YtfikkfbnlegflaaGreatDoorTie
import Derived.Test.YtfikkfbnlegflaaGreatDoorCards
import Derived.ProofKit
import Derived.OpenShut
import Derived.ChangeOld
import Derived.ChangeVars
import Derived.JoinedOf
import Derived.LaidLaws
import Derived.LaidHandle
import Derived.SevenTiedAt
import Derived.Deep.DeepLaidRun
import Derived.Shelf.Vars
import Derived.LaidMore
import Derived.Lay
namespace Go.Proofs.YtfikkfbnlegflaaGreatDoor
open Go.RowKit

def upW (W : List Int) (i : Nat) : List Int := W.set i (W.getD i 0 + 1)
def mayUp (R : Nat) (cos : List (List Int)) (N : Nat) (most : Int) (W : List Int) (i : Nat) : Bool := highB R (upW W i) && decide ((dimK R (upW W i) cos N).1 ≤ most)
def lightN (R : Nat) (cos : List (List Int)) (N : Nat) (most : Int) : Nat → List (List Int)
  | 0 => [List.replicate R 0]
  | k + 1 => lightN R cos N most k ++ (lightN R cos N most k).flatMap fun W => (List.range R).filterMap fun i => if mayUp R cos N most W i then some (upW W i) else none
def lightOk (R : Nat) (cos : List (List Int)) (N : Nat) (most : Int) : Bool := (lightN R cos N most 2).all fun W => (List.range R).all fun i => !highB R (upW W i) || dimOk R (upW W i) cos
theorem lightN_mono {R : Nat} {cos : List (List Int)} {N : Nat} {most : Int} {k : Nat} {W : List Int} (h : W ∈ lightN R cos N most k) : W ∈ lightN R cos N most (k + 1) := by
  rw [lightN]
  exact List.mem_append_left _ h
theorem lightN_up {R : Nat} {cos : List (List Int)} {N : Nat} {most : Int} {k : Nat} {W : List Int} (h : W ∈ lightN R cos N most k) {i : Nat} (hi : i < R) (hu : mayUp R cos N most W i = true) : upW W i ∈ lightN R cos N most (k + 1) := by
  rw [lightN]
  refine List.mem_append_right _ (List.mem_flatMap.2 ⟨W, h, List.mem_filterMap.2 ⟨i, List.mem_range.2 hi, by rw [if_pos hu]⟩⟩)
theorem lightN_le {R : Nat} {cos : List (List Int)} {N : Nat} {most : Int} {W : List Int} : ∀ {k m : Nat}, k ≤ m → W ∈ lightN R cos N most k → W ∈ lightN R cos N most m
  | k, 0, h, hw => by
    obtain rfl : k = 0 := by omega
    exact hw
  | k, m + 1, h, hw => by
    rcases Nat.lt_or_ge k (m + 1) with h2 | h2
    · exact lightN_mono (lightN_le (by omega) hw)
    · obtain rfl : k = m + 1 := by omega
      exact hw
theorem highB_get {R : Nat} {W : List Int} (h : highB R W = true) : W.length = R ∧ ∀ j, j < R → 0 ≤ W.getD j 0 ∧ W.getD j 0 ≤ 3 := by
  simp only [highB, Bool.and_eq_true, decide_eq_true_eq, List.all_eq_true, insB_true] at h
  refine ⟨h.1, fun j hj => ?_⟩
  rw [List.getD_eq_getElem?_getD, List.getElem?_eq_getElem (by omega)]
  exact h.2 _ (List.getElem_mem _)
theorem lightN_get {R : Nat} {cos : List (List Int)} {N : Nat} {most : Int} : ∀ {k : Nat} {W : List Int}, W ∈ lightN R cos N most k → W.length = R ∧ ∀ j, j < R → 0 ≤ W.getD j 0 ∧ W.getD j 0 ≤ 3
  | 0, W, h => by
    simp only [lightN, List.mem_singleton] at h
    subst h
    refine ⟨by simp, fun j hj => ?_⟩
    simp [List.getD_eq_getElem?_getD, hj]
  | k + 1, W, h => by
    rw [lightN] at h
    rcases List.mem_append.1 h with h | h
    · exact lightN_get h
    · obtain ⟨V, hV, h2⟩ := List.mem_flatMap.1 h
      obtain ⟨i, hi, h3⟩ := List.mem_filterMap.1 h2
      split at h3
      · rename_i hm
        cases h3
        simp only [mayUp, Bool.and_eq_true] at hm
        exact highB_get hm.1
      · cases h3
theorem upW_length (W : List Int) (i : Nat) : (upW W i).length = W.length := by simp [upW]
theorem upW_bd {R : Nat} {W : List Int} (hl : W.length = R) (h : ∀ j, j < R → 0 ≤ W.getD j 0 ∧ W.getD j 0 ≤ 3) (i : Nat) : ∀ j, j < R → 0 ≤ (upW W i).getD j 0 ∧ (upW W i).getD j 0 ≤ 4 := by
  intro j hj
  have h1 := h j hj
  by_cases e : i = j
  · subst e
    simp only [upW, List.getD_eq_getElem?_getD, List.getElem?_set_self (show i < W.length by omega), Option.getD_some]
    rw [List.getD_eq_getElem?_getD] at h1
    omega
  · simp only [upW, List.getD_eq_getElem?_getD, List.getElem?_set_ne e]
    rw [List.getD_eq_getElem?_getD] at h1
    omega
/-- what the walk wants of a matrix -/
structure TypeK (R : Nat) (ts : List Int) (FS : List (List Int)) (most : Int) : Prop where
  ty : typeB R ts = true
  fo : foundL R ts = some FS
  ro : rootsOk R ts FS = true
  li : lightOk R (cosOf R ts FS) FS.length most = true

theorem DrawSt.setNew {w w' : World} {g : Nat} {a : Option Addr} {n c : Nat} (h : DrawSt w w' g a n c) (b i : Nat) (v : Value) (hb : w.heap.size ≤ b) (hne : b ≠ g) : DrawSt w (w'.setCell ⟨b, i, none⟩ v) g a n c := by
  refine ⟨h.cur.grown (row := some b) ⟨rfl, rfl, rfl, by simp [World.setCell], fun k hk hne => Below.heap_setCell _ _ _ _ (by simpa using hne)⟩ (by simpa using Ne.symm hne), h.gb.os, h.gb.tape, h.gb.output, ?_, fun k hk hk2 => ?_⟩
  · have := h.gb.size
    simpa [World.setCell] using this
  · rw [← h.gb.block k hk hk2]
    exact Below.heap_setCell _ _ _ _ (show k ≠ b by omega)
set_option maxRecDepth 100000 in
set_option maxHeartbeats 4000000 in
theorem l12Light_any (g : Nat) (a : Option Addr) (n c : Nat) (bs : List Int) (R B0 : Nat) (ta : Option Addr) (tc : Nat) (ts : List Int) (FS : List (List Int)) (most : Int) (w : World) (hc : CurAt w g a n c) (hb : BytesAt w a n bs) (hn : n ≤ 1048576)
    (hx : OwnI w B0 ta (R * R) tc ts) (hK : TypeK R ts FS most) :
    Calls Tryz.prog 70 #[.pointer (some ⟨g, 0, none⟩), carV R ta (R * R) tc, .int .i64 most] w fun e w' => ∃ aw cw W, e = .returned (.slice aw R cw) ∧ OwnI w' w.heap.size aw R cw W ∧ W ∈ lightN R (cosOf R ts FS) FS.length most 3 ∧ DrawSt w w' g a n c := by
  have hrk := typeB_rank hK.ty
  have hR4 : R ≤ 4 := by omega
  have hR1 : 1 ≤ R := by omega
  have hx1 := Ext.alloc w (.cells #[.int .i64 R, .slice ta (R * R) tc] 31)
  have hca := CellsAt.new w (.int .i64 R) (.slice ta (R * R) tc) 31
  have HC0 := hidP hc
  have HB0 := hidP hb
  have HX0 := hidP hx
  have HTy := hidP hK
  have hglt := hc.lt
  have hsz0 : R * R ≤ 16 := Nat.mul_le_mul hR4 hR4
  have HBe := hidP (fun w' (k : Nat) (h : DrawSt w w' g a n c) (hk : k ≤ 10) => l1Below_any g (k : Int) a n c bs w' h.cur (h.bytes hb) hn (by omega))
  have HHi := hidP (fun w' av nv cv V (h : IntsAt w' av nv V) (hl : nv ≤ 100) => l8Highest_any R ta (R * R) tc av nv cv V w' h (by omega) (by omega))
  have HDi := hidP (fun w' av cv V (h : DrawSt w w' g a n c) (hv : IntsAt w' av R V) (hb : ∀ j, j < R → 0 ≤ V.getD j 0 ∧ V.getD j 0 ≤ 4) (hD : dimOk R V (cosOf R ts FS) = true) =>
    l8DimensionBy_any R ta (R * R) tc ts av cv V w' ((h.own hc hx).ints) hK.ty FS hK.fo hK.ro hv (fun j hj => by have := hb j hj; omega) hD)
  have hmk := make_ints (R : Int) (by omega) (by omega)
  simp only [Int.toNat_natCast] at hmk
  obtain ⟨m2, hm2⟩ : ∃ m2, m2 = R * R := ⟨_, rfl⟩
  rw [← hm2] at hca hx1 HHi HDi ⊢
  obtain ⟨cos, hcos⟩ : ∃ cos, cos = cosOf R ts FS := ⟨_, rfl⟩
  have hli := hK.li
  rw [← hcos] at hli HDi ⊢
  have HLi := hidP hli
  clear hc hb hx hK hrk hm2 hcos hli hsz0
  obtain ⟨w1, hw1⟩ : ∃ w1, w1 = w.alloc (.cells #[.int .i64 R, .slice ta m2 tc] 31) := ⟨_, rfl⟩
  rw [← hw1] at hca hx1
  have hs1 : w1.heap.size = w.heap.size + 1 := by rw [hw1]; simp
  have hm := OwnI.made w1 w.heap.size R (by omega) (by unfold maxLen; omega)
  have hx2 := Ext.alloc w1 (.cells (Array.replicate R (.int .i64 0)) 3)
  have HW1 := hidP hw1
  have HS1 : Hid (w.heap.size + 1 = w1.heap.size) := hs1.symm
  clear hw1 hs1
  go_enter Tryz.func70, Tryz.ntmps70
  go_wp2_with fail
  rw [← HW1.out]
  try rw [HS1.out]
  obtain ⟨w2, hw2⟩ : ∃ x, x = w1.alloc (.cells (Array.replicate R (.int .i64 0)) 3) := ⟨_, rfl⟩
  rw [← hw2] at hm hx2 ⊢
  have HD2 : Hid (DrawSt w w2 g a n c) := (DrawSt.refl HC0.out).ext (hx1.trans hx2)
  have HC2 := hidP (hca.below hx2)
  have HM := hidP hm
  have hgn : w.heap.size ≠ g := by omega
  have HGn := hidP hgn
  obtain ⟨a0, ha0⟩ : ∃ a0 : Nat, a0 = w1.heap.size := ⟨_, rfl⟩
  rw [← ha0] at HM ⊢
  clear hw2 hm hx1 hx2 hca HW1 HS1 hmk hgn ha0
  have h4 := HBe.out w2 4 HD2.out (by omega)
  refine h4.mono ?_
  rintro e w3 ⟨v, hv, rfl, hc3, hg3⟩
  have hv4 : v < 4 := by have := hv.2 (by omega); omega
  have hd3 : DrawSt w2 w3 g a n c := ⟨hc3, hg3⟩
  have HD3 := hidP (HD2.out.trans hd3)
  have HC3 := hidP (HC2.out.gb hg3 HGn.out)
  have HM3 := hidP (hd3.own HD2.out.cur HM.out)
  clear h4 hv hc3 hg3 hd3 HM HC2 HD2
  go_wp2
  go_loopw [7, 9] (fun ws kk wr => ∃ (k : Nat) (gw : Nat) (cw : Nat) (W : List Int), k ≤ v ∧ ws = .slice (some ⟨gw, 0, none⟩) R cw ∧ kk = .int .i64 k ∧ Hid (OwnI wr w.heap.size (some ⟨gw, 0, none⟩) R cw W) ∧ Hid (W ∈ lightN R cos FS.length most k) ∧ Hid (DrawSt w wr g a n c) ∧ Hid (CellsAt wr w.heap.size (.int .i64 R) (.slice ta m2 tc))) (fun _ kk _ => v - (intOf kk).toNat)
  case atStart => exact ⟨0, a0, R, List.replicate R 0, Nat.zero_le _, rfl, rfl, HM3, by show _ ∈ _; simp [lightN], HD3, HC3⟩
  case round =>
    clear HM3 HD3 HC3
    obtain ⟨k, gw, cw, W, hk, rfl, rfl, HO, HL, HD, HC⟩ := hrel
    obtain ⟨y0, y1, _, _⟩ := HC.out
    by_cases hlt : k < v
    · have HCl := hidP (l1Ints_any (some ⟨gw, 0, none⟩) R cw W wr HO.out.ints HO.out.nil_cap (by omega))
      go_wp2_with fail
      refine HCl.out.mono ?_
      rintro e w4 ⟨a4, c4, rfl, ho4, hx4⟩
      obtain ⟨g4, rfl, _⟩ := ho4.cell 0 (by omega)
      have HD4 := hidP (HD.out.ext hx4)
      have HC4 := hidP (HC.out.below hx4)
      have HW4 := hidP (HO.out.below hx4)
      have hg4 := (ho4.at_base g4 0 rfl).1
      have hgw := (HO.out.at_base gw 0 rfl).2
      have hlw : w.heap.size < wr.heap.size := World.block_lt_of_cell? wr _ HC.out.c0
      have HO4 := hidP (ho4.base (B' := w.heap.size) HD.out.gb.size)
      obtain ⟨z0, z1, _, _⟩ := HC4.out
      have hbe := HBe.out w4 R HD4.out (by omega)
      clear ho4 hx4 y0 y1 HCl
      go_wp2_with fail
      refine hbe.mono ?_
      rintro e w5 ⟨i, hi, rfl, hc5, hg5⟩
      have hiR : i < R := by have := hi.2 (by omega); omega
      have hd5 : DrawSt w4 w5 g a n c := ⟨hc5, hg5⟩
      have HD5 := hidP (HD4.out.trans hd5)
      have HC5 := hidP (HC4.out.gb hg5 HGn.out)
      have HO5 := hidP (hd5.own HD4.out.cur HO4.out)
      have HW5 := hidP (hd5.own HD4.out.cur HW4.out)
      have hget := lightN_get HL.out
      obtain ⟨g', e', _, _, q1, q2⟩ := HO5.out.cell i hiR
      simp only [Option.some.injEq, Addr.mk.injEq, and_true] at e'
      subst e'
      have hbi := hget.2 i hiR
      have hst := HO5.out.stored i (W.getD i 0 + 1)
      have HUl : Hid ((upW W i).length = R) := by show _ = _; rw [upW_length]; exact hget.1
      have HUb := hidP (upW_bd hget.1 hget.2 i)
      have HDok : Hid (highB R (upW W i) = true → dimOk R (upW W i) cos = true) := by
        show _ → _
        intro hh
        have h1 := HLi.out
        simp only [lightOk, List.all_eq_true, List.mem_range, Bool.or_eq_true, Bool.not_eq_true'] at h1
        rcases h1 W (lightN_le (by omega) HL.out) i hiR with h2 | h2
        · rw [hh] at h2; cases h2
        · exact h2
      have HUp : Hid (mayUp R cos FS.length most W i = true → upW W i ∈ lightN R cos FS.length most (k + 1)) := fun h => lightN_up HL.out hiR h
      have HMay : Hid (mayUp R cos FS.length most W i = (highB R (upW W i) && decide ((dimK R (upW W i) cos FS.length).1 ≤ most))) := rfl
      have HL' := hidP (lightN_mono HL.out)
      rw [show W.set i (W.getD i 0 + 1) = upW W i from rfl] at hst
      obtain ⟨Z, hZ⟩ : ∃ Z, Z = W.getD i 0 := ⟨_, rfl⟩
      rw [← hZ] at q1 hbi hst
      have hgB := (HO5.out.at_base g4 0 rfl)
      have hne0 : g4 ≠ w.heap.size := by omega
      have hg4g : g4 ≠ g := HD5.out.cur.apart HO5.out g4 0 rfl
      have HS6 : Hid (OwnI (w5.setCell ⟨g4, i, none⟩ (.int .i64 (Z + 1))) w.heap.size (some ⟨g4, 0, none⟩) R c4 (upW W i)) := hst
      have HD6 : Hid (DrawSt w (w5.setCell ⟨g4, i, none⟩ (.int .i64 (Z + 1))) g a n c) := HD5.out.setNew g4 i _ hgB.1 hg4g
      have HC6 := hidP (HC5.out.setFar i (.int .i64 (Z + 1)) (Ne.symm hne0))
      have HW6 : Hid (OwnI (w5.setCell ⟨g4, i, none⟩ (.int .i64 (Z + 1))) w.heap.size (some ⟨gw, 0, none⟩) R cw W) := HW5.out.setFar g4 i _ (by omega)
      obtain ⟨x0, x1, _, _⟩ := HC6.out
      obtain ⟨U, hU⟩ : ∃ U, U = upW W i := ⟨_, rfl⟩
      rw [← hU] at HUl HUb HDok HUp HMay HS6
      have hhi := HHi.out (w5.setCell ⟨g4, i, none⟩ (.int .i64 (Z + 1))) (some ⟨g4, 0, none⟩) R c4 U HS6.out.ints (by omega)
      clear hst hZ hget hi hc5 hg5 hd5 HD4 HC4 HW4 HO4 hbe hU hne0 hg4g hgB z0 z1 hg4 hgw hlw
      go_wp2_with fail
      refine hhi.mono ?_
      rintro e w7 ⟨rfl, hx7⟩
      have HD7 := hidP (HD6.out.ext hx7)
      have HC7 := hidP (HC6.out.below hx7)
      have HU7 := hidP (HS6.out.below hx7)
      have HW7 := hidP (HW6.out.below hx7)
      obtain ⟨y0, y1, _, _⟩ := HC7.out
      cases hh : highB R U
      · have HMf : Hid (mayUp R cos FS.length most W i = false) := by show _ = _; rw [HMay.out, hh]; rfl
        clear hhi hx7 x0 x1
        go_wp2
        go_roundw
        case rel => exact ⟨k + 1, gw, cw, W, by omega, rfl, by go_num, HW7, HL', HD7, HC7⟩
        case measure => simp [intOf]; omega
      · have hdi := HDi.out w7 (some ⟨g4, 0, none⟩) c4 U HD7.out HU7.out.ints HUb.out (HDok.out hh)
        obtain ⟨DV, hDV⟩ : ∃ DV, DV = (dimK R U cos FS.length).1 := ⟨_, rfl⟩
        rw [← hDV] at hdi
        have HDV := hidP hDV
        clear hhi hx7 x0 x1 hDV
        go_wp2_with fail
        refine hdi.mono ?_
        rintro e w8 ⟨rfl, hx8⟩
        have HD8 := hidP (HD7.out.ext hx8)
        have HC8 := hidP (HC7.out.below hx8)
        have HU8 := hidP (HU7.out.below hx8)
        have HW8 := hidP (HW7.out.below hx8)
        by_cases hle : DV ≤ most
        · have HL8 := hidP (HUp.out (by rw [HMay.out, hh, ← HDV.out]; simpa using hle))
          clear hdi hx8
          go_wp2
          go_roundw
          case rel => exact ⟨k + 1, g4, c4, U, by omega, rfl, by go_num, HU8, HL8, HD8, HC8⟩
          case measure => simp [intOf]; omega
        · clear hdi hx8
          go_wp2
          go_roundw
          case rel => exact ⟨k + 1, gw, cw, W, by omega, rfl, by go_num, HW8, HL', HD8, HC8⟩
          case measure => simp [intOf]; omega
    · obtain rfl : v = k := by omega
      have HL3 := hidP (lightN_le (show v ≤ 3 by omega) HL.out)
      go_wp2
      go_ret
      exact ⟨_, _, _, rfl, HO.out, HL3.out, HD.out⟩
end Go.Proofs.YtfikkfbnlegflaaGreatDoor

namespace Go.Proofs.YtfikkfbnlegflaaGreatDoor
open Go.RowKit

def smallF (t : Nat) : List (List Int) := (foundL (smallR t) (smallM t)).getD []
def smallL (t : Nat) : List (List Int) := lightN (smallR t) (cosOf (smallR t) (smallM t) (smallF t)) (smallF t).length 60 3
def smallOk (t : Nat) : Bool := typeB (smallR t) (smallM t) && (foundL (smallR t) (smallM t)).isSome && rootsOk (smallR t) (smallM t) (smallF t) && lightOk (smallR t) (cosOf (smallR t) (smallM t) (smallF t)) (smallF t).length 60
def crysAll (t : Nat) : Bool := (smallL t).eraseDups.all (crysOk (smallR t) (smallM t))
theorem smallOk_all : ∀ t, t < 10 → smallOk t = true := by decide +kernel
theorem crys_0 : crysAll 0 = true := by decide +kernel
theorem crys_1 : crysAll 1 = true := by decide +kernel
theorem crys_2 : crysAll 2 = true := by decide +kernel
theorem crys_3 : crysAll 3 = true := by decide +kernel
theorem crys_4 : crysAll 4 = true := by decide +kernel
theorem crys_5 : crysAll 5 = true := by decide +kernel
theorem crys_6 : crysAll 6 = true := by decide +kernel
theorem crys_7 : crysAll 7 = true := by decide +kernel
theorem crys_8 : crysAll 8 = true := by decide +kernel
theorem crys_9 : crysAll 9 = true := by decide +kernel
theorem crysAll_all (t : Nat) (ht : t < 10) : crysAll t = true := by
  rcases (by omega : t = 0 ∨ t = 1 ∨ t = 2 ∨ t = 3 ∨ t = 4 ∨ t = 5 ∨ t = 6 ∨ t = 7 ∨ t = 8 ∨ t = 9) with rfl | rfl | rfl | rfl | rfl | rfl | rfl | rfl | rfl | rfl
  · exact crys_0
  · exact crys_1
  · exact crys_2
  · exact crys_3
  · exact crys_4
  · exact crys_5
  · exact crys_6
  · exact crys_7
  · exact crys_8
  · exact crys_9
theorem small_type (t : Nat) (ht : t < 10) : TypeK (smallR t) (smallM t) (smallF t) 60 := by
  have h := smallOk_all t ht
  simp only [smallOk, Bool.and_eq_true] at h
  refine ⟨h.1.1.1, ?_, h.1.2, h.2⟩
  unfold smallF
  cases hf : foundL (smallR t) (smallM t) with
  | none => have := h.1.1.2; rw [hf] at this; cases this
  | some x => rfl
theorem small_crys (t : Nat) (ht : t < 10) (W : List Int) (h : W ∈ smallL t) : crysOk (smallR t) (smallM t) W = true := by
  have h1 := crysAll_all t ht
  simp only [crysAll, List.all_eq_true] at h1
  exact h1 W (by simpa using h)
end Go.Proofs.YtfikkfbnlegflaaGreatDoor

namespace Go.Proofs.YtfikkfbnlegflaaGreatDoor
open Go.RowKit

theorem OwnK.single {α : Type} (K : Knd α) (w : World) (B : Nat) (h1 : Hdr) (x1 : α) (hi : OwnI w B h1.1 (K.ints x1).length h1.2 (K.ints x1)) (hB : B ≤ w.heap.size) :
    OwnK K (w.alloc (.cells (K.cells h1.1 h1.2 x1).toArray K.E)) B (w.alloc (.cells (K.cells h1.1 h1.2 x1).toArray K.E)).heap.size (some ⟨w.heap.size, 0, none⟩) 1 1 [h1] [x1] := by
  have hrow := World.ownsRow_lit (e := K.E) (size := K.size) (base := B) w (K.cells h1.1 h1.2 x1).toArray 1 hB (by unfold maxLen; omega) (by simp [K.len])
  refine ⟨by simpa [Knd.all] using hrow, rfl, rfl, fun i h => ?_, fun i j h1 h2 h3 => by omega, fun i h b o e => ?_, fun b o e => ?_⟩
  · obtain rfl : i = 0 := by omega
    exact hi.below (Ext.alloc w _)
  · obtain rfl : i = 0 := by omega
    have := (hi.at_base b o e).2
    simp
    omega
  · simp only [Option.some.injEq, Addr.mk.injEq, and_true] at e
    simp [← e.1]
set_option maxHeartbeats 2000000 in
theorem sStraight_any (R : Nat) (ta : Option Addr) (tn tc : Nat) (ts : List Int) (aw : Option Addr) (cw : Nat) (W : List Int) (w : World) (hc : IntsAt w ta tn ts) (hcn : tn ≤ 9223372036854775807) (hT : typeB R ts = true) (hw : IntsAt w aw R W) (hnil : aw = none → cw = 0) (hb : wayB R W = true) :
    Calls Tryz.prog 71 #[carV R ta tn tc, .slice aw R cw] w fun e w' => ∃ a hs, e = .returned (.slice a 1 1) ∧ OwnK stepK w' w.heap.size w'.heap.size a 1 1 hs (straight W) ∧ Ext w w' := by
  have hx1 := Ext.alloc w (.cells #[.int .i64 R, .slice ta tn tc] 31)
  have HC := hidP (fun w' (hx : Ext (w.alloc (.cells #[.int .i64 R, .slice ta tn tc] 31)) w') => (CarAt.new w _ rfl (R : Int) ta tn tc 31).below hx)
  have HX1 := hidP hx1
  have hrk := typeB_rank hT
  have hR4 : R ≤ 4 := by omega
  have HIs := hidP (fun w' (h : Ext w w') => sIsCartan_any (R : Int) ta tn tc ts w' (hc.below h) hcn)
  have HLa := hidP (fun w' (h : Ext w w') => l5Lattice_any R ta tn tc aw R cw W w' (hw.below h) (by omega) (by omega))
  have HCl := hidP (fun w' (h : Ext w w') => l1Ints_any aw R cw W w' (hw.below h) hnil (by omega))
  rw [hT] at HIs
  rw [hb] at HLa
  have HWl := hidP hw.len
  clear hc hT hw hb hx1 hrk hnil
  obtain ⟨w1, hw1⟩ : ∃ w1, w1 = w.alloc (.cells #[.int .i64 R, .slice ta tn tc] 31) := ⟨_, rfl⟩
  rw [← hw1] at HC HX1
  obtain ⟨y0, y1⟩ := HC.out w1 (Ext.refl _)
  go_enter Tryz.func71, Tryz.ntmps71
  go_wp2_with fail
  rw [← hw1]
  clear hw1
  refine (HIs.out _ HX1.out).mono ?_
  rintro e w2 ⟨rfl, hx2⟩
  obtain ⟨z0, z1⟩ := HC.out w2 hx2
  clear y0 y1
  go_wp2_with fail
  refine (HLa.out _ (HX1.out.trans hx2)).mono ?_
  rintro e w3 ⟨rfl, hx3⟩
  have HX3 := hidP (HX1.out.trans (hx2.trans hx3))
  clear hx2 hx3 z0 z1
  go_wp2_with fail
  refine (HCl.out _ HX3.out).mono ?_
  rintro e w4 ⟨a4, c4, rfl, ho4, hx4⟩
  have hk := OwnK.single stepK w4 w.heap.size (a4, c4) (W, 27720) (by show OwnI _ _ _ W.length _ _; rw [HWl.out]; exact ho4.base HX3.out.size) (HX3.out.trans hx4).size
  have he : (stepK.cells a4 c4 (W, 27720)).toArray = #[.slice a4 R c4, .int .i64 27720] := by show #[Value.slice a4 W.length c4, _] = _; rw [HWl.out]
  rw [he] at hk
  have HK := hidP hk
  have HX4 := hidP ((HX3.out.trans hx4).trans (Ext.alloc w4 (.cells #[.slice a4 R c4, .int .i64 27720] 69)))
  clear hk he ho4 hx4
  go_wp2
  go_ret
  exact ⟨_, _, rfl, HK.out, HX4.out⟩
end Go.Proofs.YtfikkfbnlegflaaGreatDoor

namespace Go.Proofs.YtfikkfbnlegflaaGreatDoor
open Go.RowKit

theorem DrawSt.ownK {w w' : World} {g B U : Nat} {a a' : Option Addr} {n c n' c' : Nat} {hs : List Hdr} {xs : List Stp} (h : DrawSt w w' g a n c) (h0 : CurAt w g a n c) (k : OwnK stepK w B U a' n' c' hs xs) : OwnK stepK w' B U a' n' c' hs xs := by
  refine k.kept h.gb (fun b o e e2 => ?_) (fun i hi b o e e2 => ?_)
  · rcases k.form with ⟨e3, _⟩ | ⟨gb, cur, e3, _, _, hh, _⟩
    · rw [e3] at e; cases e
    · rw [e3] at e
      simp only [Option.some.injEq, Addr.mk.injEq, and_true] at e e2
      obtain ⟨cur', fr, hc'⟩ := h0.blk
      rw [← e2, ← e.1, hh] at hc'
      simp only [Option.some.injEq, Obj.cells.injEq] at hc'
      exact absurd hc'.2.1 (by decide)
  · have := h0.apart (k.each i hi) b o e
    simp only [Option.some.injEq] at e2
    exact this e2
theorem light_way {t : Nat} (_ht : t < 10) {W : List Int} (h : W ∈ smallL t) : W.length = smallR t ∧ wayB (smallR t) W = true := by
  have h1 := lightN_get h
  refine ⟨h1.1, ?_⟩
  unfold wayB
  rw [Bool.and_eq_true, decide_eq_true_eq, List.all_eq_true]
  refine ⟨h1.1, fun x hx => ?_⟩
  obtain ⟨j, hj, rfl⟩ := List.mem_iff_getElem.1 hx
  have := h1.2 j (by omega)
  rw [List.getD_eq_getElem?_getD, List.getElem?_eq_getElem hj] at this
  simp only [Option.getD_some] at this
  simp only [decide_eq_true_eq]
  omega
/-- what the draw gives -/
structure Drew (w' : World) (B : Nat) (t i j : Nat) (ta : Option Addr) (tc : Nat) (aw : Option Addr) (cw : Nat) (W : List Int) (pa : Option Addr) (pn pc : Nat) (hs : List Hdr) (p : List Stp) (k : Nat) : Prop where
  ht : t < 10
  hi : i < smallR t
  hj : j < smallR t
  car : OwnI w' B ta (smallR t * smallR t) tc (smallM t)
  wgt : OwnI w' B aw (smallR t) cw W
  path : OwnK stepK w' B w'.heap.size pa pn pc hs p
  light : W ∈ smallL t
  crys : InCrys (smallR t) (smallM t) W k p

set_option maxRecDepth 100000 in
set_option maxHeartbeats 4000000 in
theorem drawPath_any (a : Option Addr) (n c : Nat) (bs : List Int) (w : World) (hb : BytesAt w a n bs) (hn : n ≤ 1048576) :
    Calls Tryz.prog 29 #[.slice a n c] w fun e w' => ∃ (t i j : Nat) (ta : Option Addr) (tc : Nat) (aw : Option Addr) (cw : Nat) (W : List Int) (pa : Option Addr) (pn pc : Nat) (hs : List Hdr) (p : List Stp) (k : Nat),
      e = .returned (.tuple #[carV (smallR t) ta (smallR t * smallR t) tc, .int .i64 i, .int .i64 j, .slice aw (smallR t) cw, .slice pa pn pc]) ∧ Drew w' w.heap.size t i j ta tc aw cw W pa pn pc hs p k ∧ Ext w w' := by
  have HB := hidP hb
  have HNew := hidP (fun w' (hx : Ext w w') => l1New_any a n c bs w' (hb.below hx) hn)
  have hx0 := Ext.alloc w (.cells #[.int .i64 0, .slice none 0 0] 31)
  have h0 := CellsAt.new w (.int .i64 0) (.slice none 0 0) 31
  obtain ⟨w1, hw1⟩ : ∃ w1, w1 = w.alloc (.cells #[.int .i64 0, .slice none 0 0] 31) := ⟨_, rfl⟩
  rw [← hw1] at hx0 h0
  have HX1 := hidP hx0
  have H0 := hidP h0
  clear hb hx0 h0
  go_enter Tryz.func29, Tryz.ntmps29
  go_wp2_with fail
  rw [← hw1]
  clear hw1
  refine (HNew.out _ HX1.out).mono ?_
  rintro e w2 ⟨g, rfl, hc2, hg2, hx2⟩
  have HD2 := hidP (DrawSt.refl hc2)
  have HB2 := hidP (HB.out.below (HX1.out.trans hx2))
  have HX2 := hidP (HX1.out.trans hx2)
  have HR0 := hidP (H0.out.below hx2)
  have HS2 : Hid (w.heap.size + 1 ≤ w2.heap.size) := by
    have h1 : w.heap.size < w1.heap.size := World.block_lt_of_cell? w1 _ H0.out.c0
    have h2 := hx2.size
    show _ ≤ _
    omega
  have HG : Hid (w.heap.size ≠ g ∧ w.heap.size ≤ g) := by
    have h1 := World.block_lt_of_cell? w1 _ H0.out.c0
    exact ⟨by have : w.heap.size < w1.heap.size := h1; omega, by have : w.heap.size < w1.heap.size := h1; omega⟩
  have HSmall := hidP (l12Small_any g a n c bs w2 hc2 HB2.out hn)
  clear hc2 hg2 hx2 HNew
  go_wp2_with fail
  refine HSmall.out.mono ?_
  rintro e w3 ⟨t, ht, rfl, hd3⟩
  have HD3 := hidP hd3
  have HCa := hidP (sCartanOf_any (smallS.getD t ByteArray.empty) (smallK t) (small_name t ht) w3)
  clear hd3 HSmall
  go_wp2_with fail
  refine HCa.out.mono ?_
  rintro e w4 ⟨ta, tc, rfl, ho4, hx4⟩
  have HD4 := hidP (HD3.out.ext hx4)
  have hty := small_type t ht
  have HTy := hidP hty
  have hrk := typeB_rank hty.ty
  have HCr := hidP (fun W h => small_crys t ht W h)
  have HWy := hidP (fun W (h : W ∈ smallL t) => light_way ht h)
  have HLd : Hid (smallL t = lightN (smallR t) (cosOf (smallR t) (smallM t) (smallF t)) (smallF t).length 60 3) := rfl
  obtain ⟨R, hR⟩ : ∃ R, R = smallR t := ⟨_, rfl⟩
  obtain ⟨ts, hts⟩ : ∃ ts, ts = smallM t := ⟨_, rfl⟩
  have ho4' : OwnI w4 w3.heap.size ta (R * R) tc ts := by rw [hR, hts]; exact ho4
  rw [show ksR (smallK t) (smallK t).length = R from hR.symm]
  rw [← hR, ← hts] at HTy HCr HLd
  rw [← hR] at hrk HWy
  have HO4 := hidP ho4'
  have HR := hidP hR
  have HTs := hidP hts
  have hR4 : R ≤ 4 := by omega
  have hR1 : 1 ≤ R := by omega
  have hRR : R * R ≤ 16 := Nat.mul_le_mul hR4 hR4
  obtain ⟨m2, hm2⟩ : ∃ m2, m2 = R * R := ⟨_, rfl⟩
  have HM2 := hidP hm2
  rw [← hm2] at HO4 ⊢
  clear ho4 ho4' hx4 hty hrk hR hts hm2 hRR HCa
  have hc5 := CellsAt.new w4 (.int .i64 R) (.slice ta m2 tc) 31
  have hx5 := Ext.alloc w4 (.cells #[.int .i64 R, .slice ta m2 tc] 31)
  obtain ⟨w5, hw5⟩ : ∃ w5, w5 = w4.alloc (.cells #[.int .i64 R, .slice ta m2 tc] 31) := ⟨_, rfl⟩
  rw [← hw5] at hc5 hx5
  obtain ⟨bC, hbC⟩ : ∃ b, b = w4.heap.size := ⟨_, rfl⟩
  rw [← hbC] at hc5
  have HW5 : Hid (w4.alloc (.cells #[.int .i64 R, .slice ta m2 tc] 31) = w5) := hw5.symm
  have HBC : Hid (w4.heap.size = bC) := hbC.symm
  have HC5 := hidP hc5
  have HD5 := hidP ((HD2.out.trans HD4.out).ext hx5)
  have HO5 := hidP (HO4.out.below hx5)
  have HGC : Hid (bC ≠ g) := by
    have h1 := HD4.out.cur.lt
    show _ ≠ _
    omega
  have hbw : w2.heap.size ≤ w4.heap.size := HD4.out.gb.size
  have hbs := HX2.out.size
  have HBW : Hid (w.heap.size + 1 ≤ bC) := by have := HS2.out; show _ ≤ _; omega
  have HO5b := hidP (HO5.out.base (B' := w.heap.size + 1) (by have := HD3.out.gb.size; have := HS2.out; omega))
  have hl12 := l12Light_any g a n c bs R (w.heap.size + 1) ta tc ts (smallF t) 60 w5 HD5.out.cur (HD5.out.bytes HB2.out) hn (by rw [← HM2.out]; exact HO5b.out) HTy.out
  rw [← HM2.out, ← HLd.out] at hl12
  have HL12 := hidP hl12
  clear hc5 hx5 hw5 hbC hbw hbs hl12
  go_wp2_with (fail)
  rw [HW5.out]
  try rw [HBC.out]
  refine HL12.out.mono ?_
  rintro e w6 ⟨aw, cw, W, rfl, hoW, hW, hd6⟩
  have HD6 := hidP (HD5.out.trans hd6)
  have HC6 := hidP (HC5.out.gb hd6.gb HGC.out)
  have HO6 := hidP (hd6.own HD5.out.cur HO5b.out)
  have HW6 := hidP (hoW.base (B' := w.heap.size + 1) (Nat.le_trans HS2.out HD5.out.gb.size))
  have HWl := hidP hW
  have HSt := hidP (sStraight_any R ta m2 tc ts aw cw W w6 HO6.out.ints (by rw [HM2.out]; have := Nat.mul_le_mul hR4 hR4; omega) HTy.out.ty HW6.out.ints HW6.out.nil_cap (HWy.out W hW).2)
  obtain ⟨z0, z1, _, _⟩ := HC6.out
  clear hoW hW hd6 HL12 HW5 HBC HD4 HO4 HO5 HO5b HC5
  go_wp2_with fail
  refine HSt.out.mono ?_
  rintro e w7 ⟨aP, hsP, rfl, hoP, hx7⟩
  have HD7 := hidP (HD6.out.ext hx7)
  have HC7 := hidP (HC6.out.below hx7)
  have HO7 := hidP (HO6.out.below hx7)
  have HW7 := hidP (HW6.out.below hx7)
  have HP7 := hidP (hoP.weaken (B' := w.heap.size + 1) (U' := w7.heap.size) (Nat.le_trans HS2.out HD6.out.gb.size) (Nat.le_refl _))
  have hbe := l1Below_any g 12 a n c bs w7 HD7.out.cur (HD7.out.bytes HB2.out) hn (by omega)
  clear hoP hx7 z0 z1 HSt
  go_wp2_with fail
  refine hbe.mono ?_
  rintro e w8 ⟨v, hv, rfl, hc8, hg8⟩
  have hv12 : v < 12 := by have := hv.2 (by omega); omega
  have hd8 : DrawSt w7 w8 g a n c := ⟨hc8, hg8⟩
  have HD8 := hidP (HD7.out.trans hd8)
  have HC8 := hidP (HC7.out.gb hg8 HGC.out)
  have HO8 := hidP (hd8.own HD7.out.cur HO7.out)
  have HW8 := hidP (hd8.own HD7.out.cur HW7.out)
  have HP8 := hidP ((hd8.ownK HD7.out.cur HP7.out).weaken (Nat.le_refl _) hg8.size)
  obtain ⟨k0, hk0⟩ := InCrys.top (HCr.out W HWl.out)
  have HK0 := hidP hk0
  clear hv hc8 hg8 hd8 hbe HD7 HC7 HO7 HW7 HP7 HD6 HC6 HO6 HW6 hk0
  go_wp2
  go_loopw [11, 13] (fun ps kk wr => ∃ (k : Nat) (pa : Option Addr) (pn pc : Nat) (hs : List Hdr) (p : List Stp) (q : Nat), k ≤ v ∧ ps = .slice pa pn pc ∧ kk = .int .i64 k ∧ Hid (DrawSt w2 wr g a n c) ∧ Hid (CellsAt wr bC (.int .i64 R) (.slice ta m2 tc)) ∧ Hid (OwnI wr (w.heap.size + 1) ta m2 tc ts) ∧ Hid (OwnI wr (w.heap.size + 1) aw R cw W) ∧ Hid (OwnK stepK wr (w.heap.size + 1) wr.heap.size pa pn pc hs p) ∧ Hid (InCrys R ts W q p)) (fun _ kk _ => v - (intOf kk).toNat)
  case atStart => exact ⟨0, aP, 1, 1, hsP, straight W, k0, Nat.zero_le _, rfl, rfl, HD8, HC8, HO8, HW8, HP8, HK0⟩
  case round =>
    clear HD8 HC8 HO8 HW8 HP8 HK0
    obtain ⟨k, pa, pn, pc, hs, p, q, hk, rfl, rfl, HD, HC, HO, HW, HP, HK⟩ := hrel
    have HBe := hidP (fun w' (h : DrawSt wr w' g a n c) => l1Below_any g (R : Int) a n c bs w' h.cur ((HD.out.trans h).bytes HB2.out) hn (by omega))
    have HF : Hid (∀ w', DrawSt wr w' g a n c → CellsAt w' bC (.int .i64 R) (.slice ta m2 tc)) := fun w' h => HC.out.gb h.gb HGC.out
    have hE : DrawSt wr wr.drew g a n c := (DrawSt.refl HD.out.cur).ext (Ext.drew wr)
    by_cases hlt : k < v
    · have HLo := hidP (fun w' (h : DrawSt wr w' g a n c) i (hi : i < R) => l9LowerPath_any R ta m2 tc ts i pa pn pc p w' ((h.own HD.out.cur HO.out).ints) HTy.out.ty hi (h.ownK HD.out.cur HP.out).stepsAt HP.out.room.1 HP.out.room.2 (pathB_iff.1 (HK.out.path (HCr.out W HWl.out)).1))
      go_wp2
      (refine walkR_start (fun w' => DrawSt wr w' g a n c) 11 (by kernel_rfl) ?_; simp only [numbered, List.take_succ_cons, List.take_zero, Nat.zero_add, Nat.reduceAdd, List.length_cons, List.length_nil])
      (repeat (first | (refine walkR_still (v := ?_) rfl (by decide +kernel) rfl (fun _ _ _ h => h) hE ?_ ?_; rotate_left; (focus (intro w' hw'; obtain ⟨f0, f1, _, _⟩ := HF.out w' hw'; go_simp; all_goals (with_reducible rfl))); simp only [Act.put, List.setIfInBounds_toArray, List.set_cons_zero, List.set_cons_succ]) | (refine walkR_skip rfl (by decide +kernel) rfl (fun _ _ _ h => h) hE ?_; simp only [Act.put, List.setIfInBounds_toArray, List.set_cons_zero, List.set_cons_succ])))
      (refine walkR_later ?_; simp only [List.cons_append, List.nil_append])
      (repeat (first | (refine walkR_still (v := ?_) rfl (by decide +kernel) rfl (fun _ _ _ h => h) hE ?_ ?_; rotate_left; (focus (intro w' hw'; skip; go_simp; all_goals (with_reducible rfl))); simp only [Act.put, List.setIfInBounds_toArray, List.set_cons_zero, List.set_cons_succ]) | (refine walkR_skip rfl (by decide +kernel) rfl (fun _ _ _ h => h) hE ?_; simp only [Act.put, List.setIfInBounds_toArray, List.set_cons_zero, List.set_cons_succ])))
      (refine walkR_later ?_; simp only [List.cons_append, List.nil_append]); (refine walkR_later ?_; simp only [List.cons_append, List.nil_append]); (refine walkR_later ?_; simp only [List.cons_append, List.nil_append]); (refine walkR_later ?_; simp only [List.cons_append, List.nil_append]); (refine walkR_later ?_; simp only [List.cons_append, List.nil_append])
      (refine walkR_only (fun w' => DrawSt wr w' g a n c) rfl (by decide +kernel) rfl (fun _ h => h) ?_; intro K hK; go_simp; refine (HBe.out _ hE).mono ?_; rintro e w9 ⟨i, hi, rfl, hc9, hg9⟩; refine hK _ _ (hE.trans ⟨hc9, hg9⟩) ?_; clear hK K; (try simp only [Act.put, List.setIfInBounds_toArray, List.set_cons_zero, List.set_cons_succ]))
      have hiR : i < R := by have := hi.2 (by omega); omega
      have hE9 := hE.trans (⟨hc9, hg9⟩ : DrawSt wr.drew w9 g a n c)
      have hlo := HLo.out _ hE9 i hiR
      rcases HK.out.low (HCr.out W HWl.out) hiR with ⟨hn0, _⟩ | ⟨k', q', hq', _, hin, _⟩
      · skip
        have hlo2 : lowR R ts i p = (false, []) := by show optJ (lowF R ts i p) = _; rw [hn0]; rfl
        rw [hlo2] at hlo
        (refine walkR_only (fun w' => DrawSt wr w' g a n c) rfl (by decide +kernel) rfl (fun _ h => h) ?_; intro K hK; go_simp; refine (hlo).mono ?_; rintro e w10 ⟨pa', pn', pc', hs', rfl, ho10, hx10⟩; refine hK _ _ (hE9.ext hx10) ?_; clear hK K; (try simp only []))
        have hE10 := hE9.ext hx10
        (repeat (first | (refine walkR_still (v := ?_) rfl (by decide +kernel) rfl (fun _ _ _ h => h) hE10 ?_ ?_; rotate_left; (focus (intro w' hw'; skip; go_simp; all_goals (with_reducible rfl))); simp only [Act.put, List.setIfInBounds_toArray, List.set_cons_zero, List.set_cons_succ]) | (refine walkR_skip rfl (by decide +kernel) rfl (fun _ _ _ h => h) hE10 ?_; simp only [Act.put, List.setIfInBounds_toArray, List.set_cons_zero, List.set_cons_succ])))
        (refine walkR_tail (by rfl) (by kernel_rfl) ?_; simp only [List.drop_succ_cons, List.drop_zero])
        have HDn := hidP (HD.out.trans hE10)
        have HCn := hidP ((HF.out _ hE10))
        have HOn := hidP (hE10.own HD.out.cur HO.out)
        have HWn := hidP (hE10.own HD.out.cur HW.out)
        have HPn := hidP ((hE10.ownK HD.out.cur HP.out).weaken (Nat.le_refl _) hE10.gb.size)
        clear hE10 ho10 hx10 hlo hlo2 hE9 hE hc9 hg9 hi
        go_wp2
        go_roundw
        case rel => exact ⟨k + 1, pa, pn, pc, hs, p, q, by omega, rfl, by go_num, HDn, HCn, HOn, HWn, HPn, HK⟩
        case measure => simp [intOf]; omega
      · have HIn := hidP hin
        have hlo2 : lowR R ts i p = (true, q') := by show optJ (lowF R ts i p) = _; rw [hq']; rfl
        rw [hlo2] at hlo
        (refine walkR_only (fun w' => DrawSt wr w' g a n c) rfl (by decide +kernel) rfl (fun _ h => h) ?_; intro K hK; go_simp; refine (hlo).mono ?_; rintro e w10 ⟨pa', pn', pc', hs', rfl, ho10, hx10⟩; refine hK _ _ (hE9.ext hx10) ?_; clear hK K; (try simp only []))
        have hE10 := hE9.ext hx10
        (repeat (first | (refine walkR_still (v := ?_) rfl (by decide +kernel) rfl (fun _ _ _ h => h) hE10 ?_ ?_; rotate_left; (focus (intro w' hw'; skip; go_simp; all_goals (with_reducible rfl))); simp only [Act.put, List.setIfInBounds_toArray, List.set_cons_zero, List.set_cons_succ]) | (refine walkR_skip rfl (by decide +kernel) rfl (fun _ _ _ h => h) hE10 ?_; simp only [Act.put, List.setIfInBounds_toArray, List.set_cons_zero, List.set_cons_succ])))
        (refine walkR_tail (by rfl) (by kernel_rfl) ?_; simp only [List.drop_succ_cons, List.drop_zero])
        have HDn := hidP (HD.out.trans hE10)
        have HCn := hidP ((HF.out _ hE10))
        have HOn := hidP (hE10.own HD.out.cur HO.out)
        have HWn := hidP (hE10.own HD.out.cur HW.out)
        have HPn := hidP ((hE10.ownK HD.out.cur HP.out).weaken (Nat.le_refl _) hE10.gb.size)
        have HQn := hidP (ho10.weaken (B' := w.heap.size + 1) (U' := w10.heap.size) (Nat.le_trans HS2.out (HD.out.trans hE9).gb.size) (Nat.le_refl _))
        clear hE10 ho10 hx10 hlo hlo2 hE9 hE hc9 hg9 hi
        go_wp2
        go_roundw
        case rel => exact ⟨k + 1, pa', pn', pc', hs', q', k', by omega, rfl, by go_num, HDn, HCn, HOn, HWn, HQn, HIn⟩
        case measure => simp [intOf]; omega
    · have hBe := HBe.out
      have hF0 := HF.out _ hE
      obtain rfl : v = k := by omega
      go_wp2
      (refine walkR_start (fun w' => CellsAt w' bC (.int .i64 R) (.slice ta m2 tc)) 15 (by kernel_rfl) ?_; simp only [numbered, List.take_succ_cons, List.take_zero, Nat.zero_add, Nat.reduceAdd, List.length_cons, List.length_nil])
      (repeat (first | (refine walkR_still (v := ?_) rfl (by decide +kernel) rfl (fun _ _ _ h => h) hF0 ?_ ?_; rotate_left; (focus (intro w' hw'; obtain ⟨f0, f1, _, _⟩ := hw'; go_simp; all_goals (with_reducible rfl))); simp only [Act.put, List.setIfInBounds_toArray, List.set_cons_zero, List.set_cons_succ]) | (refine walkR_skip rfl (by decide +kernel) rfl (fun _ _ _ h => h) hF0 ?_; simp only [Act.put, List.setIfInBounds_toArray, List.set_cons_zero, List.set_cons_succ])))
      (refine walkR_later ?_; simp only [List.cons_append, List.nil_append])
      (repeat (first | (refine walkR_still (v := ?_) rfl (by decide +kernel) rfl (fun _ _ _ h => h) hF0 ?_ ?_; rotate_left; (focus (intro w' hw'; obtain ⟨f0, f1, _, _⟩ := hw'; go_simp; all_goals (with_reducible rfl))); simp only [Act.put, List.setIfInBounds_toArray, List.set_cons_zero, List.set_cons_succ]) | (refine walkR_skip rfl (by decide +kernel) rfl (fun _ _ _ h => h) hF0 ?_; simp only [Act.put, List.setIfInBounds_toArray, List.set_cons_zero, List.set_cons_succ])))
      (refine walkR_later ?_; simp only [List.cons_append, List.nil_append])
      (repeat (first | (refine walkR_still (v := ?_) rfl (by decide +kernel) rfl (fun _ _ _ h => h) hF0 ?_ ?_; rotate_left; (focus (intro w' hw'; skip; go_simp; all_goals (with_reducible rfl))); simp only [Act.put, List.setIfInBounds_toArray, List.set_cons_zero, List.set_cons_succ]) | (refine walkR_skip rfl (by decide +kernel) rfl (fun _ _ _ h => h) hF0 ?_; simp only [Act.put, List.setIfInBounds_toArray, List.set_cons_zero, List.set_cons_succ])))
      (refine walkR_later ?_; simp only [List.cons_append, List.nil_append]); (refine walkR_later ?_; simp only [List.cons_append, List.nil_append]); (refine walkR_later ?_; simp only [List.cons_append, List.nil_append]); (refine walkR_later ?_; simp only [List.cons_append, List.nil_append])
      (refine walkR_only (fun w' => CellsAt w' bC (.int .i64 R) (.slice ta m2 tc)) rfl (by decide +kernel) rfl (fun _ h => h) ?_; intro K hK; go_simp; refine (hBe _ hE).mono ?_; rintro e w9 ⟨i, hi, rfl, hc9, hg9⟩; refine hK _ _ (HF.out _ (hE.trans ⟨hc9, hg9⟩)) ?_; clear hK K; (try simp only [Act.put, List.setIfInBounds_toArray, List.set_cons_zero, List.set_cons_succ]))
      have hE9 := hE.trans (⟨hc9, hg9⟩ : DrawSt wr.drew w9 g a n c)
      have hiR : i < R := by have := hi.2 (by omega); omega
      (refine walkR_only (fun w' => CellsAt w' bC (.int .i64 R) (.slice ta m2 tc)) rfl (by decide +kernel) rfl (fun _ h => h) ?_; intro K hK; go_simp; refine (hBe _ hE9).mono ?_; rintro e w10 ⟨j, hj, rfl, hc10, hg10⟩; refine hK _ _ (HF.out _ (hE9.trans ⟨hc10, hg10⟩)) ?_; clear hK K; (try simp only [Act.put, List.setIfInBounds_toArray, List.set_cons_zero, List.set_cons_succ]))
      have hE10 := hE9.trans (⟨hc10, hg10⟩ : DrawSt w9 w10 g a n c)
      have hjR : j < R := by have := hj.2 (by omega); omega
      have hres := (HR0.out.gb (HD.out.trans hE10).gb HG.out.1)
      obtain ⟨t0, t1, t2, t3⟩ := hres
      have hc11 := HF.out _ hE10
      (refine walkR_only (fun w' => CellsAt w' bC (.int .i64 R) (.slice ta m2 tc)) rfl (by decide +kernel) rfl ?_ ?_)
      · exact fun _ h => h
      intro K hK
      go_simp
      have hext : Ext w w10 := ext_up HX2.out (HD.out.trans hE10).gb HX2.out.size HG.out.2
      have hcb : bC ≠ w.heap.size := by have := HBW.out; omega
      have hgs : w10.grownBy ((w10.setCell ⟨w.heap.size, 0, none⟩ (.int .i64 R)).setCell ⟨w.heap.size, 1, none⟩ (.slice ta m2 tc)) (some w.heap.size) :=
        ⟨rfl, rfl, rfl, by simp [World.setCell], fun k hk hne => by
          have h1 : k ≠ w.heap.size := by simpa using hne
          exact (Below.heap_setCell (w10.setCell ⟨w.heap.size, 0, none⟩ (.int .i64 R)) ⟨w.heap.size, 1, none⟩ (.slice ta m2 tc) k h1).trans (Below.heap_setCell w10 ⟨w.heap.size, 0, none⟩ (.int .i64 R) k h1)⟩
      have hoF := (hE10.own HD.out.cur HO.out).grown hgs fun b o e => by
        have := (HO.out.at_base b o e).1
        simp only [ne_eq, Option.some.injEq]
        omega
      have hwF := (hE10.own HD.out.cur HW.out).grown hgs fun b o e => by
        have := (HW.out.at_base b o e).1
        simp only [ne_eq, Option.some.injEq]
        omega
      have hpF := (hE10.ownK HD.out.cur HP.out).kept hgs (fun b o e e2 => by
        have := (HP.out.base_lt b o e).1
        simp only [Option.some.injEq] at e2
        omega) (fun i hi b o e e2 => by
        have := ((HP.out.each i hi).at_base b o e).1
        simp only [Option.some.injEq] at e2
        omega)
      have HXF : Hid (Ext w ((w10.setCell ⟨w.heap.size, 0, none⟩ (.int .i64 R)).setCell ⟨w.heap.size, 1, none⟩ (.slice ta m2 tc))) := (hext.setNew _ _ (Nat.le_refl _) _).setNew _ _ (Nat.le_refl _) _
      have HOF := hidP (hoF.base (B' := w.heap.size) (by omega))
      have HWF := hidP (hwF.base (B' := w.heap.size) (by omega))
      have HPF := hidP (hpF.weaken (B' := w.heap.size) (by omega) (Nat.le_trans hE10.gb.size hgs.size))
      have hc12 : CellsAt ((w10.setCell ⟨w.heap.size, 0, none⟩ (.int .i64 R)).setCell ⟨w.heap.size, 1, none⟩ (.slice ta m2 tc)) bC (.int .i64 R) (.slice ta m2 tc) := (hc11.setFar _ _ hcb).setFar _ _ hcb
      have hr0 : ((w10.setCell ⟨w.heap.size, 0, none⟩ (.int .i64 R)).setCell ⟨w.heap.size, 1, none⟩ (.slice ta m2 tc)).cell? ⟨w.heap.size, 0, none⟩ = some (.int .i64 R) := ((⟨t0, t1, t2, t3⟩ : CellsAt w10 w.heap.size _ _).put2 _ _).c0
      have hr1 : ((w10.setCell ⟨w.heap.size, 0, none⟩ (.int .i64 R)).setCell ⟨w.heap.size, 1, none⟩ (.slice ta m2 tc)).cell? ⟨w.heap.size, 1, none⟩ = some (.slice ta m2 tc) := ((⟨t0, t1, t2, t3⟩ : CellsAt w10 w.heap.size _ _).put2 _ _).c1
      refine hK _ _ hc12 ?_
      clear hK K
      (try simp only [Act.put, List.setIfInBounds_toArray, List.set_cons_zero, List.set_cons_succ])
      obtain ⟨wf, hwf⟩ : ∃ wf, wf = (w10.setCell ⟨w.heap.size, 0, none⟩ (.int .i64 R)).setCell ⟨w.heap.size, 1, none⟩ (.slice ta m2 tc) := ⟨_, rfl⟩
      rw [← hwf] at HXF HOF HWF HPF hc12 hr0 hr1 ⊢
      have hRe := HR.out
      have HEnd : Hid (Drew wf w.heap.size t i j ta tc aw cw W pa pn pc hs p q) := ⟨ht, by rw [← hRe]; exact hiR, by rw [← hRe]; exact hjR, by rw [← hRe, ← HTs.out, ← HM2.out]; exact HOF.out, by rw [← hRe]; exact HWF.out, HPF.out, HWl.out, by rw [← hRe, ← HTs.out]; exact HK.out⟩
      clear hwf hoF hwF hpF hgs hext hcb hc11 t0 t1 t2 t3 hE10 hE9 hE hF0 hBe hRe
      (repeat (first | (refine walkR_still (v := ?_) rfl (by decide +kernel) rfl (fun _ _ _ h => h) hc12 ?_ ?_; rotate_left; (focus (intro w' hw'; skip; go_simp; all_goals (with_reducible rfl))); simp only [Act.put, List.setIfInBounds_toArray, List.set_cons_zero, List.set_cons_succ]) | (refine walkR_skip rfl (by decide +kernel) rfl (fun _ _ _ h => h) hc12 ?_; simp only [Act.put, List.setIfInBounds_toArray, List.set_cons_zero, List.set_cons_succ])))
      (refine walkR_tail (by rfl) (by kernel_rfl) ?_; simp only [List.drop_succ_cons, List.drop_zero])
      go_wp2
      refine bodyPost_ret (v := .tuple #[carV R ta m2 tc, .int .i64 i, .int .i64 j, .slice aw R cw, .slice pa pn pc]) (by simp [results, Tryz.results29, go_sem, hr0, hr1]) rfl ⟨t, i, j, ta, tc, aw, cw, W, pa, pn, pc, hs, p, q, by rw [HM2.out, HR.out], HEnd.out, HXF.out⟩
end Go.Proofs.YtfikkfbnlegflaaGreatDoor

namespace Go.Proofs.YtfikkfbnlegflaaGreatDoor
open Go.RowKit

set_option maxHeartbeats 1000000 in
theorem lInts_any (a1 a2 : Option Addr) (n1 n2 c1 c2 : Nat) (xs ys : List Int) (w : World) (h1 : IntsAt w a1 n1 xs) (h2 : IntsAt w a2 n2 ys) (hm1 : n1 ≤ 9223372036854775807) (hm2 : n2 ≤ 9223372036854775807) :
    Calls Tryz.prog 32 #[.slice a1 n1 c1, .slice a2 n2 c2] w fun e w' => e = .returned (.bool (xs == ys)) ∧ ∃ m, w' = w.drewN m := by
  obtain ⟨l1, g1⟩ := h1
  obtain ⟨l2, g2⟩ := h2
  have G1 := hidP g1
  have G2 := hidP g2
  have L1 := hidP l1
  have L2 := hidP l2
  clear g1 g2 l1 l2
  by_cases hne : n1 = n2
  · subst hne
    go_enter Tryz.func32, Tryz.ntmps32
    go_wp2
    go_loopw [5] (fun i wr => ∃ k m : Nat, k ≤ n1 ∧ Hid (∀ j, j < k → xs.getD j 0 = ys.getD j 0) ∧ i = .int .i64 k ∧ wr = w.drewN m) (fun i _ => n1 - (intOf i).toNat)
    case atStart => exact ⟨0, 0, Nat.zero_le _, fun j h => by omega, rfl, rfl⟩
    case round =>
      obtain ⟨k, m, hk, HJ, rfl, rfl⟩ := hrel
      by_cases hlt : k < n1
      · obtain ⟨b1, o1, rfl, q1⟩ := G1.out k hlt
        obtain ⟨b2, o2, rfl, q2⟩ := G2.out k hlt
        by_cases hd : xs.getD k 0 = ys.getD k 0
        · have hb : (xs[k]?.getD 0 != ys[k]?.getD 0) = false := by simpa [List.getD_eq_getElem?_getD] using hd
          have HD := hidP hd
          clear hd
          go_wp2
          go_quiet (fail)
          go_wp2
          go_roundw
          case rel =>
            refine ⟨k + 1, m + nq, by omega, fun j hj => ?_, by go_num, by simp⟩
            rcases Nat.lt_succ_iff_lt_or_eq.1 hj with h3 | rfl
            · exact HJ.out j h3
            · exact HD.out
          case measure => simp [intOf]; omega
        · have hb : (xs[k]?.getD 0 != ys[k]?.getD 0) = true := by simpa [List.getD_eq_getElem?_getD] using hd
          have HB : Hid ((xs == ys) = false) := by
            show _ = _
            rw [beq_eq_false_iff_ne]
            exact fun e => hd (by rw [e])
          clear hd
          go_wp2
          go_quiet (fail)
          go_wp2
          go_ret
          exact ⟨ret_bool HB.out.symm, _, by simp only [World.drewN_drewN]; rfl⟩
      · have HB : Hid ((xs == ys) = true) := by
          show _ = _
          rw [beq_iff_eq]
          exact ints_ext (L1.out.trans L2.out.symm) fun j hj => HJ.out j (by have := L1.out; omega)
        go_wp2
        go_ret
        exact ⟨ret_bool HB.out.symm, _, rfl⟩
  · have HB : Hid ((xs == ys) = false) := by
      show _ = _
      rw [beq_eq_false_iff_ne]
      exact fun e => hne (by rw [← L1.out, ← L2.out, e])
    have hb : (((n1 : Nat) : Int) != (n2 : Nat)) = true := bne_iff_ne.2 (by omega)
    clear hne
    go_enter Tryz.func32, Tryz.ntmps32
    go_wp2
    go_ret
    exact ⟨ret_bool HB.out.symm, 0, rfl⟩
theorem lIntsX_any (a1 a2 : Option Addr) (n1 n2 c1 c2 : Nat) (xs ys : List Int) (w : World) (h1 : IntsAt w a1 n1 xs) (h2 : IntsAt w a2 n2 ys) (hm1 : n1 ≤ 9223372036854775807) (hm2 : n2 ≤ 9223372036854775807) :
    Calls Tryz.prog 32 #[.slice a1 n1 c1, .slice a2 n2 c2] w fun e w' => e = .returned (.bool (xs == ys)) ∧ Ext w w' :=
  (lInts_any a1 a2 n1 n2 c1 c2 xs ys w h1 h2 hm1 hm2).mono fun _ _ ⟨he, m, hw⟩ => ⟨he, by rw [hw]; exact Ext.drewN w m⟩
set_option maxRecDepth 100000 in
set_option maxHeartbeats 4000000 in
theorem lPaths_any (a a' : Option Addr) (n n' c c' : Nat) (p q : List Stp) (w : World) (h : StepsAt w a n p) (h' : StepsAt w a' n' q) (hn : n ≤ 1000000) (hn' : n' ≤ 1000000) :
    Calls Tryz.prog 31 #[.slice a n c, .slice a' n' c'] w fun e w' => e = .returned (.bool (p == q)) ∧ Ext w w' := by
  have HP := hidP h
  have HQ := hidP h'
  have HL := hidP h.len
  have HL' := hidP h'.len
  clear h h'
  by_cases hne : n = n'
  · subst hne
    go_enter Tryz.func31, Tryz.ntmps31
    go_wp2
    go_loopw [5] (fun i wr => ∃ k : Nat, k ≤ n ∧ i = .int .i64 k ∧ Hid (∀ j, j < k → wayAt p j = wayAt q j ∧ lenAt p j = lenAt q j) ∧ Hid (Ext w wr)) (fun i _ => n - (intOf i).toNat)
    case atStart => exact ⟨0, Nat.zero_le _, rfl, fun j h => by omega, Ext.refl _⟩
    case round =>
      obtain ⟨k, hk, rfl, HJ, HX⟩ := hrel
      by_cases hlt : k < n
      · obtain ⟨b, o, aV, cV, V, L, rfl, HV, HLn, hvl, _, hq⟩ := (HP.out.below HX.out).way k hlt
        obtain ⟨b2, o2, aU, cU, U, M, rfl, HU, HM, hul, _, hq2⟩ := (HQ.out.below HX.out).way k hlt
        have HF : Hid (∀ w', Ext wr w' → w'.cell? ⟨b, o + k * 2, none⟩ = some (.slice aV V.length cV) ∧ w'.cell? ⟨b, o + k * 2 + 1, none⟩ = some (.int .i64 L) ∧ w'.cell? ⟨b2, o2 + k * 2, none⟩ = some (.slice aU U.length cU) ∧ w'.cell? ⟨b2, o2 + k * 2 + 1, none⟩ = some (.int .i64 M)) := fun w' hx =>
          ⟨(hq w' hx).1, (hq w' hx).2.1, (hq2 w' hx).1, (hq2 w' hx).2.1⟩
        have HIn := hidP (fun w' (hx : Ext wr w') => lIntsX_any aV aU V.length U.length cV cU V U w' (hq w' hx).2.2 (hq2 w' hx).2.2 hvl hul)
        have hk0 : (0 : Int) ≤ (k : Int) := by omega
        have hk1 : (k : Int) < (n : Int) := by omega
        have hE : Ext wr wr.drew := Ext.drew wr
        clear hq hq2
        by_cases hlm : L = M
        · have hb : (L != M) = false := by simpa using hlm
          cases hvu : (V == U)
          · rw [hvu] at HIn
            have HB : Hid ((p == q) = false) := by
              show _ = _
              rw [beq_eq_false_iff_ne]
              rintro rfl
              have : V = U := by rw [← HV.out, ← HU.out]
              rw [this] at hvu
              simp at hvu
            clear hlm hvu
            go_wp2
            (refine walkR_start (fun w' => Ext wr w') 24 (by kernel_rfl) ?_; simp only [numbered, List.take_succ_cons, List.take_zero, Nat.zero_add, Nat.reduceAdd, List.length_cons, List.length_nil])
            (repeat (first | (refine walkR_still (v := ?_) rfl (by decide +kernel) rfl (fun _ _ _ h => h) hE ?_ ?_; rotate_left; (focus (intro w' hw'; obtain ⟨q1, q2, q3, q4⟩ := HF.out w' hw'; go_simp; all_goals (with_reducible rfl))); simp only [Act.put, List.setIfInBounds_toArray, List.set_cons_zero, List.set_cons_succ]) | (refine walkR_skip rfl (by decide +kernel) rfl (fun _ _ _ h => h) hE ?_; simp only [Act.put, List.setIfInBounds_toArray, List.set_cons_zero, List.set_cons_succ])))
            (refine walkR_only (fun w' => Ext wr w') rfl (by decide +kernel) rfl (fun _ h => h) ?_; intro K hK; go_simp; refine (HIn.out _ hE).mono ?_; rintro e w3 ⟨rfl, hx3⟩; refine hK _ _ (hE.trans hx3) ?_; clear hK K; (try simp only [Act.put, List.setIfInBounds_toArray, List.set_cons_zero, List.set_cons_succ]))
            have hE3 := hE.trans hx3
            clear hx3
            (repeat (first | (refine walkR_still (v := ?_) rfl (by decide +kernel) rfl (fun _ _ _ h => h) hE3 ?_ ?_; rotate_left; (focus (intro w' hw'; skip; go_simp; all_goals (with_reducible rfl))); simp only [Act.put, List.setIfInBounds_toArray, List.set_cons_zero, List.set_cons_succ]) | (refine walkR_skip rfl (by decide +kernel) rfl (fun _ _ _ h => h) hE3 ?_; simp only [Act.put, List.setIfInBounds_toArray, List.set_cons_zero, List.set_cons_succ])))
            (refine walkR_tail (by rfl) (by kernel_rfl) ?_; simp only [List.drop_succ_cons, List.drop_zero])
            have HX3 := hidP (HX.out.trans hE3)
            clear hE3 hE
            go_wp2
            go_ret
            exact ⟨ret_bool HB.out.symm, HX3.out⟩
          · rw [hvu] at HIn
            have HJ' : Hid (∀ j, j < k + 1 → wayAt p j = wayAt q j ∧ lenAt p j = lenAt q j) := by
              intro j hj
              rcases Nat.lt_succ_iff_lt_or_eq.1 hj with h3 | rfl
              · exact HJ.out j h3
              · exact ⟨by rw [HV.out, HU.out]; simpa using hvu, by rw [HLn.out, HM.out]; exact hlm⟩
            clear hlm hvu
            go_wp2
            (refine walkR_start (fun w' => Ext wr w') 24 (by kernel_rfl) ?_; simp only [numbered, List.take_succ_cons, List.take_zero, Nat.zero_add, Nat.reduceAdd, List.length_cons, List.length_nil])
            (repeat (first | (refine walkR_still (v := ?_) rfl (by decide +kernel) rfl (fun _ _ _ h => h) hE ?_ ?_; rotate_left; (focus (intro w' hw'; obtain ⟨q1, q2, q3, q4⟩ := HF.out w' hw'; go_simp; all_goals (with_reducible rfl))); simp only [Act.put, List.setIfInBounds_toArray, List.set_cons_zero, List.set_cons_succ]) | (refine walkR_skip rfl (by decide +kernel) rfl (fun _ _ _ h => h) hE ?_; simp only [Act.put, List.setIfInBounds_toArray, List.set_cons_zero, List.set_cons_succ])))
            (refine walkR_only (fun w' => Ext wr w') rfl (by decide +kernel) rfl (fun _ h => h) ?_; intro K hK; go_simp; refine (HIn.out _ hE).mono ?_; rintro e w3 ⟨rfl, hx3⟩; refine hK _ _ (hE.trans hx3) ?_; clear hK K; (try simp only [Act.put, List.setIfInBounds_toArray, List.set_cons_zero, List.set_cons_succ]))
            have hE3 := hE.trans hx3
            clear hx3
            (repeat (first | (refine walkR_still (v := ?_) rfl (by decide +kernel) rfl (fun _ _ _ h => h) hE3 ?_ ?_; rotate_left; (focus (intro w' hw'; skip; go_simp; all_goals (with_reducible rfl))); simp only [Act.put, List.setIfInBounds_toArray, List.set_cons_zero, List.set_cons_succ]) | (refine walkR_skip rfl (by decide +kernel) rfl (fun _ _ _ h => h) hE3 ?_; simp only [Act.put, List.setIfInBounds_toArray, List.set_cons_zero, List.set_cons_succ])))
            (refine walkR_tail (by rfl) (by kernel_rfl) ?_; simp only [List.drop_succ_cons, List.drop_zero])
            have HX3 := hidP (HX.out.trans hE3)
            clear hE3 hE
            go_wp2
            go_roundw
            case rel => exact ⟨k + 1, by omega, by go_num, HJ', HX3⟩
            case measure => simp [intOf]; omega
        · have hb : (L != M) = true := by simpa using hlm
          have HB : Hid ((p == q) = false) := by
            show _ = _
            rw [beq_eq_false_iff_ne]
            rintro rfl
            exact hlm (by rw [← HLn.out, ← HM.out])
          clear hlm
          go_wp2
          (refine walkR_start (fun w' => Ext wr w') 24 (by kernel_rfl) ?_; simp only [numbered, List.take_succ_cons, List.take_zero, Nat.zero_add, Nat.reduceAdd, List.length_cons, List.length_nil])
          (repeat (first | (refine walkR_still (v := ?_) rfl (by decide +kernel) rfl (fun _ _ _ h => h) hE ?_ ?_; rotate_left; (focus (intro w' hw'; obtain ⟨q1, q2, q3, q4⟩ := HF.out w' hw'; go_simp; all_goals (with_reducible rfl))); simp only [Act.put, List.setIfInBounds_toArray, List.set_cons_zero, List.set_cons_succ]) | (refine walkR_skip rfl (by decide +kernel) rfl (fun _ _ _ h => h) hE ?_; simp only [Act.put, List.setIfInBounds_toArray, List.set_cons_zero, List.set_cons_succ])))
          (refine walkR_tail (by rfl) (by kernel_rfl) ?_; simp only [List.drop_succ_cons, List.drop_zero])
          have HX3 := hidP (HX.out.trans hE)
          clear hE
          go_wp2
          go_ret
          exact ⟨ret_bool HB.out.symm, HX3.out⟩
      · have HB : Hid ((p == q) = true) := by
          show _ = _
          rw [beq_iff_eq]
          apply List.ext_getElem
          · rw [HL.out, HL'.out]
          · intro j h1 h2
            have := HJ.out j (by have := HL.out; omega)
            simp only [wayAt, lenAt, List.getD_eq_getElem?_getD, List.getElem?_eq_getElem h1, List.getElem?_eq_getElem h2, Option.getD_some] at this
            exact Prod.ext this.1 this.2
        go_wp2
        go_ret
        exact ⟨ret_bool HB.out.symm, HX.out⟩
  · have HB : Hid ((p == q) = false) := by
      show _ = _
      rw [beq_eq_false_iff_ne]
      exact fun e => hne (by rw [← HL.out, ← HL'.out, e])
    have hb : (((n : Nat) : Int) != (n' : Nat)) = true := bne_iff_ne.2 (by omega)
    clear hne
    go_enter Tryz.func31, Tryz.ntmps31
    go_wp2
    go_ret
    exact ⟨ret_bool HB.out.symm, Ext.refl _⟩
end Go.Proofs.YtfikkfbnlegflaaGreatDoor

namespace Go.Proofs.YtfikkfbnlegflaaGreatDoor
open Go.RowKit

theorem addV_length (x y : List Int) : (addV x y).length = x.length := by simp [addV]
theorem addV_get (x y : List Int) (j : Nat) (hj : j < x.length) : (addV x y).getD j 0 = x.getD j 0 + y.getD j 0 := by simp [addV, List.getD_eq_getElem?_getD, hj]
set_option maxHeartbeats 2000000 in
theorem lSum2_any (a a' : Option Addr) (n c c' : Nat) (X Y : List Int) (w : World) (h : IntsAt w a n X) (h' : IntsAt w a' n Y) (hnil : a = none → c = 0) (hn : n ≤ 1000000) (hb : ∀ j, j < n → -1000000000 ≤ X.getD j 0 ∧ X.getD j 0 ≤ 1000000000) (hb' : ∀ j, j < n → -1000000000 ≤ Y.getD j 0 ∧ Y.getD j 0 ≤ 1000000000) :
    Calls Tryz.prog 37 #[.slice a n c, .slice a' n c'] w fun e w' => ∃ a2 c2, e = .returned (.slice a2 n c2) ∧ OwnI w' w.heap.size a2 n c2 (addV X Y) ∧ Ext w w' := by
  have H := hidP (h.below (Ext.alloc w (.cells #[] 3)))
  have hm := OwnI.made w w.heap.size 0 (Nat.le_refl _) (by unfold maxLen; omega)
  rw [show Array.replicate 0 (Value.int .i64 0) = #[] from rfl] at hm
  have HM := hidP hm
  have HN := hidP hnil
  have HX := hidP h
  have HY := hidP h'
  have HLX := hidP h.len
  have HLY := hidP h'.len
  have HB := hidP hb
  have HB' := hidP hb'
  have HAl : Hid ((addV X Y).length = n) := by show _ = _; rw [addV_length]; exact h.len
  clear h h' hnil hm hb hb'
  go_enter Tryz.func37, Tryz.ntmps37
  go_wp2_with (at_builtin; refine wpList_append_ints rfl (.tmp 7) (.tmp 8) rfl w.heap.size (some ⟨w.heap.size, 0, none⟩) 0 0 [] rfl HM.out a n c X rfl H.out HN.out (by omega) (by simp) ?_; intro a1 c1 w1 ho1 hg1; rw [Nat.zero_add, List.nil_append] at ho1; rw [Nat.zero_add]; have HO1 := hidP ho1; have HX1 : Hid (Ext w w1) := grown_ext hg1 (Ext.alloc w _) (by simp) (fun q e => by cases e; exact Nat.le_refl _); clear ho1 hg1)
  go_loopw [6] (fun ii wr => ∃ k : Nat, k ≤ n ∧ ii = .int .i64 k ∧ Hid (OwnI wr w.heap.size a1 n c1 (partly X (addV X Y) k)) ∧ Hid (Ext w wr)) (fun ii _ => n - (intOf ii).toNat)
  case atStart => exact ⟨0, Nat.zero_le _, rfl, by rw [partly_zero]; exact HO1, HX1⟩
  case round =>
    clear HO1 HX1
    obtain ⟨k, hk, rfl, HO, HE⟩ := hrel
    by_cases hlt : k < n
    · obtain ⟨g, rfl, _, _, q1, q2⟩ := HO.out.cell k hlt
      rw [partly_at _ _ _ (by rw [HAl.out]; omega)] at q1
      obtain ⟨b', o', rfl, hy⟩ := HY.out.one k hlt
      have h1 := HB.out k hlt
      have h2 := HB'.out k hlt
      have hst := HO.out.stored k (X.getD k 0 + Y.getD k 0)
      rw [← addV_get X Y k (by have := HLX.out; omega), partly_succ _ _ n k hlt HLX.out HAl.out] at hst
      have HSt : Hid (∀ w', Ext wr w' → OwnI (w'.setCell ⟨g, k, none⟩ (.int .i64 (X.getD k 0 + Y.getD k 0))) w.heap.size (some ⟨g, 0, none⟩) n c1 (partly X (addV X Y) (k + 1))) := by
        show ∀ w', _
        intro w' hx
        have h3 := (HO.out.below hx).stored k (X.getD k 0 + Y.getD k 0)
        rw [← addV_get X Y k (by have := HLX.out; omega), partly_succ _ _ n k hlt HLX.out HAl.out] at h3
        rw [← addV_get X Y k (by have := HLX.out; omega)]
        exact h3
      have HG : Hid (w.heap.size ≤ g) := (HO.out.at_base g 0 rfl).1
      obtain ⟨P, hP⟩ : ∃ P, P = X.getD k 0 := ⟨_, rfl⟩
      obtain ⟨Q, hQ⟩ : ∃ Q, Q = Y.getD k 0 := ⟨_, rfl⟩
      rw [← hP] at h1 HSt q1
      rw [← hQ] at h2 HSt
      have HF : Hid (∀ w', Ext wr w' → w'.cell? ⟨g, k, none⟩ = some (.int .i64 P) ∧ w'.frozen? ⟨g, k, none⟩ = false ∧ w'.cell? ⟨b', o' + k, none⟩ = some (.int .i64 Q)) := by
        show ∀ w', _
        intro w' hx
        obtain ⟨g2, e2, _, _, q3, q4⟩ := (HO.out.below hx).cell k hlt
        simp only [Option.some.injEq, Addr.mk.injEq, and_true] at e2
        subst e2
        rw [partly_at _ _ _ (by rw [HAl.out]; omega), ← hP] at q3
        have q5 := hy w' (HE.out.trans hx)
        rw [← hQ] at q5
        exact ⟨q3, q4, q5⟩
      have hwr : IntKind.i64.wrap (P + Q) = P + Q := wrap_in (by omega) (by omega)
      have hk0 : (0 : Int) ≤ (k : Int) := by omega
      have hkn : (k : Int) < (n : Int) := by omega
      clear hst q1 q2 hP hQ hy h1 h2
      have hE : Ext wr wr.drew := Ext.drew wr
      go_wp2
      (refine walkR_start (fun w' => Ext wr w') 11 (by kernel_rfl) ?_; simp only [numbered, List.take_succ_cons, List.take_zero, Nat.zero_add, Nat.reduceAdd, List.length_cons, List.length_nil])
      (repeat (first | (refine walkR_still (v := ?_) rfl (by decide +kernel) rfl (fun _ _ _ h => h) hE ?_ ?_; rotate_left; (focus (intro w' hw'; obtain ⟨q1, q2, q3⟩ := HF.out w' hw'; go_simp; all_goals (with_reducible rfl))); simp only [Act.put, List.setIfInBounds_toArray, List.set_cons_zero, List.set_cons_succ]) | (refine walkR_skip rfl (by decide +kernel) rfl (fun _ _ _ h => h) hE ?_; simp only [Act.put, List.setIfInBounds_toArray, List.set_cons_zero, List.set_cons_succ])))
      (refine walkR_tail (by rfl) (by kernel_rfl) ?_; simp only [List.drop_succ_cons, List.drop_zero])
      obtain ⟨q1, q2, q3⟩ := HF.out _ hE
      have HO3 := hidP (HSt.out _ hE)
      have HX3 : Hid (Ext w (wr.drew.setCell ⟨g, k, none⟩ (.int .i64 (P + Q)))) := Ext.setNew (HE.out.trans hE) _ _ HG.out _
      clear hE q3
      go_wp2
      go_roundw
      case rel => exact ⟨k + 1, by omega, by go_num, HO3, HX3⟩
      case measure => simp [intOf]; omega
    · obtain rfl : n = k := by omega
      rw [partly_all _ _ _ HLX.out HAl.out] at HO
      go_wp2
      go_ret
      exact ⟨_, _, rfl, HO.out, HE.out⟩
/-! the weight of a simple root -/
end Go.Proofs.YtfikkfbnlegflaaGreatDoor

namespace Go.Proofs.YtfikkfbnlegflaaGreatDoor
open Go.RowKit

theorem end_length (r : Nat) (p : List Stp) (h : (endR r p).1 = true) : (endR r p).2.length = r := by
  unfold endR at h ⊢
  split
  · simp [endV_length]
  · rename_i h2; rw [if_neg h2] at h; cases h
theorem end_get {r : Nat} {p : List Stp} (h : (endR r p).1 = true) {j : Nat} (hj : j < r) : (endR r p).2.getD j 0 * 27720 = htAt j p p.length := by
  unfold endR at h ⊢
  split
  · rename_i h2
    simp only [List.all_eq_true, beq_iff_eq] at h2
    have h3 : (endV r p p.length).getD j 0 = htAt j p p.length := endV_get r p p.length j hj
    have hl : j < (endV r p p.length).length := by rw [endV_length]; exact hj
    have h4 : ((endV r p p.length).map fun x => x.tdiv 27720).getD j 0 = (htAt j p p.length).tdiv 27720 := by
      rw [← h3]
      simp [List.getD_eq_getElem?_getD, hl]
    have h5 := h2 (htAt j p p.length) (by
      rw [← h3, List.getD_eq_getElem?_getD, List.getElem?_eq_getElem hl]
      exact List.getElem_mem _)
    rw [h4]
    have := Int.mul_tdiv_add_tmod (htAt j p p.length) 27720
    omega
  · rename_i h2; rw [if_neg h2] at h; cases h
theorem end_bd {r : Nat} {p : List Stp} (h : (endR r p).1 = true) (hp : pathB r p = true) {j : Nat} (hj : j < r) : -1000000000 ≤ (endR r p).2.getD j 0 ∧ (endR r p).2.getD j 0 ≤ 1000000000 := by
  have h1 := end_get h hj
  have h2 := ht_small (pathB_iff.1 hp) hj p.length (Nat.le_refl _)
  omega
theorem endT_in {r : Nat} {ts : List Int} {p : List Stp} (hT : typeB r ts = true) (hp : pathB r p = true) : endT r ts p = endR r p := by
  unfold endT
  rw [Int.toNat_natCast, hT, hp]
  rfl
theorem moveR_in {F : Nat → List Int → Nat → List Stp → Bool × List Stp} {r : Nat} {ts : List Int} {i : Nat} {p : List Stp} (hT : typeB r ts = true) (hp : pathB r p = true) (hi : i < r) : moveR F r ts i p = F r ts i p := by
  unfold moveR
  rw [Int.toNat_natCast, hT, hp, Int.toNat_natCast, if_pos (by rfl), if_pos (insB_true.2 ⟨by omega, by omega⟩)]
/-- a call's result, lowered or not -/
def optS (x : Option (List Stp)) : List Stp := x.getD []
theorem optJ_eq (x : Option (List Stp)) : optJ x = (x.isSome, optS x) := by cases x <;> rfl
/-- what a law on paths stands on -/
structure CrysCtx (w0 : World) (R : Nat) (ts W : List Int) (ta : Option Addr) (tn : Nat) : Prop where
  ty : typeB R ts = true
  cr : crysOk R ts W = true
  car : ∀ w', Ext w0 w' → IntsAt w' ta tn ts
  small : tn ≤ 16
  mx : ∀ w', Ext w0 w' → MaxL w'
section
variable {w0 w' : World} {R : Nat} {ts W : List Int} {ta : Option Addr} {tn tc : Nat} {a : Option Addr} {n c k i : Nat} {q : List Stp}
theorem CrysCtx.low (h : CrysCtx w0 R ts W ta tn) (hx : Ext w0 w') (hk : InCrys R ts W k q) (hs : StepsAt w' a n q) (hnc : n ≤ c) (hcc : c ≤ 9223372036854775807) (hi : i < R) :
    Calls Tryz.prog 16 #[carV R ta tn tc, .int .i64 i, .slice a n c] w' fun e w'' => ∃ a' n' c' hs', e = .returned (.tuple #[.slice a' n' c', .bool (lowF R ts i q).isSome]) ∧ OwnK stepK w'' w'.heap.size w''.heap.size a' n' c' hs' (optS (lowF R ts i q)) ∧ Ext w' w'' := by
  have hp := hk.path h.cr
  have h1 := lowerPath_any R ta tn tc ts i a n c q w' (h.car w' hx) (by have := h.small; omega) hs hnc hcc (h.mx w' hx)
  rw [moveR_in h.ty hp.1 hi, show lowR R ts i q = optJ (lowF R ts i q) from rfl, optJ_eq] at h1
  exact h1
end
end Go.Proofs.YtfikkfbnlegflaaGreatDoor

namespace Go.Proofs.YtfikkfbnlegflaaGreatDoor
open Go.RowKit

theorem end_of {r : Nat} {p : List Stp} (h : ∀ j, j < r → (htAt j p p.length).tmod 27720 = 0) : (endR r p).1 = true := by
  unfold endR
  rw [if_pos]
  simp only [List.all_eq_true, beq_iff_eq]
  intro x hx
  simp only [endV, List.mem_map, List.mem_range] at hx
  obtain ⟨j, hj, rfl⟩ := hx
  exact h j hj
theorem end_mod {r : Nat} {p : List Stp} (h : (endR r p).1 = true) {j : Nat} (hj : j < r) : (htAt j p p.length).tmod 27720 = 0 := by
  have := end_get h hj
  rw [← this]
  exact Int.mul_tmod_left _ _
theorem ht_mir_end (i : Nat) (p : List Stp) : htAt i (mirS p) (mirS p).length = - htAt i p p.length := by
  rw [mirS_length, htAt_mir i p _ (Nat.le_refl _)]
  simp [htAt]
theorem end_mir {r : Nat} {p : List Stp} (h : (endR r p).1 = true) : (endR r (mirS p)).1 = true :=
  end_of fun j hj => by rw [ht_mir_end, Int.neg_tmod, end_mod h hj]; rfl
theorem end_mir_get {r : Nat} {p : List Stp} (h : (endR r p).1 = true) {j : Nat} (hj : j < r) : (endR r (mirS p)).2.getD j 0 = - (endR r p).2.getD j 0 := by
  have h1 := end_get h hj
  have h2 := end_get (end_mir h) hj
  rw [ht_mir_end] at h2
  omega
/-- how far steps go in all -/
def totS (i : Nat) (p : List Stp) : Int := (p.map fun s => s.2 * s.1.getD i 0).sum
theorem totS_append (i : Nat) (p q : List Stp) : totS i (p ++ q) = totS i p + totS i q := by simp [totS]
theorem ht_take (i : Nat) (p : List Stp) : ∀ k, k ≤ p.length → htAt i p k = totS i (p.take k)
  | 0, _ => by simp [htAt, totS]
  | k + 1, h => by
    have hk : k < p.length := by omega
    rw [htAt, ht_take i p k (by omega), List.take_succ_eq_append_getElem hk, totS_append]
    simp [totS, wayAt, lenAt, List.getD_eq_getElem?_getD, hk]
theorem ht_tot (i : Nat) (p : List Stp) : htAt i p p.length = totS i p := by rw [ht_take i p _ (Nat.le_refl _), List.take_length]
theorem totS_add (i : Nat) (out : List Stp) (s : Stp) : totS i (addS out s) = totS i out + s.2 * s.1.getD i 0 := by
  unfold addS
  split
  · rename_i h; rw [h]; simp
  · split
    · rename_i l hl
      have e : out = out.dropLast ++ [l] := by
        have hne : out ≠ [] := by intro h; rw [h] at hl; cases hl
        rw [List.getLast?_eq_some_getLast hne] at hl
        cases hl
        exact (List.dropLast_concat_getLast hne).symm
      split
      · rename_i h2
        rw [totS_append]
        conv => rhs; rw [e, totS_append]
        rw [← h2]
        simp only [totS, List.map_cons, List.map_nil, List.sum_cons, List.sum_nil, Int.add_mul]
        omega
      · rw [totS_append]; simp [totS]
    · rename_i hl
      rw [List.getLast?_eq_none_iff] at hl
      rw [hl]; simp [totS]
theorem totS_join (i : Nat) : ∀ (p out : List Stp), totS i (p.foldl addS out) = totS i out + totS i p
  | [], out => by simp [totS]
  | s :: p, out => by
    rw [List.foldl_cons, totS_join i p, totS_add]
    simp [totS]; omega
theorem tot_joinS (i : Nat) (p : List Stp) : totS i (joinS p) = totS i p := by
  rw [joinS, totS_join]; simp [totS]
/-- a path and its dual, put together: it ends at nought -/
theorem joined_dual (r : Nat) (p : List Stp) : (endR r (joinS (p ++ mirS p))).1 = true ∧ ∀ j, j < r → (endR r (joinS (p ++ mirS p))).2.getD j 0 = 0 := by
  have h0 : ∀ j, htAt j (joinS (p ++ mirS p)) (joinS (p ++ mirS p)).length = 0 := fun j => by
    rw [ht_tot, tot_joinS, totS_append, ← ht_tot, ← ht_tot, ht_mir_end]; omega
  have h1 : (endR r (joinS (p ++ mirS p))).1 = true := end_of fun j _ => by rw [h0]; rfl
  refine ⟨h1, fun j hj => ?_⟩
  have := end_get h1 hj
  rw [h0] at this
  omega
/-- raised where it was lowered -/
theorem rai_dual {r : Nat} {ts : List Int} {i : Nat} {p : List Stp} (hp : pathB r p = true) : raiF2 r ts i (mirS p) = (lowF r ts i p).map mirS := by
  have h := rai_eq (r := r) (R := refl r ts i) (fun w => refl_neg r ts i w) (i := i) (p := mirS p) (lens_of_path (pathB_iff.1 (by rw [pathB_mir]; exact hp)))
  rw [mirS_mirS] at h
  exact h.symm
theorem mirS_snoc (p : List Stp) (s : Stp) : mirS (p ++ [s]) = (negW s.1, s.2) :: mirS p := by simp [mirS]
theorem mirS_take_succ (p : List Stp) {k : Nat} (h : k < p.length) : mirS (p.take (k + 1)) = (negW (wayAt p k), lenAt p k) :: mirS (p.take k) := by
  rw [List.take_succ_eq_append_getElem h, mirS_snoc]
  simp [wayAt, lenAt, List.getD_eq_getElem?_getD, h]
end Go.Proofs.YtfikkfbnlegflaaGreatDoor

set_option linter.unusedVariables false
set_option linter.unusedSimpArgs false
namespace Go.Proofs.YtfikkfbnlegflaaGreatDoor
open Go.RowKit

def timesL (l : Int) (W : List Int) : List Int := W.map fun x => l * x
theorem timesL_length (l : Int) (W : List Int) : (timesL l W).length = W.length := by simp [timesL]
theorem timesL_neg (W : List Int) : timesL (-1) W = negW W := by
  unfold timesL negW
  exact List.map_congr_left fun x _ => by omega
theorem plusV_zeros (l : Int) (W : List Int) : plusV (List.replicate W.length 0) l W = timesL l W := by
  refine ints_ext (by simp [plusV_length, timesL_length]) fun j hj => ?_
  rw [plusV_length, List.length_replicate] at hj
  rw [plusV_get _ _ _ _ (by simpa using hj)]
  simp [timesL, List.getD_eq_getElem?_getD, hj]

set_option maxRecDepth 100000 in
set_option maxHeartbeats 1000000 in
theorem listTimes_any (l : Int) (a : Option Addr) (n c : Nat) (W : List Int) (w : World) (h : IntsAt w a n W) (hn : n ≤ 1000000) (hb : ∀ j, j < n → -1000000000000 ≤ l * W.getD j 0 ∧ l * W.getD j 0 ≤ 1000000000000) :
    Calls Tryz.prog 91 #[.int .i64 l, .slice a n c] w fun e w' => ∃ a' c', e = .returned (.slice a' n c') ∧ OwnI w' w.heap.size a' n c' (timesL l W) ∧ Ext w w' := by
  have hx0 := Ext.alloc w (.cells (Array.replicate n (.int .i64 0)) 3)
  have hM := OwnI.made w w.heap.size n (Nat.le_refl _) (by unfold maxLen; omega)
  have HP := hidP (listPlus_any (some ⟨w.heap.size, 0, none⟩) n n (List.replicate n 0) l a n c W _ hM.ints (fun e => by cases e) hn (h.below hx0) rfl (fun j hj => by
    have h1 := hb j (by simpa using hj)
    refine ⟨h1, ?_⟩
    have : (List.replicate n (0 : Int)).getD j 0 = 0 := by simp [List.getD_eq_getElem?_getD, List.getElem?_replicate]; split <;> rfl
    rw [this]
    omega))
  have hmk := make_ints n (by omega) (by omega) w
  have HX0 := hidP hx0
  have HE : Hid (plusV (List.replicate n 0) l W = timesL l W) := by
    show _ = _
    rw [← h.len]
    exact plusV_zeros l W
  rw [HE.out] at HP
  clear h hx0 hb hM
  go_enter Tryz.func91, Tryz.ntmps91
  go_wp2_with fail
  simp only [Int.toNat_natCast] at *
  refine HP.out.mono ?_
  rintro e w1 ⟨a', c', rfl, ho, hx1⟩
  have HO := hidP (ho.base (B := _) (Nat.le_trans HX0.out.size (Nat.le_refl _)))
  have HX := hidP (HX0.out.trans hx1)
  clear ho hx1 hmk
  go_wp2
  go_ret
  exact ⟨a', c', rfl, HO.out, HX.out⟩

set_option maxRecDepth 100000 in
set_option maxHeartbeats 4000000 in
theorem dualPath_any (R : Nat) (ta : Option Addr) (tn tc : Nat) (ts : List Int) (ap : Option Addr) (np cp : Nat) (ps : List Stp) (w : World) (hc : IntsAt w ta tn ts) (hcn : tn ≤ 16) (hT : typeB R ts = true) (hp : StepsAt w ap np ps) (hP : pathB R ps = true) (hm : MaxL w) :
    Calls Tryz.prog 48 #[carV R ta tn tc, .slice ap np cp] w fun e w' => ∃ g c' hs', e = .returned (.slice (some ⟨g, 0, none⟩) np c') ∧ OwnK stepK w' w.heap.size w'.heap.size (some ⟨g, 0, none⟩) np c' hs' (mirS ps) ∧ Ext w w' := by
  have hx1 := Ext.alloc w (.cells #[.int .i64 R, .slice ta tn tc] 31)
  have HC := hidP (fun w' (hx : Ext (w.alloc (.cells #[.int .i64 R, .slice ta tn tc] 31)) w') => (CarAt.new w _ rfl (R : Int) ta tn tc 31).below hx)
  have HX1 := hidP hx1
  have hpp := pathB_iff.1 hP
  have hN : np ≤ 60 := by have := hpp.len; have := hp.len; omega
  have HOk := hidP (fun w' (hx : Ext w w') => pathOk_of R ta tn tc ts ap np cp ps w' (hp.below hx).terms (by omega) (fun w'' hx' => isCartan_any R ta tn tc ts w'' (hc.below (hx.trans hx')) (by omega) (hm.below (hx.trans hx'))))
  rw [hT, Int.toNat_natCast, hP] at HOk
  have HPP := hidP hpp
  have GP := hidP hp
  have hrk := typeB_rank hT
  have HR4 : Hid (R ≤ 4) := by show _ ≤ _; omega
  clear hc hT hP hm hx1 hpp hp hrk
  obtain ⟨w1, hw1⟩ : ∃ w1, w1 = w.alloc (.cells #[.int .i64 R, .slice ta tn tc] 31) := ⟨_, rfl⟩
  rw [← hw1] at HC HX1
  obtain ⟨y0, y1⟩ := HC.out w1 (Ext.refl _)
  go_enter Tryz.func48, Tryz.ntmps48
  go_wp2_with fail
  rw [← hw1]
  clear hw1
  refine (HOk.out _ HX1.out).mono ?_
  rintro e w2 ⟨rfl, hx2⟩
  have HX2 := hidP (HX1.out.trans hx2)
  clear y0 y1 hx2 HOk HC HX1
  have HM0 : Hid (OwnK stepK (w2.alloc (.cells #[] 69)) w.heap.size (w2.alloc (.cells #[] 69)).heap.size (some ⟨w2.heap.size, 0, none⟩) 0 0 [] []) := (OwnK.made0 stepK w2).weaken HX2.out.size (Nat.le_refl _)
  have HX3 := hidP (HX2.out.trans (Ext.alloc w2 (.cells #[] 69)))
  go_wp2
  go_loopw [5, 15] (fun out i wr => ∃ (k g co : Nat) (hs : List Hdr), k ≤ np ∧ out = .slice (some ⟨g, 0, none⟩) k co ∧ i = .int .i64 k ∧ Hid (OwnK stepK wr w.heap.size wr.heap.size (some ⟨g, 0, none⟩) k co hs (mirS (ps.take k))) ∧ Hid (Ext w wr)) (fun _ i _ => np - (intOf i).toNat)
  case atStart => exact ⟨0, _, _, [], Nat.zero_le _, rfl, rfl, HM0, HX3⟩
  case round =>
    clear HM0 HX3
    obtain ⟨k, g, co, hs, hk, rfl, rfl, HO, HX⟩ := hrel
    by_cases hlt : k < np
    · obtain ⟨b, o, aw, cw, W, L, rfl, HW, HL, hwl, HNl, hq⟩ := (GP.out.below HX.out).way k hlt
      have HQ := hidP hq
      obtain ⟨q1, q2, _⟩ := hq wr (Ext.refl wr)
      have hkl : k < ps.length := by have := GP.out.len; omega
      have hWb := (HPP.out.way k hkl)
      rw [HW.out] at hWb
      have HTk : Hid (mirS (ps.take (k + 1)) = (negW W, L) :: mirS (ps.take k)) := by
        show _ = _
        rw [mirS_take_succ _ hkl, HW.out, HL.out]
      have HA2 := hidP (Ext.alloc wr (.cells #[.slice aw W.length cw, .int .i64 L] 69))
      have HS := hidP (fun w' (hx : Ext (wr.alloc (.cells #[.slice aw W.length cw, .int .i64 L] 69)) w') => (StpAt.new wr _ rfl aw W.length cw L 69).below hx)
      obtain ⟨w5, hw5⟩ : ∃ w5, w5 = wr.alloc (.cells #[.slice aw W.length cw, .int .i64 L] 69) := ⟨_, rfl⟩
      rw [← hw5] at HA2 HS
      have HTm := hidP (fun w' (hx : Ext w5 w') => listTimes_any (-1) aw W.length cw W w' (HQ.out w' (HA2.out.trans hx)).2.2 (by have := hWb.1; have := HR4.out; omega) (fun j hj => by have := hWb.2 j (by omega); omega))
      rw [timesL_neg] at HTm
      clear hq hWb hkl
      go_wp2
      rw [← hw5]
      clear hw5 q1 q2
      have hE : Ext w5 w5.drew := Ext.drew w5
      (refine walkR_start (fun w' => Ext w5 w') 8 (by kernel_rfl) ?_; simp only [numbered, List.take_succ_cons, List.take_zero, Nat.zero_add, Nat.reduceAdd, List.length_cons, List.length_nil])
      (repeat (first | (refine walkR_still (v := ?_) rfl (by decide +kernel) rfl (fun _ _ _ h => h) hE ?_ ?_; rotate_left; (focus (intro w' hw'; obtain ⟨q1, q2⟩ := HS.out w' hw'; go_simp; all_goals (with_reducible rfl))); simp only [Act.put, List.setIfInBounds_toArray, List.set_cons_zero, List.set_cons_succ]) | (refine walkR_skip rfl (by decide +kernel) rfl (fun _ _ _ h => h) hE ?_; simp only [Act.put, List.setIfInBounds_toArray, List.set_cons_zero, List.set_cons_succ])))
      (refine walkR_later ?_; simp only [List.cons_append, List.nil_append])
      (repeat (first | (refine walkR_still (v := ?_) rfl (by decide +kernel) rfl (fun _ _ _ h => h) hE ?_ ?_; rotate_left; (focus (intro w' hw'; obtain ⟨q1, q2⟩ := HS.out w' hw'; go_simp; all_goals (with_reducible rfl))); simp only [Act.put, List.setIfInBounds_toArray, List.set_cons_zero, List.set_cons_succ]) | (refine walkR_skip rfl (by decide +kernel) rfl (fun _ _ _ h => h) hE ?_; simp only [Act.put, List.setIfInBounds_toArray, List.set_cons_zero, List.set_cons_succ])))
      (refine walkR_later ?_; simp only [List.cons_append, List.nil_append]); (refine walkR_later ?_; simp only [List.cons_append, List.nil_append])
      (refine walkR_only (fun w' => Ext w5 w') rfl (by decide +kernel) rfl (fun _ h => h) ?_; intro K hK; go_simp; refine (HTm.out _ hE).mono ?_; rintro e w3 ⟨a1, c1, rfl, ho1, hx1⟩; refine hK _ _ (hE.trans hx1) ?_; clear hK K; (try simp only [Act.put, List.setIfInBounds_toArray, List.set_cons_zero, List.set_cons_succ]))
      have HE3 := hidP (HA2.out.trans ((hE.trans hx1).trans (Ext.alloc w3 (.cells #[.slice a1 W.length c1, .int .i64 L] 69))))
      have HO3 := hidP (HO.out.below HE3.out)
      have HI3 := hidP (ho1.below (Ext.alloc w3 (.cells #[.slice a1 W.length c1, .int .i64 L] 69)))
      have HAp := hidP (HO.out.new_apart ho1 (by have := HA2.out.size; simpa using this))
      have HB3 : Hid (w.heap.size ≤ w5.drew.heap.size) := Nat.le_trans HX.out.size (HA2.out.trans hE).size
      have HOl : Hid (g < w3.heap.size) := Nat.lt_of_lt_of_le (HO.out.olt g 0 rfl) (HA2.out.trans (hE.trans hx1)).size
      have hE3 := hE.trans hx1
      have HIn := hidP (insert_front w.heap.size _ (some ⟨g, 0, none⟩) k co hs _ _ HO3.out w3.heap.size 1 (a1, c1) (negW W, L) (by show _ = some (Obj.cells #[.slice a1 (negW W).length c1, _] _ _); rw [negW_length]; exact heap_alloc_last w3 _)
        (fun b o e => by simp only [Option.some.injEq, Addr.mk.injEq, and_true] at e; have := HOl.out; omega) (by show OwnI _ _ _ (negW W).length _ _; rw [negW_length]; exact HI3.out.base HB3.out) HAp.out.1
        (fun i hi b o b' o' e e' => (HAp.out.1 i hi b' o' b o e' e).symm) (by omega) (Nat.le_trans HX.out.size HE3.out.size))
      clear ho1 hx1 hE
      (repeat (first | (refine walkR_still (v := ?_) rfl (by decide +kernel) rfl (fun _ _ _ h => h) hE3 ?_ ?_; rotate_left; (focus (intro w' hw'; skip; go_simp; all_goals (with_reducible rfl))); simp only [Act.put, List.setIfInBounds_toArray, List.set_cons_zero, List.set_cons_succ]) | (refine walkR_skip rfl (by decide +kernel) rfl (fun _ _ _ h => h) hE3 ?_; simp only [Act.put, List.setIfInBounds_toArray, List.set_cons_zero, List.set_cons_succ])))
      (refine walkR_only (fun w' => Ext w5 w') rfl (by decide +kernel) rfl ?_ ?_)
      · exact fun _ h => h
      intro K hK
      go_simp
      refine hK _ _ (hE3.trans (Ext.alloc w3 (.cells #[.slice a1 W.length c1, .int .i64 L] 69))) ?_
      clear hK K
      (try simp only [Act.put, List.setIfInBounds_toArray, List.set_cons_zero, List.set_cons_succ])
      (refine walkR_tail (by rfl) (by kernel_rfl) ?_; simp only [List.drop_succ_cons, List.drop_zero])
      go_wp2_with fail
      refine HIn.out.mono ?_
      rintro e w6 ⟨a4, c4, rfl, ho4, hg4, hn4⟩
      have HX4 := hidP (HO3.out.below_grown hg4 (HX.out.trans HE3.out) (HX.out.trans HE3.out).size)
      have HO4 := hidP ho4
      clear ho4 hg4 hn4 HIn
      go_wp2
      obtain ⟨g4, rfl⟩ : ∃ g4, a4 = some ⟨g4, 0, none⟩ := by
        rcases HO4.out.form with ⟨_, h0, _⟩ | ⟨g4, _, e4, _⟩
        · omega
        · exact ⟨g4, e4⟩
      go_roundw
      case rel => exact ⟨k + 1, g4, c4, (a1, c1) :: hs, by omega, rfl, by go_num, by rw [HTk.out]; exact HO4.out, HX4.out⟩
      case measure => simp [intOf]; omega
    · obtain rfl : np = k := by omega
      have HT : Hid (ps.take np = ps) := List.take_of_length_le (by have := GP.out.len; omega)
      go_wp2
      go_ret
      exact ⟨g, co, hs, rfl, by rw [← HT.out]; exact HO.out, HX.out⟩
end Go.Proofs.YtfikkfbnlegflaaGreatDoor

set_option linter.unusedVariables false
set_option linter.unusedSimpArgs false
namespace Go.Proofs.YtfikkfbnlegflaaGreatDoor
open Go.RowKit

theorem lZeros_any (a : Option Addr) (n c : Nat) (xs : List Int) (w : World) (h : IntsAt w a n xs) (hn : n ≤ 1000000) (hz : ∀ j, j < n → xs.getD j 0 = 0) :
    Calls Tryz.prog 49 #[.slice a n c] w fun e w' => e = .returned (.bool true) ∧ Ext w w' := by
  have H := hidP h
  have HZ := hidP hz
  clear h hz
  go_enter Tryz.func49, Tryz.ntmps49
  go_wp2
  go_loopw [3] (fun ii wr => ∃ k : Nat, k ≤ n ∧ ii = .int .i64 k ∧ Hid (Ext w wr)) (fun ii _ => n - (intOf ii).toNat)
  case atStart => exact ⟨0, Nat.zero_le _, rfl, Ext.refl _⟩
  case round =>
    obtain ⟨k, hk, rfl, HX⟩ := hrel
    by_cases hlt : k < n
    · obtain ⟨b, o, rfl, hy⟩ := H.out.one k hlt
      have q1 := hy _ HX.out
      rw [HZ.out k hlt] at q1
      clear hy
      go_wp2
      go_roundw
      case rel => exact ⟨k + 1, by omega, by go_num, HX⟩
      case measure => simp [intOf]; omega
    · obtain rfl : n = k := by omega
      go_wp2
      go_ret
      exact ⟨rfl, HX.out⟩
section
variable {w0 w' : World} {R : Nat} {ts W : List Int} {ta : Option Addr} {tn tc : Nat} {a a2 : Option Addr} {n n2 c c2 k i : Nat} {q q2 : List Stp}
theorem CrysCtx.endB (h : CrysCtx w0 R ts W ta tn) (hx : Ext w0 w') (hp : pathB R q = true) (he : (endR R q).1 = true) (hs : StepsAt w' a n q) :
    Calls Tryz.prog 30 #[carV R ta tn tc, .slice a n c] w' fun e w'' => ∃ aE cE, e = .returned (.tuple #[.slice aE R cE, .bool true]) ∧ OwnI w'' w'.heap.size aE R cE (endR R q).2 ∧ Ext w' w'' := by
  have hn : n ≤ 60 := by have := (pathB_iff.1 hp).len; have := hs.len; omega
  have h1 := endOfAll_any R ta tn tc ts a n c q w' (h.car w' hx) (by have := h.small; omega) hs.terms (by omega) (h.mx w' hx)
  rw [endT_in h.ty hp] at h1
  unfold EndRes at h1
  refine h1.mono ?_
  rintro e w'' ⟨aE, nE, cE, rfl, ho, hx'⟩
  have hl := ho.len
  rw [end_length _ _ he] at hl
  subst hl
  rw [he]
  exact ⟨aE, cE, rfl, ho, hx'⟩
theorem CrysCtx.endZ (h : CrysCtx w0 R ts W ta tn) (hx : Ext w0 w') (hs : StepsAt w' a n q) (hn : n ≤ 60) :
    Calls Tryz.prog 30 #[carV R ta tn tc, .slice a n c] w' fun e w'' => ∃ aE nE cE xE, e = .returned (.tuple #[.slice aE nE cE, .bool xE]) ∧ Ext w' w'' := by
  have h1 := endOfAll_any R ta tn tc ts a n c q w' (h.car w' hx) (by have := h.small; omega) hs.terms (by omega) (h.mx w' hx)
  unfold EndRes at h1
  refine h1.mono ?_
  rintro e w'' ⟨aE, nE, cE, rfl, ho, hx'⟩
  exact ⟨aE, nE, cE, _, rfl, hx'⟩
theorem CrysCtx.raiB (h : CrysCtx w0 R ts W ta tn) (hx : Ext w0 w') (hp : pathB R q = true) (hs : StepsAt w' a n q) (hnc : n ≤ c) (hcc : c ≤ 9223372036854775807) (hi : i < R) :
    Calls Tryz.prog 23 #[carV R ta tn tc, .int .i64 i, .slice a n c] w' fun e w'' => ∃ a' n' c' hs', e = .returned (.tuple #[.slice a' n' c', .bool (raiF2 R ts i q).isSome]) ∧ OwnK stepK w'' w'.heap.size w''.heap.size a' n' c' hs' (optS (raiF2 R ts i q)) ∧ Ext w' w'' := by
  have h1 := raisePath_any R ta tn tc ts i a n c q w' (h.car w' hx) (by have := h.small; omega) hs hnc hcc (h.mx w' hx)
  rw [moveR_in h.ty hp hi, show raiR R ts i q = optJ (raiF2 R ts i q) from rfl, optJ_eq] at h1
  exact h1
theorem CrysCtx.dual (h : CrysCtx w0 R ts W ta tn) (hx : Ext w0 w') (hp : pathB R q = true) (hs : StepsAt w' a n q) :
    Calls Tryz.prog 48 #[carV R ta tn tc, .slice a n c] w' fun e w'' => ∃ g c' hs', e = .returned (.slice (some ⟨g, 0, none⟩) n c') ∧ OwnK stepK w'' w'.heap.size w''.heap.size (some ⟨g, 0, none⟩) n c' hs' (mirS q) ∧ Ext w' w'' :=
  dualPath_any R ta tn tc ts a n c q w' (h.car w' hx) h.small h.ty hs hp (h.mx w' hx)
theorem CrysCtx.join (h : CrysCtx w0 R ts W ta tn) (hx : Ext w0 w') (hp : pathB R q = true) (hp2 : pathB R q2 = true) (hs : StepsAt w' a n q) (hs2 : StepsAt w' a2 n2 q2) :
    Calls Tryz.prog 50 #[carV R ta tn tc, .slice a n c, .slice a2 n2 c2] w' fun e w'' => ∃ a' n' c' hs', e = .returned (.tuple #[.slice a' n' c', .bool (checkS R (q ++ q2)).isSome]) ∧ OwnK stepK w'' w'.heap.size w''.heap.size a' n' c' hs' (optS (checkS R (q ++ q2))) ∧ Ext w' w'' := by
  have hn : n ≤ 60 := by have := (pathB_iff.1 hp).len; have := hs.len; omega
  have hn2 : n2 ≤ 60 := by have := (pathB_iff.1 hp2).len; have := hs2.len; omega
  have h1 := joinPaths_any R ta tn tc ts a n c q a2 n2 c2 q2 w' (h.car w' hx) (by have := h.small; omega) hs (by omega) hs2 (by omega) (h.mx w' hx)
  unfold joinR at h1
  rw [h.ty, Int.toNat_natCast, hp, hp2, Bool.and_self, if_pos rfl, if_pos rfl, chk_opt, optJ_eq] at h1
  exact h1
end
theorem checkS_some {r : Nat} {p q : List Stp} (h : checkS r p = some q) : q = joinS p ∧ pathB r q = true := by
  unfold checkS at h
  split at h
  · rename_i h2
    cases h
    exact ⟨rfl, h2⟩
  · cases h
end Go.Proofs.YtfikkfbnlegflaaGreatDoor

set_option linter.unusedVariables false
set_option linter.unusedSimpArgs false
namespace Go.Proofs.YtfikkfbnlegflaaGreatDoor.fnPathDuals
open Go.RowKit

set_option maxRecDepth 100000 in
set_option maxHeartbeats 8000000 in
/-- The Go text returns true, and leaves what was there. -/
theorem walk (a : Option Addr) (n c : Nat) (bs : List Int) (w : World) (hb : BytesAt w a n bs) (hn : n ≤ 9223372036854775807) (hm : MaxL w) :
    Calls Tryz.prog 10 #[.slice a n c] w fun e w' => e = .returned (.bool true) ∧ Ext w w' := by
  by_cases hbig : 1048576 < n
  · have hbg := big_any a n c w
    rw [decide_eq_true hbig] at hbg
    clear hb hbig
    go_enter Tryz.func10, Tryz.ntmps10
    go_wp2_with fail
    refine hbg.mono ?_
    rintro e w1 ⟨rfl, rfl⟩
    go_wp2
    go_ret
    exact ⟨rfl, Ext.refl _⟩
  · have hbg := big_any a n c w
    rw [decide_eq_false hbig] at hbg
    have hdr := drawPath_any a n c bs w hb (by omega)
    have HMx := hidP (fun w' (hx : Ext w w') => hm.below hx)
    clear hb hbig hm
    go_enter Tryz.func10, Tryz.ntmps10
    go_wp2_with fail
    refine hbg.mono ?_
    rintro e w1 ⟨rfl, rfl⟩
    go_wp2_with fail
    refine hdr.mono ?_
    rintro e w2 ⟨t, i, j, ta, tc, aw, cw, W, pa, pn, pc, hs, p, k, rfl, hd, hx2⟩
    have hK := small_type t hd.ht
    have hCr := small_crys t hd.ht W hd.light
    have hWy := light_way hd.ht hd.light
    have hCa := hd.car
    have hWg := hd.wgt
    have hPa := hd.path
    have hIn := hd.crys
    have hiR := hd.hi
    have hTy := hK.ty
    have hrk := typeB_rank hTy
    clear hK hd hdr hbg
    generalize smallM t = ts at hCr hCa hIn hTy hrk
    generalize smallR t = R at hCr hWy hCa hWg hIn hiR hTy hrk ⊢
    have hR4 : R ≤ 4 := by omega
    have hRR : R * R ≤ 16 := Nat.mul_le_mul hR4 hR4
    obtain ⟨m2, hm2⟩ : ∃ m2, m2 = R * R := ⟨_, rfl⟩
    rw [← hm2] at hCa hRR ⊢
    have HX := hidP (show CrysCtx w2 R ts W ta m2 from ⟨hTy, hCr, fun w' hx => (hCa.below hx).ints, hRR, fun w' hx => HMx.out w' (hx2.trans hx)⟩)
    have HC := hidP (fun w' (hx : Ext (w2.alloc (.cells #[.int .i64 R, .slice ta m2 tc] 31)) w') => (CarAt.new w2 w2.heap.size rfl R ta m2 tc 31).below hx)
    have hx3 := Ext.alloc w2 (.cells #[.int .i64 R, .slice ta m2 tc] 31)
    have HP0 := hidP (fun w' (hx : Ext w2 w') => (hPa.below hx).stepsAt)
    have HW0 := hidP (fun w' (hx : Ext w2 w') => hWg.below hx)
    have hp := hIn.path hCr
    have hroom := hPa.room
    have hpn : pn ≤ 60 := by have := (pathB_iff.1 hp.1).len; have := hPa.xl; omega
    have HIn := hidP hIn
    have HCr := hidP hCr
    have HP1 := hidP hp
    have HD1 : Hid (pathB R (mirS p) = true) := by show _ = _; rw [pathB_mir]; exact hp.1
    have HD2 : Hid ((endR R (mirS p)).1 = true) := end_mir hp.2
    have HX2 := hidP hx2
    have hpc1 := hroom.1
    have hpc2 := hroom.2
    clear hm2 hCr hWy hCa hWg hPa hIn hTy hrk hp hroom hx2 HMx
    obtain ⟨w3, hw3⟩ : ∃ w3, w3 = w2.alloc (.cells #[.int .i64 R, .slice ta m2 tc] 31) := ⟨_, rfl⟩
    rw [← hw3] at HC hx3
    have HX3 := hidP hx3
    have HW3 : Hid (w2.alloc (.cells #[.int .i64 R, .slice ta m2 tc] 31) = w3) := hw3.symm
    clear hw3 hx3
    go_wp2_with fail
    rw [HW3.out]
    clear HW3
    refine (HX.out.dual HX3.out HP1.out.1 (HP0.out _ HX3.out)).mono ?_
    rintro e w4 ⟨gD, cD, hsD, rfl, hoD, hx4⟩
    have HX4 := hidP hx4
    have HD4 := hidP hoD
    obtain ⟨f0, f1⟩ := HC.out w4 hx4
    clear hx4 hoD
    go_wp2_with fail
    refine (HX.out.endB (HX3.out.trans HX4.out) HP1.out.1 HP1.out.2 (HP0.out _ (HX3.out.trans HX4.out))).mono ?_
    rintro e w5 ⟨aE, cE, rfl, hoE, hx5⟩
    have HX5 := hidP (HX4.out.trans hx5)
    have HD5 := hidP (HD4.out.below hx5)
    have HE5 := hidP hoE
    obtain ⟨g0, g1⟩ := HC.out w5 HX5.out
    clear hx5 hoE f0 f1
    go_wp2_with fail
    refine (HX.out.endB (HX3.out.trans HX5.out) HD1.out HD2.out HD5.out.stepsAt).mono ?_
    rintro e w6 ⟨aF, cF, rfl, hoF, hx6⟩
    have HX6 := hidP (HX5.out.trans hx6)
    have HD6 := hidP (HD5.out.below hx6)
    have HE6 := hidP (HE5.out.below hx6)
    have HF6 := hidP hoF
    have HSm := hidP (lSum2_any aE aF R cE cF (endR R p).2 (endR R (mirS p)).2 w6 HE6.out.ints HF6.out.ints HE6.out.nil_cap (by omega) (fun j hj => end_bd HP1.out.2 HP1.out.1 hj) (fun j hj => end_bd HD2.out HD1.out hj))
    clear hx6 hoF g0 g1
    go_wp2_with fail
    refine HSm.out.mono ?_
    rintro e w7 ⟨aS, cS, rfl, hoS, hx7⟩
    have HX7 := hidP (HX6.out.trans hx7)
    have HD7 := hidP (HD6.out.below hx7)
    have HZ7 := hidP (lZeros_any aS R cS _ w7 hoS.ints (by omega) (fun j hj => by
      rw [addV_get _ _ _ (by rw [end_length _ _ HP1.out.2]; exact hj), end_mir_get HP1.out.2 hj]; omega))
    clear hx7 hoS HSm
    go_wp2_with fail
    refine HZ7.out.mono ?_
    rintro e w8 ⟨rfl, hx8⟩
    have HX8 := hidP (HX7.out.trans hx8)
    have HD8 := hidP (HD7.out.below hx8)
    obtain ⟨f0, f1⟩ := HC.out w8 HX8.out
    clear hx8 HZ7
    go_wp2_with fail
    refine (HX.out.dual (HX3.out.trans HX8.out) HD1.out HD8.out.stepsAt).mono ?_
    rintro e w9 ⟨gB, cB, hsB, rfl, hoB, hx9⟩
    have HX9 := hidP (HX8.out.trans hx9)
    have HD9 := hidP (HD8.out.below hx9)
    rw [mirS_mirS] at hoB
    have HPt := hidP (lPaths_any _ pa _ pn cB pc p p w9 hoB.stepsAt (HP0.out _ (HX3.out.trans HX9.out)) (by omega) (by omega))
    rw [beq_self_eq_true] at HPt
    clear hx9 hoB f0 f1
    go_wp2_with fail
    refine HPt.out.mono ?_
    rintro e w10 ⟨rfl, hx10⟩
    have HX10 := hidP (HX9.out.trans hx10)
    have HD10 := hidP (HD9.out.below hx10)
    obtain ⟨f0, f1⟩ := HC.out w10 HX10.out
    clear hx10 HPt
    go_wp2_with fail
    refine (HX.out.low (HX3.out.trans HX10.out) HIn.out (HP0.out _ (HX3.out.trans HX10.out)) hpc1 hpc2 hiR).mono ?_
    rintro e w11 ⟨q1, q2, q3, q4, rfl, hoQ, hx11⟩
    have HX11 := hidP (HX10.out.trans hx11)
    have HD11 := hidP (HD10.out.below hx11)
    have HQ11 := hidP hoQ
    obtain ⟨g0, g1⟩ := HC.out w11 HX11.out
    have hr1 := HD11.out.room.1
    have hr2 := HD11.out.room.2
    clear hx11 hoQ f0 f1
    go_wp2_with fail
    refine (HX.out.raiB (HX3.out.trans HX11.out) HD1.out HD11.out.stepsAt hr1 hr2 hiR).mono ?_
    rintro e w12 ⟨r1, r2, r3, r4, rfl, hoR, hx12⟩
    rw [rai_dual HP1.out.1] at hoR ⊢
    rw [Option.isSome_map]
    have HX12 := hidP (HX11.out.trans hx12)
    have HD12 := hidP (HD11.out.below hx12)
    have HQ12 := hidP (HQ11.out.below hx12)
    have HR12 := hidP hoR
    clear hx12 hoR g0 g1 hr1 hr2
    rcases HIn.out.low HCr.out hiR with ⟨h1, _⟩ | ⟨k2, q', h1, _, h3, _⟩
    · rw [h1]
      simp only [Option.isSome_none]
      clear h1 HQ12 HR12
      obtain ⟨g0, g1⟩ := HC.out w12 HX12.out
      go_wp2_with fail
      refine (HX.out.join (HX3.out.trans HX12.out) HP1.out.1 HD1.out (HP0.out _ (HX3.out.trans HX12.out)) HD12.out.stepsAt).mono ?_
      rintro e wj ⟨j1, j2, j3, j4, rfl, hoJ, hxj⟩
      have HXj := hidP (HX12.out.trans hxj)
      have HJ := hidP hoJ
      clear hxj hoJ g0 g1
      cases hj : checkS R (p ++ mirS p) with
      | none =>
        rw [hj] at HJ
        simp only [Option.isSome_none]
        obtain ⟨f0, f1⟩ := HC.out wj HXj.out
        have hl0 : j2 ≤ 60 := by have := HJ.out.xl; rw [← this]; exact Nat.zero_le _
        have HEz := hidP (HX.out.endZ (tc := tc) (c := j3) (HX3.out.trans HXj.out) HJ.out.stepsAt hl0)
        clear hj hl0
        go_wp2_with fail
        refine HEz.out.mono ?_
        rintro e we ⟨e1, e2, e3, e4, rfl, hxe⟩
        have HXz := hidP ((HX2.out.trans HX3.out).trans (HXj.out.trans hxe))
        clear hxe f0 f1
        go_wp2
        go_ret
        exact ⟨rfl, HXz.out⟩
      | some jp =>
        rw [hj] at HJ
        simp only [Option.isSome_some]
        obtain ⟨hjq, hjp⟩ := checkS_some hj
        have hje := joined_dual R p
        rw [← hjq] at hje
        have HJE := hidP hje
        have HJP := hidP hjp
        obtain ⟨f0, f1⟩ := HC.out wj HXj.out
        clear hj hjq hjp hje
        go_wp2_with fail
        refine (HX.out.endB (HX3.out.trans HXj.out) HJP.out HJE.out.1 HJ.out.stepsAt).mono ?_
        rintro e we ⟨e1, e3, rfl, hoe, hxe⟩
        have HXe := hidP (HXj.out.trans hxe)
        have HZe := hidP (lZeros_any e1 R e3 _ we hoe.ints (by omega) (fun j hj => HJE.out.2 j hj))
        clear hxe hoe f0 f1
        go_wp2_with fail
        refine HZe.out.mono ?_
        rintro e wf ⟨rfl, hxf⟩
        have HXz := hidP ((HX2.out.trans HX3.out).trans (HXe.out.trans hxf))
        clear hxf HZe
        go_wp2
        go_ret
        exact ⟨rfl, HXz.out⟩
    · rw [h1] at HQ12 HR12 ⊢
      simp only [Option.isSome_some]
      have hq := h3.path HCr.out
      have HQP := hidP hq
      obtain ⟨f0, f1⟩ := HC.out w12 HX12.out
      clear h1 h3 hq
      go_wp2_with fail
      refine (HX.out.dual (HX3.out.trans HX12.out) HQP.out.1 HQ12.out.stepsAt).mono ?_
      rintro e w13 ⟨gK, cK, hsK, rfl, hoK, hx13⟩
      have HX13 := hidP (HX12.out.trans hx13)
      have HD13 := hidP (HD12.out.below hx13)
      have HPt := hidP (lPaths_any _ r1 _ r2 cK r3 (mirS q') (mirS q') w13 hoK.stepsAt (HR12.out.below hx13).stepsAt (by have := HQ12.out.xl; have := (pathB_iff.1 HQP.out.1).len; simp only [optS, Option.getD_some] at *; omega) (by have := HR12.out.xl; have := (pathB_iff.1 HQP.out.1).len; simp only [optS, Option.map_some, Option.getD_some, mirS_length] at *; omega))
      rw [beq_self_eq_true] at HPt
      clear hx13 hoK f0 f1
      go_wp2_with fail
      refine HPt.out.mono ?_
      rintro e w14 ⟨rfl, hx14⟩
      have HX14 := hidP (HX13.out.trans hx14)
      have HD14 := hidP (HD13.out.below hx14)
      clear hx14 HPt
      obtain ⟨g0, g1⟩ := HC.out w14 HX14.out
      go_wp2_with fail
      refine (HX.out.join (HX3.out.trans HX14.out) HP1.out.1 HD1.out (HP0.out _ (HX3.out.trans HX14.out)) HD14.out.stepsAt).mono ?_
      rintro e wj ⟨j1, j2, j3, j4, rfl, hoJ, hxj⟩
      have HXj := hidP (HX14.out.trans hxj)
      have HJ := hidP hoJ
      clear hxj hoJ g0 g1
      cases hj : checkS R (p ++ mirS p) with
      | none =>
        rw [hj] at HJ
        simp only [Option.isSome_none]
        obtain ⟨f0, f1⟩ := HC.out wj HXj.out
        have hl0 : j2 ≤ 60 := by have := HJ.out.xl; rw [← this]; exact Nat.zero_le _
        have HEz := hidP (HX.out.endZ (tc := tc) (c := j3) (HX3.out.trans HXj.out) HJ.out.stepsAt hl0)
        clear hj hl0
        go_wp2_with fail
        refine HEz.out.mono ?_
        rintro e we ⟨e1, e2, e3, e4, rfl, hxe⟩
        have HXz := hidP ((HX2.out.trans HX3.out).trans (HXj.out.trans hxe))
        clear hxe f0 f1
        go_wp2
        go_ret
        exact ⟨rfl, HXz.out⟩
      | some jp =>
        rw [hj] at HJ
        simp only [Option.isSome_some]
        obtain ⟨hjq, hjp⟩ := checkS_some hj
        have hje := joined_dual R p
        rw [← hjq] at hje
        have HJE := hidP hje
        have HJP := hidP hjp
        obtain ⟨f0, f1⟩ := HC.out wj HXj.out
        clear hj hjq hjp hje
        go_wp2_with fail
        refine (HX.out.endB (HX3.out.trans HXj.out) HJP.out HJE.out.1 HJ.out.stepsAt).mono ?_
        rintro e we ⟨e1, e3, rfl, hoe, hxe⟩
        have HXe := hidP (HXj.out.trans hxe)
        have HZe := hidP (lZeros_any e1 R e3 _ we hoe.ints (by omega) (fun j hj => HJE.out.2 j hj))
        clear hxe hoe f0 f1
        go_wp2_with fail
        refine HZe.out.mono ?_
        rintro e wf ⟨rfl, hxf⟩
        have HXz := hidP ((HX2.out.trans HX3.out).trans (HXe.out.trans hxf))
        clear hxf HZe
        go_wp2
        go_ret
        exact ⟨rfl, HXz.out⟩
end Go.Proofs.YtfikkfbnlegflaaGreatDoor.fnPathDuals

namespace Go.Proofs.YtfikkfbnlegflaaGreatDoor.fnPathDuals
open Go.ChangeShapes Go.WideShapes Go.ChangeAt Go.RowKit
set_option linter.unusedVariables false

theorem maxL_of {W : World} (h : W.ShapedOpen Tryz.prog) : MaxL W :=
  cell_of_shapedOpen_int (P := Tryz.prog) (g := 0) (t := 3) (zero := #[.int .i64 0]) h (of_decide_eq_true (by kernel_rfl)) (by kernel_rfl) rfl (by kernel_rfl) (by kernel_rfl) Tryz.underlying3

theorem own : ownKnob Tryz.prog.godebug = none := by kernel_rfl
theorem laidOut : laidOutB Tryz.prog = true := by kernel_rfl
/-! ### THE ROW's STEP -/
set_option maxRecDepth 100000 in
theorem lifted (os : Os) (started : os.Started) (H : Type) (enc : TypeId × Value → H) :
    ReturnsInHanded {} Tryz.checked os 10 .any (fun w args => (Rows.fnPathDualsSpec.pre enc Tryz.prog Tryz.f10 [] false w args ∧ laidMetH Tryz.prog Rows.fnPathDualsRow.laid w) ∧ sizedMet enc Tryz.prog Tryz.f10 (OpenSpec.ofChange Rows.fnPathDualsSpec) false w args)
      (Rows.fnPathDualsSpec.post enc Tryz.prog Tryz.f10 false true false false) := by
  refine returnsInHanded_of_calls (C := Tryz.checked) own started (by kernel_rfl)
    (ChangeSpec.witness_shaped (enc := enc) (C := Tryz.checked) (os := os) (X := fun w _ => laidMetH Tryz.prog Rows.fnPathDualsRow.laid w) false (World.laidAll Tryz.prog os Rows.fnPathDualsRow.laid) #[.slice none 0 0] 8 (World.laidAll_os _ _ _)
      (World.shaped_of_ZipB (by kernel_rfl) (by kernel_rfl)) (by kernel_rfl) (by kernel_rfl) (by kernel_rfl)
      (by rw [MakeChecks.laidMetH_plain _ _ _ (by kernel_rfl)]; exact laidMet_laidAll _ (by kernel_rfl) (by kernel_rfl))) ?_
  intro w0 tape i _ hsh0 _ hok hpre _
  obtain ⟨_, _, _, fn', hfn', _, _, _, _, hval1⟩ := hok
  obtain rfl : fn' = Tryz.f10 := Option.some.inj (hfn'.symm.trans Tryz.func10)
  obtain ⟨⟨⟨ds, gs, before, hw, _⟩, hx⟩, _⟩ := hpre
  have hW0 := DataW.Whole.of_heap (w' := w0.forCall tape i) (by rfl) hw
  have hmax0 : MaxL (w0.forCall tape i) := maxL_of hsh0
  suffices hS : Calls Tryz.prog 10 i.args (w0.forCall tape i) fun e W' => ∃ v, e = .returned v ∧ Rows.fnPathDualsSpec.post enc Tryz.prog Tryz.f10 false true false false (w0.forCall tape i) i.args v W' from
    hS.mono fun e W' ⟨v, he, hp⟩ => by subst he; exact ChangeSpec.post_blind hp
  clear hw hx hfn' hsh0
  obtain ⟨W, eW⟩ : ∃ W, W = w0.forCall tape i := ⟨_, rfl⟩
  obtain ⟨args, eA⟩ : ∃ args, args = i.args := ⟨_, rfl⟩
  obtain ⟨base, eB⟩ : ∃ base, base = w0.heap.size := ⟨_, rfl⟩
  rw [← eW, ← eA] at hW0 hval1 ⊢
  rw [← eB] at hval1
  rw [← eW] at hmax0
  clear eW eA eB
  have hW := hW0
  have hval0 := hval1
  have hval : ∀ (j : Nat) t v, Tryz.f10.params[j]? = some t → args[j]? = some v → Value.okWide Tryz.prog W .any base t v := hval0
  have hW' := hW
  obtain ⟨p, q, hA0, hV, rfl, hfz, hnd⟩ := hW
  have hA : DataW.TrodAll enc Tryz.prog W 0 (fun _ => true) true Tryz.f10.params.toList args.toList ds p := hA0
  rw [Tryz.params10] at hA hval
  obtain ⟨v0, vs0, d0, ds0, p0, q0, hargs, rfl, rfl, h0, r0⟩ := trodAll_cons hA
  obtain ⟨rfl, rfl, rfl⟩ := trodAll_nil r0
  obtain rfl : args = #[v0] := by cases args; simp_all
  obtain ⟨rfl, rfl⟩ := trodVars_none hV
  have lt0 : ∀ x ∈ p0, x.block < W.heap.size := fun x hx => hW'.lt x (by simp [hx])
  obtain ⟨z0, l0, m0, rfl⟩ := okWide_slice Tryz.underlying41 (hval 0 41 v0 rfl rfl)
  obtain ⟨fuel0, hf0⟩ := id h0
  obtain ⟨e0, n0, k0, xs0, q0, i0, s0⟩ := bytes_in Tryz.underlying41 Tryz.underlying5 (by kernel_rfl) hf0
  simp only [Value.cells, List.cons.injEq, and_true, Value.slice.injEq] at q0
  obtain ⟨rfl, rfl, rfl⟩ := q0
  clear hA0 hval0
  refine (walk z0 l0 m0 xs0 W i0 s0 hmax0).mono fun e W' ⟨he, bel⟩ => ?_
  subst he
  exact ⟨_, rfl, _, _, _, [], _, [], hW', trodAll_mk1 (shut_bool Tryz.underlying4 _), (trodAll_cons_mk (Below.trod laidOut (by kernel_rfl) (of_decide_eq_true (by kernel_rfl)) h0 bel lt0) trodAll_mk0), rfl, bel.frame _, fun h => by cases h⟩

theorem over : Rows.FnPathDualsSaid :=
  OpenClaim.holds_of_wide 10 Tryz.f10 rfl rfl rfl rfl rfl rfl rfl ⟨rfl, rfl, rfl, rfl, rfl⟩ rfl rfl rfl rfl rfl (by kernel_rfl) Tryz.func10 (by kernel_rfl)
    (of_decide_eq_true (by kernel_rfl)) (by unfold Func.isWrapper; first | (rw [if_pos (by decide +kernel)]; kernel_rfl) | (rw [if_neg (by decide +kernel)]; exact ⟨rfl, rfl⟩))
    (fun os started H enc _ => lifted os started H enc)

/-- THE STATEMENT: the tied card -/
theorem proved : Rows.FnPathDualsCardSaid :=
  Claim7.holds_tied_plain_at .later [] [.data, .pinned] true _ false
    over (fun _ h => by cases h) (by kernel_rfl) (fun _ h => by cases h) fnPathDuals_row_tie rfl ⟨rfl, rfl⟩ (by kernel_rfl) rfl
    (fun f fn hf hfn => by
      obtain rfl : f = 10 := Option.some.inj ((show Tryz.prog.funcNamed Rows.fnPathDualsRow.func = some 10 from (by kernel_rfl)).symm.trans hf) |>.symm
      obtain rfl : fn = Tryz.f10 := (Option.some.inj (Tryz.func10.symm.trans hfn)).symm
      refine ⟨by kernel_rfl, fun j t ht => ?_⟩
      have hall : (Tryz.f10.params.toList.all fun t => !Tryz.prog.wantsStandIn t) = true := by kernel_rfl
      have hm : t ∈ Tryz.f10.params.toList := by rw [Array.mem_toList_iff]; exact Array.mem_of_getElem? ht
      have := List.all_eq_true.1 hall t hm
      exact (show Tryz.prog.wantsStandIn t = false by simpa using this))
    (by kernel_rfl)
#print axioms proved

end Go.Proofs.YtfikkfbnlegflaaGreatDoor.fnPathDuals
