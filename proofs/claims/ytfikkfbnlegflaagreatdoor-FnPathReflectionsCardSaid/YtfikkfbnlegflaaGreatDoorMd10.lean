/-
  FnPathReflections: reflections of paths are their own inverses, move the end as reflections do, and braid.
  No condition.
  FnPathReflections: the walk.
  The reference's ActWeight at a word of one letter; the program's ReflectPath in a small crystal.
  Lowering and raising in a small crystal, plain: ends and counts; the contracts at hand there.
  The laws' sums of lists; weights of simple roots; the least height.
  The laws' own small functions; weights of simple roots; the least height.
  The draw of a path of a small module: the walk.
  Straight paths; the draw of a path of a small module.
  Ends of the paths of the small crystals are small: checked by the kernel.
  Reflections in the small crystals: checked by the kernel.
  Reflections of the paths of a small crystal, by places of rows. No program in sight.
  The small types, their small highest weights and the crystals of these: checked by the kernel.
  The draw of a highest weight with a small module.
-/
import Derived.Test.YtfikkfbnlegflaaGreatDoorMd9
import Derived.Test.YtfikkfbnlegflaaGreatDoorTie
import Derived.Test.YtfikkfbnlegflaaGreatDoorCards
import Derived.ProofKit
import Derived.OpenShut
import Derived.ChangeOld
import Derived.ChangeVars
import Derived.JoinedOf
import Derived.LaidLaws
import Derived.LaidHandle
import Derived.SevenTiedAt
import Derived.Deep.DeepLaidRun
import Derived.Shelf.Vars
import Derived.LaidMore
import Derived.Lay
set_option linter.unusedVariables false
set_option linter.unusedSimpArgs false
namespace Go.Proofs.YtfikkfbnlegflaaGreatDoor
open Go.RowKit

def upW (W : List Int) (i : Nat) : List Int := W.set i (W.getD i 0 + 1)
def mayUp (R : Nat) (cos : List (List Int)) (N : Nat) (most : Int) (W : List Int) (i : Nat) : Bool := highB R (upW W i) && decide ((dimK R (upW W i) cos N).1 ≤ most)
def lightN (R : Nat) (cos : List (List Int)) (N : Nat) (most : Int) : Nat → List (List Int)
  | 0 => [List.replicate R 0]
  | k + 1 => lightN R cos N most k ++ (lightN R cos N most k).flatMap fun W => (List.range R).filterMap fun i => if mayUp R cos N most W i then some (upW W i) else none
def lightOk (R : Nat) (cos : List (List Int)) (N : Nat) (most : Int) : Bool := (lightN R cos N most 2).all fun W => (List.range R).all fun i => !highB R (upW W i) || dimOk R (upW W i) cos
theorem lightN_mono {R : Nat} {cos : List (List Int)} {N : Nat} {most : Int} {k : Nat} {W : List Int} (h : W ∈ lightN R cos N most k) : W ∈ lightN R cos N most (k + 1) := by
  rw [lightN]
  exact List.mem_append_left _ h
theorem lightN_up {R : Nat} {cos : List (List Int)} {N : Nat} {most : Int} {k : Nat} {W : List Int} (h : W ∈ lightN R cos N most k) {i : Nat} (hi : i < R) (hu : mayUp R cos N most W i = true) : upW W i ∈ lightN R cos N most (k + 1) := by
  rw [lightN]
  refine List.mem_append_right _ (List.mem_flatMap.2 ⟨W, h, List.mem_filterMap.2 ⟨i, List.mem_range.2 hi, by rw [if_pos hu]⟩⟩)
theorem lightN_le {R : Nat} {cos : List (List Int)} {N : Nat} {most : Int} {W : List Int} : ∀ {k m : Nat}, k ≤ m → W ∈ lightN R cos N most k → W ∈ lightN R cos N most m
  | k, 0, h, hw => by
    obtain rfl : k = 0 := by omega
    exact hw
  | k, m + 1, h, hw => by
    rcases Nat.lt_or_ge k (m + 1) with h2 | h2
    · exact lightN_mono (lightN_le (by omega) hw)
    · obtain rfl : k = m + 1 := by omega
      exact hw
theorem highB_get {R : Nat} {W : List Int} (h : highB R W = true) : W.length = R ∧ ∀ j, j < R → 0 ≤ W.getD j 0 ∧ W.getD j 0 ≤ 3 := by
  simp only [highB, Bool.and_eq_true, decide_eq_true_eq, List.all_eq_true, insB_true] at h
  refine ⟨h.1, fun j hj => ?_⟩
  rw [List.getD_eq_getElem?_getD, List.getElem?_eq_getElem (by omega)]
  exact h.2 _ (List.getElem_mem _)
theorem lightN_get {R : Nat} {cos : List (List Int)} {N : Nat} {most : Int} : ∀ {k : Nat} {W : List Int}, W ∈ lightN R cos N most k → W.length = R ∧ ∀ j, j < R → 0 ≤ W.getD j 0 ∧ W.getD j 0 ≤ 3
  | 0, W, h => by
    simp only [lightN, List.mem_singleton] at h
    subst h
    refine ⟨by simp, fun j hj => ?_⟩
    simp [List.getD_eq_getElem?_getD, hj]
  | k + 1, W, h => by
    rw [lightN] at h
    rcases List.mem_append.1 h with h | h
    · exact lightN_get h
    · obtain ⟨V, hV, h2⟩ := List.mem_flatMap.1 h
      obtain ⟨i, hi, h3⟩ := List.mem_filterMap.1 h2
      split at h3
      · rename_i hm
        cases h3
        simp only [mayUp, Bool.and_eq_true] at hm
        exact highB_get hm.1
      · cases h3
theorem upW_length (W : List Int) (i : Nat) : (upW W i).length = W.length := by simp [upW]
theorem upW_bd {R : Nat} {W : List Int} (hl : W.length = R) (h : ∀ j, j < R → 0 ≤ W.getD j 0 ∧ W.getD j 0 ≤ 3) (i : Nat) : ∀ j, j < R → 0 ≤ (upW W i).getD j 0 ∧ (upW W i).getD j 0 ≤ 4 := by
  intro j hj
  have h1 := h j hj
  by_cases e : i = j
  · subst e
    simp only [upW, List.getD_eq_getElem?_getD, List.getElem?_set_self (show i < W.length by omega), Option.getD_some]
    rw [List.getD_eq_getElem?_getD] at h1
    omega
  · simp only [upW, List.getD_eq_getElem?_getD, List.getElem?_set_ne e]
    rw [List.getD_eq_getElem?_getD] at h1
    omega
/-- what the walk wants of a matrix -/
structure TypeK (R : Nat) (ts : List Int) (FS : List (List Int)) (most : Int) : Prop where
  ty : typeB R ts = true
  fo : foundL R ts = some FS
  ro : rootsOk R ts FS = true
  li : lightOk R (cosOf R ts FS) FS.length most = true

theorem DrawSt.setNew {w w' : World} {g : Nat} {a : Option Addr} {n c : Nat} (h : DrawSt w w' g a n c) (b i : Nat) (v : Value) (hb : w.heap.size ≤ b) (hne : b ≠ g) : DrawSt w (w'.setCell ⟨b, i, none⟩ v) g a n c := by
  refine ⟨h.cur.grown (row := some b) ⟨rfl, rfl, rfl, by simp [World.setCell], fun k hk hne => Below.heap_setCell _ _ _ _ (by simpa using hne)⟩ (by simpa using Ne.symm hne), h.gb.os, h.gb.tape, h.gb.output, ?_, fun k hk hk2 => ?_⟩
  · have := h.gb.size
    simpa [World.setCell] using this
  · rw [← h.gb.block k hk hk2]
    exact Below.heap_setCell _ _ _ _ (show k ≠ b by omega)
set_option maxRecDepth 100000 in
set_option maxHeartbeats 4000000 in
theorem l12Light_any (g : Nat) (a : Option Addr) (n c : Nat) (bs : List Int) (R B0 : Nat) (ta : Option Addr) (tc : Nat) (ts : List Int) (FS : List (List Int)) (most : Int) (w : World) (hc : CurAt w g a n c) (hb : BytesAt w a n bs) (hn : n ≤ 1048576)
    (hx : OwnI w B0 ta (R * R) tc ts) (hK : TypeK R ts FS most) :
    Calls Tryz.prog 70 #[.pointer (some ⟨g, 0, none⟩), carV R ta (R * R) tc, .int .i64 most] w fun e w' => ∃ aw cw W, e = .returned (.slice aw R cw) ∧ OwnI w' w.heap.size aw R cw W ∧ W ∈ lightN R (cosOf R ts FS) FS.length most 3 ∧ DrawSt w w' g a n c := by
  have hrk := typeB_rank hK.ty
  have hR4 : R ≤ 4 := by omega
  have hR1 : 1 ≤ R := by omega
  have hx1 := Ext.alloc w (.cells #[.int .i64 R, .slice ta (R * R) tc] 31)
  have hca := CellsAt.new w (.int .i64 R) (.slice ta (R * R) tc) 31
  have HC0 := hidP hc
  have HB0 := hidP hb
  have HX0 := hidP hx
  have HTy := hidP hK
  have hglt := hc.lt
  have hsz0 : R * R ≤ 16 := Nat.mul_le_mul hR4 hR4
  have HBe := hidP (fun w' (k : Nat) (h : DrawSt w w' g a n c) (hk : k ≤ 10) => l1Below_any g (k : Int) a n c bs w' h.cur (h.bytes hb) hn (by omega))
  have HHi := hidP (fun w' av nv cv V (h : IntsAt w' av nv V) (hl : nv ≤ 100) => l8Highest_any R ta (R * R) tc av nv cv V w' h (by omega) (by omega))
  have HDi := hidP (fun w' av cv V (h : DrawSt w w' g a n c) (hv : IntsAt w' av R V) (hb : ∀ j, j < R → 0 ≤ V.getD j 0 ∧ V.getD j 0 ≤ 4) (hD : dimOk R V (cosOf R ts FS) = true) =>
    l8DimensionBy_any R ta (R * R) tc ts av cv V w' ((h.own hc hx).ints) hK.ty FS hK.fo hK.ro hv (fun j hj => by have := hb j hj; omega) hD)
  have hmk := make_ints (R : Int) (by omega) (by omega)
  simp only [Int.toNat_natCast] at hmk
  obtain ⟨m2, hm2⟩ : ∃ m2, m2 = R * R := ⟨_, rfl⟩
  rw [← hm2] at hca hx1 HHi HDi ⊢
  obtain ⟨cos, hcos⟩ : ∃ cos, cos = cosOf R ts FS := ⟨_, rfl⟩
  have hli := hK.li
  rw [← hcos] at hli HDi ⊢
  have HLi := hidP hli
  clear hc hb hx hK hrk hm2 hcos hli hsz0
  obtain ⟨w1, hw1⟩ : ∃ w1, w1 = w.alloc (.cells #[.int .i64 R, .slice ta m2 tc] 31) := ⟨_, rfl⟩
  rw [← hw1] at hca hx1
  have hs1 : w1.heap.size = w.heap.size + 1 := by rw [hw1]; simp
  have hm := OwnI.made w1 w.heap.size R (by omega) (by unfold maxLen; omega)
  have hx2 := Ext.alloc w1 (.cells (Array.replicate R (.int .i64 0)) 3)
  have HW1 := hidP hw1
  have HS1 : Hid (w.heap.size + 1 = w1.heap.size) := hs1.symm
  clear hw1 hs1
  go_enter Tryz.func70, Tryz.ntmps70
  go_wp2_with fail
  rw [← HW1.out]
  try rw [HS1.out]
  obtain ⟨w2, hw2⟩ : ∃ x, x = w1.alloc (.cells (Array.replicate R (.int .i64 0)) 3) := ⟨_, rfl⟩
  rw [← hw2] at hm hx2 ⊢
  have HD2 : Hid (DrawSt w w2 g a n c) := (DrawSt.refl HC0.out).ext (hx1.trans hx2)
  have HC2 := hidP (hca.below hx2)
  have HM := hidP hm
  have hgn : w.heap.size ≠ g := by omega
  have HGn := hidP hgn
  obtain ⟨a0, ha0⟩ : ∃ a0 : Nat, a0 = w1.heap.size := ⟨_, rfl⟩
  rw [← ha0] at HM ⊢
  clear hw2 hm hx1 hx2 hca HW1 HS1 hmk hgn ha0
  have h4 := HBe.out w2 4 HD2.out (by omega)
  refine h4.mono ?_
  rintro e w3 ⟨v, hv, rfl, hc3, hg3⟩
  have hv4 : v < 4 := by have := hv.2 (by omega); omega
  have hd3 : DrawSt w2 w3 g a n c := ⟨hc3, hg3⟩
  have HD3 := hidP (HD2.out.trans hd3)
  have HC3 := hidP (HC2.out.gb hg3 HGn.out)
  have HM3 := hidP (hd3.own HD2.out.cur HM.out)
  clear h4 hv hc3 hg3 hd3 HM HC2 HD2
  go_wp2
  go_loopw [7, 9] (fun ws kk wr => ∃ (k : Nat) (gw : Nat) (cw : Nat) (W : List Int), k ≤ v ∧ ws = .slice (some ⟨gw, 0, none⟩) R cw ∧ kk = .int .i64 k ∧ Hid (OwnI wr w.heap.size (some ⟨gw, 0, none⟩) R cw W) ∧ Hid (W ∈ lightN R cos FS.length most k) ∧ Hid (DrawSt w wr g a n c) ∧ Hid (CellsAt wr w.heap.size (.int .i64 R) (.slice ta m2 tc))) (fun _ kk _ => v - (intOf kk).toNat)
  case atStart => exact ⟨0, a0, R, List.replicate R 0, Nat.zero_le _, rfl, rfl, HM3, by show _ ∈ _; simp [lightN], HD3, HC3⟩
  case round =>
    clear HM3 HD3 HC3
    obtain ⟨k, gw, cw, W, hk, rfl, rfl, HO, HL, HD, HC⟩ := hrel
    obtain ⟨y0, y1, _, _⟩ := HC.out
    by_cases hlt : k < v
    · have HCl := hidP (l1Ints_any (some ⟨gw, 0, none⟩) R cw W wr HO.out.ints HO.out.nil_cap (by omega))
      go_wp2_with fail
      refine HCl.out.mono ?_
      rintro e w4 ⟨a4, c4, rfl, ho4, hx4⟩
      obtain ⟨g4, rfl, _⟩ := ho4.cell 0 (by omega)
      have HD4 := hidP (HD.out.ext hx4)
      have HC4 := hidP (HC.out.below hx4)
      have HW4 := hidP (HO.out.below hx4)
      have hg4 := (ho4.at_base g4 0 rfl).1
      have hgw := (HO.out.at_base gw 0 rfl).2
      have hlw : w.heap.size < wr.heap.size := World.block_lt_of_cell? wr _ HC.out.c0
      have HO4 := hidP (ho4.base (B' := w.heap.size) HD.out.gb.size)
      obtain ⟨z0, z1, _, _⟩ := HC4.out
      have hbe := HBe.out w4 R HD4.out (by omega)
      clear ho4 hx4 y0 y1 HCl
      go_wp2_with fail
      refine hbe.mono ?_
      rintro e w5 ⟨i, hi, rfl, hc5, hg5⟩
      have hiR : i < R := by have := hi.2 (by omega); omega
      have hd5 : DrawSt w4 w5 g a n c := ⟨hc5, hg5⟩
      have HD5 := hidP (HD4.out.trans hd5)
      have HC5 := hidP (HC4.out.gb hg5 HGn.out)
      have HO5 := hidP (hd5.own HD4.out.cur HO4.out)
      have HW5 := hidP (hd5.own HD4.out.cur HW4.out)
      have hget := lightN_get HL.out
      obtain ⟨g', e', _, _, q1, q2⟩ := HO5.out.cell i hiR
      simp only [Option.some.injEq, Addr.mk.injEq, and_true] at e'
      subst e'
      have hbi := hget.2 i hiR
      have hst := HO5.out.stored i (W.getD i 0 + 1)
      have HUl : Hid ((upW W i).length = R) := by show _ = _; rw [upW_length]; exact hget.1
      have HUb := hidP (upW_bd hget.1 hget.2 i)
      have HDok : Hid (highB R (upW W i) = true → dimOk R (upW W i) cos = true) := by
        show _ → _
        intro hh
        have h1 := HLi.out
        simp only [lightOk, List.all_eq_true, List.mem_range, Bool.or_eq_true, Bool.not_eq_true'] at h1
        rcases h1 W (lightN_le (by omega) HL.out) i hiR with h2 | h2
        · rw [hh] at h2; cases h2
        · exact h2
      have HUp : Hid (mayUp R cos FS.length most W i = true → upW W i ∈ lightN R cos FS.length most (k + 1)) := fun h => lightN_up HL.out hiR h
      have HMay : Hid (mayUp R cos FS.length most W i = (highB R (upW W i) && decide ((dimK R (upW W i) cos FS.length).1 ≤ most))) := rfl
      have HL' := hidP (lightN_mono HL.out)
      rw [show W.set i (W.getD i 0 + 1) = upW W i from rfl] at hst
      obtain ⟨Z, hZ⟩ : ∃ Z, Z = W.getD i 0 := ⟨_, rfl⟩
      rw [← hZ] at q1 hbi hst
      have hgB := (HO5.out.at_base g4 0 rfl)
      have hne0 : g4 ≠ w.heap.size := by omega
      have hg4g : g4 ≠ g := HD5.out.cur.apart HO5.out g4 0 rfl
      have HS6 : Hid (OwnI (w5.setCell ⟨g4, i, none⟩ (.int .i64 (Z + 1))) w.heap.size (some ⟨g4, 0, none⟩) R c4 (upW W i)) := hst
      have HD6 : Hid (DrawSt w (w5.setCell ⟨g4, i, none⟩ (.int .i64 (Z + 1))) g a n c) := HD5.out.setNew g4 i _ hgB.1 hg4g
      have HC6 := hidP (HC5.out.setFar i (.int .i64 (Z + 1)) (Ne.symm hne0))
      have HW6 : Hid (OwnI (w5.setCell ⟨g4, i, none⟩ (.int .i64 (Z + 1))) w.heap.size (some ⟨gw, 0, none⟩) R cw W) := HW5.out.setFar g4 i _ (by omega)
      obtain ⟨x0, x1, _, _⟩ := HC6.out
      obtain ⟨U, hU⟩ : ∃ U, U = upW W i := ⟨_, rfl⟩
      rw [← hU] at HUl HUb HDok HUp HMay HS6
      have hhi := HHi.out (w5.setCell ⟨g4, i, none⟩ (.int .i64 (Z + 1))) (some ⟨g4, 0, none⟩) R c4 U HS6.out.ints (by omega)
      clear hst hZ hget hi hc5 hg5 hd5 HD4 HC4 HW4 HO4 hbe hU hne0 hg4g hgB z0 z1 hg4 hgw hlw
      go_wp2_with fail
      refine hhi.mono ?_
      rintro e w7 ⟨rfl, hx7⟩
      have HD7 := hidP (HD6.out.ext hx7)
      have HC7 := hidP (HC6.out.below hx7)
      have HU7 := hidP (HS6.out.below hx7)
      have HW7 := hidP (HW6.out.below hx7)
      obtain ⟨y0, y1, _, _⟩ := HC7.out
      cases hh : highB R U
      · have HMf : Hid (mayUp R cos FS.length most W i = false) := by show _ = _; rw [HMay.out, hh]; rfl
        clear hhi hx7 x0 x1
        go_wp2
        go_roundw
        case rel => exact ⟨k + 1, gw, cw, W, by omega, rfl, by go_num, HW7, HL', HD7, HC7⟩
        case measure => simp [intOf]; omega
      · have hdi := HDi.out w7 (some ⟨g4, 0, none⟩) c4 U HD7.out HU7.out.ints HUb.out (HDok.out hh)
        obtain ⟨DV, hDV⟩ : ∃ DV, DV = (dimK R U cos FS.length).1 := ⟨_, rfl⟩
        rw [← hDV] at hdi
        have HDV := hidP hDV
        clear hhi hx7 x0 x1 hDV
        go_wp2_with fail
        refine hdi.mono ?_
        rintro e w8 ⟨rfl, hx8⟩
        have HD8 := hidP (HD7.out.ext hx8)
        have HC8 := hidP (HC7.out.below hx8)
        have HU8 := hidP (HU7.out.below hx8)
        have HW8 := hidP (HW7.out.below hx8)
        by_cases hle : DV ≤ most
        · have HL8 := hidP (HUp.out (by rw [HMay.out, hh, ← HDV.out]; simpa using hle))
          clear hdi hx8
          go_wp2
          go_roundw
          case rel => exact ⟨k + 1, g4, c4, U, by omega, rfl, by go_num, HU8, HL8, HD8, HC8⟩
          case measure => simp [intOf]; omega
        · clear hdi hx8
          go_wp2
          go_roundw
          case rel => exact ⟨k + 1, gw, cw, W, by omega, rfl, by go_num, HW8, HL', HD8, HC8⟩
          case measure => simp [intOf]; omega
    · obtain rfl : v = k := by omega
      have HL3 := hidP (lightN_le (show v ≤ 3 by omega) HL.out)
      go_wp2
      go_ret
      exact ⟨_, _, _, rfl, HO.out, HL3.out, HD.out⟩
end Go.Proofs.YtfikkfbnlegflaaGreatDoor

namespace Go.Proofs.YtfikkfbnlegflaaGreatDoor
open Go.RowKit

def smallF (t : Nat) : List (List Int) := (foundL (smallR t) (smallM t)).getD []
def smallL (t : Nat) : List (List Int) := lightN (smallR t) (cosOf (smallR t) (smallM t) (smallF t)) (smallF t).length 60 3
def smallOk (t : Nat) : Bool := typeB (smallR t) (smallM t) && (foundL (smallR t) (smallM t)).isSome && rootsOk (smallR t) (smallM t) (smallF t) && lightOk (smallR t) (cosOf (smallR t) (smallM t) (smallF t)) (smallF t).length 60
def crysAll (t : Nat) : Bool := (smallL t).eraseDups.all (crysOk (smallR t) (smallM t))
theorem smallOk_all : ∀ t, t < 10 → smallOk t = true := by decide +kernel
theorem crys_0 : crysAll 0 = true := by decide +kernel
theorem crys_1 : crysAll 1 = true := by decide +kernel
theorem crys_2 : crysAll 2 = true := by decide +kernel
theorem crys_3 : crysAll 3 = true := by decide +kernel
theorem crys_4 : crysAll 4 = true := by decide +kernel
theorem crys_5 : crysAll 5 = true := by decide +kernel
theorem crys_6 : crysAll 6 = true := by decide +kernel
theorem crys_7 : crysAll 7 = true := by decide +kernel
theorem crys_8 : crysAll 8 = true := by decide +kernel
theorem crys_9 : crysAll 9 = true := by decide +kernel
theorem crysAll_all (t : Nat) (ht : t < 10) : crysAll t = true := by
  rcases (by omega : t = 0 ∨ t = 1 ∨ t = 2 ∨ t = 3 ∨ t = 4 ∨ t = 5 ∨ t = 6 ∨ t = 7 ∨ t = 8 ∨ t = 9) with rfl | rfl | rfl | rfl | rfl | rfl | rfl | rfl | rfl | rfl
  · exact crys_0
  · exact crys_1
  · exact crys_2
  · exact crys_3
  · exact crys_4
  · exact crys_5
  · exact crys_6
  · exact crys_7
  · exact crys_8
  · exact crys_9
theorem small_type (t : Nat) (ht : t < 10) : TypeK (smallR t) (smallM t) (smallF t) 60 := by
  have h := smallOk_all t ht
  simp only [smallOk, Bool.and_eq_true] at h
  refine ⟨h.1.1.1, ?_, h.1.2, h.2⟩
  unfold smallF
  cases hf : foundL (smallR t) (smallM t) with
  | none => have := h.1.1.2; rw [hf] at this; cases this
  | some x => rfl
theorem small_crys (t : Nat) (ht : t < 10) (W : List Int) (h : W ∈ smallL t) : crysOk (smallR t) (smallM t) W = true := by
  have h1 := crysAll_all t ht
  simp only [crysAll, List.all_eq_true] at h1
  exact h1 W (by simpa using h)
end Go.Proofs.YtfikkfbnlegflaaGreatDoor

namespace Go.Proofs.YtfikkfbnlegflaaGreatDoor
open Go.RowKit

def pathAt (A : List PRow) (k : Nat) : List Stp := (A.getD k ([], [])).1
def lowIx (A : List PRow) (i k : Nat) : Option Nat := match (A.getD k ([], [])).2.getD i none with
  | none => none
  | some q => some (A.findIdx (isRow q))
def raiIx (A : List PRow) (i k : Nat) : Option Nat := if A.findIdx (toRow i (pathAt A k)) < A.length then some (A.findIdx (toRow i (pathAt A k))) else none
def refIx (r : Nat) (A : List PRow) (i k : Nat) : Option Nat :=
  if 0 < (endR r (pathAt A k)).2.getD i 0 then moveN (lowIx A i) ((endR r (pathAt A k)).2.getD i 0).toNat k else moveN (raiIx A i) (-((endR r (pathAt A k)).2.getD i 0)).toNat k
/-- the table: what each row is reflected to; no row: the number of rows -/
def refTab (r : Nat) (A : List PRow) : List (List Nat) := (List.range r).map fun i => (List.range A.length).map fun k => (refIx r A i k).getD A.length
def refAt (T : List (List Nat)) (i k : Nat) : Nat := (T.getD i []).getD k 1000
def altTo (T : List (List Nat)) (i j : Nat) : Nat → Nat → Nat
  | 0, k => k
  | s + 1, k => refAt T (if s % 2 = 0 then i else j) (altTo T i j s k)
def braidN (r : Nat) (ts : List Int) (i j : Nat) : Nat := [2, 3, 4, 6].getD (ts.getD (i * r + j) 0 * ts.getD (j * r + i) 0).toNat 0
def refChk (r : Nat) (ts : List Int) (A : List PRow) (T : List (List Nat)) (k : Nat) : Bool :=
  !(pathAt A k).isEmpty && (List.range r).all fun i => decide (refAt T i k < A.length) && refAt T i (refAt T i k) == k && refl r ts i (endR r (pathAt A k)).2 == (endR r (pathAt A (refAt T i k))).2 &&
    (List.range r).all fun j => i == j || (decide (0 ≤ ts.getD (i * r + j) 0 * ts.getD (j * r + i) 0 ∧ ts.getD (i * r + j) 0 * ts.getD (j * r + i) 0 ≤ 3) && altTo T i j (braidN r ts i j) k == altTo T j i (braidN r ts i j) k)
def refOk (r : Nat) (ts w : List Int) : Bool := (List.range (crys r ts w).length).all (refChk r ts (crys r ts w) (refTab r (crys r ts w)))

theorem InCrys.at_path {r : Nat} {ts w : List Int} {k : Nat} {p : List Stp} (h : InCrys r ts w k p) : k < (crys r ts w).length ∧ pathAt (crys r ts w) k = p := by
  obtain ⟨l, hl⟩ := h.at_
  have hk : k < (crys r ts w).length := by
    rcases Nat.lt_or_ge k (crys r ts w).length with h | h
    · exact h
    · rw [List.getElem?_eq_none h] at hl; cases hl
  exact ⟨hk, by rw [pathAt, List.getD_eq_getElem?_getD, hl]; rfl⟩
theorem InCrys.of_lt {r : Nat} {ts w : List Int} {k : Nat} (h : k < (crys r ts w).length) : InCrys r ts w k (pathAt (crys r ts w) k) := by
  refine ⟨⟨((crys r ts w)[k]).2, ?_⟩⟩
  rw [pathAt, List.getD_eq_getElem?_getD, List.getElem?_eq_getElem h]
  rfl
theorem InCrys.uniq {r : Nat} {ts w : List Int} {k : Nat} {p q : List Stp} (h : InCrys r ts w k p) (h' : InCrys r ts w k q) : p = q := by
  rw [← h.at_path.2, ← h'.at_path.2]
theorem lowIx_eq {r : Nat} {ts w : List Int} {k : Nat} {p : List Stp} (h : InCrys r ts w k p) {i : Nat} (hi : i < r) : lowIx (crys r ts w) i k = (lowF r ts i p).map fun q => (crys r ts w).findIdx (isRow q) := by
  obtain ⟨l, hl⟩ := h.at_
  have e := crysGo_lows r ts 61 [] [straight w] (by simp) (p, l) (List.mem_of_getElem? hl)
  have e2 : ((crys r ts w).getD k ([], [])).2 = (List.range r).map fun i => lowF r ts i p := by
    rw [List.getD_eq_getElem?_getD, hl]
    exact e
  unfold lowIx
  rw [e2, lows_at hi]
  cases lowF r ts i p <;> rfl
theorem find_row {r : Nat} {ts w : List Int} {k : Nat} {q : List Stp} (h : InCrys r ts w k q) : InCrys r ts w ((crys r ts w).findIdx (isRow q)) q := by
  have hk := h.at_path
  have hex : ∃ x ∈ crys r ts w, isRow q x = true := by
    obtain ⟨l, hl⟩ := h.at_
    exact ⟨(q, l), List.mem_of_getElem? hl, by simp [isRow]⟩
  have hlt := List.findIdx_lt_length_of_exists hex
  have hat := List.findIdx_getElem (w := hlt)
  have h2 := InCrys.of_lt (k := (crys r ts w).findIdx (isRow q)) hlt
  have h3 : pathAt (crys r ts w) ((crys r ts w).findIdx (isRow q)) = q := by
    rw [pathAt, List.getD_eq_getElem?_getD, List.getElem?_eq_getElem hlt]
    simpa [isRow] using hat
  rw [h3] at h2
  exact h2
theorem low_step {r : Nat} {ts w : List Int} (hc : crysOk r ts w = true) {k : Nat} {p : List Stp} (h : InCrys r ts w k p) {i : Nat} (hi : i < r) :
    (lowF r ts i p = none ∧ lowIx (crys r ts w) i k = none) ∨ ∃ k' q, lowF r ts i p = some q ∧ lowIx (crys r ts w) i k = some k' ∧ InCrys r ts w k' q := by
  rw [lowIx_eq h hi]
  rcases h.low hc hi with ⟨h1, _⟩ | ⟨k', q, h1, _, h3, _⟩
  · exact .inl ⟨h1, by rw [h1]; rfl⟩
  · exact .inr ⟨_, q, h1, by rw [h1]; rfl, find_row h3⟩
theorem rai_step {r : Nat} {ts w : List Int} (hc : crysOk r ts w = true) {k : Nat} {p : List Stp} (h : InCrys r ts w k p) {i : Nat} (hi : i < r) :
    (raiF2 r ts i p = none ∧ raiIx (crys r ts w) i k = none) ∨ ∃ k' q, raiF2 r ts i p = some q ∧ raiIx (crys r ts w) i k = some k' ∧ InCrys r ts w k' q := by
  have hp := h.at_path.2
  have key : ∀ k', k' < (crys r ts w).length → toRow i p ((crys r ts w).getD k' ([], [])) = true → lowF r ts i (pathAt (crys r ts w) k') = some p := by
    intro k' hk' ht
    have h2 := InCrys.of_lt hk'
    obtain ⟨l, hl⟩ := h2.at_
    have e := crysGo_lows r ts 61 [] [straight w] (by simp) _ (List.mem_of_getElem? hl)
    rw [List.getD_eq_getElem?_getD, hl, Option.getD_some] at ht
    have e2 : l = (List.range r).map fun i => lowF r ts i (pathAt (crys r ts w) k') := e
    rw [e2] at ht
    exact (toRow_iff hi).1 ht
  unfold raiIx
  rw [hp]
  rcases h.rai hc hi with ⟨h1, _⟩ | ⟨k1, q, h1, _, h3, h4⟩
  · refine .inl ⟨h1, ?_⟩
    rw [if_neg]
    intro hlt
    have hat := List.findIdx_getElem (w := hlt)
    have h5 := key _ hlt (by rw [List.getD_eq_getElem?_getD, List.getElem?_eq_getElem hlt]; exact hat)
    rcases (InCrys.of_lt hlt).low hc hi with ⟨h6, _⟩ | ⟨_, q2, h6, _, _, h7, _⟩
    · rw [h6] at h5; cases h5
    · rw [h6] at h5
      cases h5
      rw [h1] at h7; cases h7
  · right
    have hex : ∃ x ∈ crys r ts w, toRow i p x = true := by
      obtain ⟨l, hl⟩ := h3.at_
      have e := crysGo_lows r ts 61 [] [straight w] (by simp) _ (List.mem_of_getElem? hl)
      refine ⟨(q, l), List.mem_of_getElem? hl, ?_⟩
      have e2 : l = (List.range r).map fun i => lowF r ts i q := e
      rw [e2]
      exact (toRow_iff hi).2 h4
    have hlt := List.findIdx_lt_length_of_exists hex
    have hat := List.findIdx_getElem (w := hlt)
    have h5 := key _ hlt (by rw [List.getD_eq_getElem?_getD, List.getElem?_eq_getElem hlt]; exact hat)
    refine ⟨_, q, h1, if_pos hlt, ?_⟩
    have h6 := InCrys.of_lt hlt
    rcases h6.low hc hi with ⟨h7, _⟩ | ⟨_, q2, h7, _, _, h8, _⟩
    · rw [h7] at h5; cases h5
    · rw [h7] at h5
      cases h5
      rw [h1] at h8
      rw [Option.some.inj h8]
      exact h6
theorem move_step {r : Nat} {ts w : List Int} {F : List Stp → Option (List Stp)} {G : Nat → Option Nat}
    (hs : ∀ k p, InCrys r ts w k p → (F p = none ∧ G k = none) ∨ ∃ k' q, F p = some q ∧ G k = some k' ∧ InCrys r ts w k' q) : ∀ (n k : Nat) (p : List Stp), InCrys r ts w k p →
    (moveN F n p = none ∧ moveN G n k = none) ∨ ∃ k' q, moveN F n p = some q ∧ moveN G n k = some k' ∧ InCrys r ts w k' q
  | 0, k, p, h => .inr ⟨k, p, rfl, rfl, h⟩
  | n + 1, k, p, h => by
    unfold moveN
    rcases hs k p h with ⟨h1, h2⟩ | ⟨k', q, h1, h2, h3⟩
    · rw [h1, h2]; exact .inl ⟨rfl, rfl⟩
    · rw [h1, h2]
      exact move_step hs n k' q h3
/-- a reflection, by the table -/
structure RefP (r : Nat) (ts w : List Int) (i k : Nat) (p : List Stp) (k' : Nat) (q : List Stp) : Prop where
  ref : reflP r ts i p = (true, q)
  crys : InCrys r ts w k' q
theorem refChk_at {r : Nat} {ts w : List Int} (hr : refOk r ts w = true) {k : Nat} (hk : k < (crys r ts w).length) : refChk r ts (crys r ts w) (refTab r (crys r ts w)) k = true := by
  simp only [refOk, List.all_eq_true, List.mem_range] at hr
  exact hr k hk
theorem refAt_tab {r : Nat} {A : List PRow} {i k : Nat} (hi : i < r) (hk : k < A.length) : refAt (refTab r A) i k = (refIx r A i k).getD A.length := by
  simp [refAt, refTab, List.getD_eq_getElem?_getD, hi, hk]
theorem InCrys.reflect {r : Nat} {ts w : List Int} (hc : crysOk r ts w = true) (hr : refOk r ts w = true) {k : Nat} {p : List Stp} (h : InCrys r ts w k p) {i : Nat} (hi : i < r) :
    ∃ q, RefP r ts w i k p (refAt (refTab r (crys r ts w)) i k) q := by
  have hk := h.at_path
  have h1 := refChk_at hr hk.1
  simp only [refChk, Bool.and_eq_true, List.all_eq_true, List.mem_range, decide_eq_true_eq] at h1
  have h2 := ((h1.2 i hi).1.1.1)
  rw [refAt_tab hi hk.1] at h2 ⊢
  have hx : (reflX r ts i ((endR r p).2.getD i 0) p = none ∧ refIx r (crys r ts w) i k = none) ∨ ∃ k' q, reflX r ts i ((endR r p).2.getD i 0) p = some q ∧ refIx r (crys r ts w) i k = some k' ∧ InCrys r ts w k' q := by
    unfold reflX refIx
    rw [hk.2]
    split
    · exact move_step (fun k p h => low_step hc h hi) _ k p h
    · exact move_step (fun k p h => rai_step hc h hi) _ k p h
  rcases hx with ⟨_, h4⟩ | ⟨k', q, h3, h4, h5⟩
  · rw [h4] at h2
    simp at h2
  · rw [h4]
    refine ⟨q, ⟨?_, h5⟩⟩
    unfold reflP
    rw [if_pos (h.path hc).2, h3]
    rfl
end Go.Proofs.YtfikkfbnlegflaaGreatDoor

namespace Go.Proofs.YtfikkfbnlegflaaGreatDoor
open Go.RowKit

def refAll (t : Nat) : Bool := (smallL t).eraseDups.all (refOk (smallR t) (smallM t))
theorem ref_0 : refAll 0 = true := by decide +kernel
theorem ref_1 : refAll 1 = true := by decide +kernel
theorem ref_2 : refAll 2 = true := by decide +kernel
theorem ref_3 : refAll 3 = true := by decide +kernel
theorem ref_4 : refAll 4 = true := by decide +kernel
theorem ref_5 : refAll 5 = true := by decide +kernel
theorem ref_6 : refAll 6 = true := by decide +kernel
theorem ref_7 : refAll 7 = true := by decide +kernel
theorem ref_8 : refAll 8 = true := by decide +kernel
theorem ref_9 : refAll 9 = true := by decide +kernel
theorem refAll_all (t : Nat) (ht : t < 10) : refAll t = true := by
  rcases (by omega : t = 0 ∨ t = 1 ∨ t = 2 ∨ t = 3 ∨ t = 4 ∨ t = 5 ∨ t = 6 ∨ t = 7 ∨ t = 8 ∨ t = 9) with rfl | rfl | rfl | rfl | rfl | rfl | rfl | rfl | rfl | rfl
  · exact ref_0
  · exact ref_1
  · exact ref_2
  · exact ref_3
  · exact ref_4
  · exact ref_5
  · exact ref_6
  · exact ref_7
  · exact ref_8
  · exact ref_9
theorem small_ref (t : Nat) (ht : t < 10) (W : List Int) (h : W ∈ smallL t) : refOk (smallR t) (smallM t) W = true := by
  have h1 := refAll_all t ht
  simp only [refAll, List.all_eq_true] at h1
  exact h1 W (by simpa using h)
end Go.Proofs.YtfikkfbnlegflaaGreatDoor

namespace Go.Proofs.YtfikkfbnlegflaaGreatDoor
open Go.RowKit

def endAll (t : Nat) : Bool := (smallL t).eraseDups.all fun w => (crys (smallR t) (smallM t) w).all fun a => wayB (smallR t) (endR (smallR t) a.1).2
theorem end_0 : endAll 0 = true := by decide +kernel
theorem end_1 : endAll 1 = true := by decide +kernel
theorem end_2 : endAll 2 = true := by decide +kernel
theorem end_3 : endAll 3 = true := by decide +kernel
theorem end_4 : endAll 4 = true := by decide +kernel
theorem end_5 : endAll 5 = true := by decide +kernel
theorem end_6 : endAll 6 = true := by decide +kernel
theorem end_7 : endAll 7 = true := by decide +kernel
theorem end_8 : endAll 8 = true := by decide +kernel
theorem end_9 : endAll 9 = true := by decide +kernel
theorem endAll_all (t : Nat) (ht : t < 10) : endAll t = true := by
  rcases (by omega : t = 0 ∨ t = 1 ∨ t = 2 ∨ t = 3 ∨ t = 4 ∨ t = 5 ∨ t = 6 ∨ t = 7 ∨ t = 8 ∨ t = 9) with rfl | rfl | rfl | rfl | rfl | rfl | rfl | rfl | rfl | rfl
  · exact end_0
  · exact end_1
  · exact end_2
  · exact end_3
  · exact end_4
  · exact end_5
  · exact end_6
  · exact end_7
  · exact end_8
  · exact end_9
theorem small_end {t : Nat} (ht : t < 10) {W : List Int} (h : W ∈ smallL t) {k : Nat} {p : List Stp} (hk : InCrys (smallR t) (smallM t) W k p) : wayB (smallR t) (endR (smallR t) p).2 = true := by
  have h1 := endAll_all t ht
  simp only [endAll, List.all_eq_true] at h1
  obtain ⟨l, hl⟩ := hk.at_
  exact h1 W (by simpa using h) (p, l) (List.mem_of_getElem? hl)
end Go.Proofs.YtfikkfbnlegflaaGreatDoor

namespace Go.Proofs.YtfikkfbnlegflaaGreatDoor
open Go.RowKit

theorem OwnK.single {α : Type} (K : Knd α) (w : World) (B : Nat) (h1 : Hdr) (x1 : α) (hi : OwnI w B h1.1 (K.ints x1).length h1.2 (K.ints x1)) (hB : B ≤ w.heap.size) :
    OwnK K (w.alloc (.cells (K.cells h1.1 h1.2 x1).toArray K.E)) B (w.alloc (.cells (K.cells h1.1 h1.2 x1).toArray K.E)).heap.size (some ⟨w.heap.size, 0, none⟩) 1 1 [h1] [x1] := by
  have hrow := World.ownsRow_lit (e := K.E) (size := K.size) (base := B) w (K.cells h1.1 h1.2 x1).toArray 1 hB (by unfold maxLen; omega) (by simp [K.len])
  refine ⟨by simpa [Knd.all] using hrow, rfl, rfl, fun i h => ?_, fun i j h1 h2 h3 => by omega, fun i h b o e => ?_, fun b o e => ?_⟩
  · obtain rfl : i = 0 := by omega
    exact hi.below (Ext.alloc w _)
  · obtain rfl : i = 0 := by omega
    have := (hi.at_base b o e).2
    simp
    omega
  · simp only [Option.some.injEq, Addr.mk.injEq, and_true] at e
    simp [← e.1]
set_option maxHeartbeats 2000000 in
theorem sStraight_any (R : Nat) (ta : Option Addr) (tn tc : Nat) (ts : List Int) (aw : Option Addr) (cw : Nat) (W : List Int) (w : World) (hc : IntsAt w ta tn ts) (hcn : tn ≤ 9223372036854775807) (hT : typeB R ts = true) (hw : IntsAt w aw R W) (hnil : aw = none → cw = 0) (hb : wayB R W = true) :
    Calls Tryz.prog 71 #[carV R ta tn tc, .slice aw R cw] w fun e w' => ∃ a hs, e = .returned (.slice a 1 1) ∧ OwnK stepK w' w.heap.size w'.heap.size a 1 1 hs (straight W) ∧ Ext w w' := by
  have hx1 := Ext.alloc w (.cells #[.int .i64 R, .slice ta tn tc] 31)
  have HC := hidP (fun w' (hx : Ext (w.alloc (.cells #[.int .i64 R, .slice ta tn tc] 31)) w') => (CarAt.new w _ rfl (R : Int) ta tn tc 31).below hx)
  have HX1 := hidP hx1
  have hrk := typeB_rank hT
  have hR4 : R ≤ 4 := by omega
  have HIs := hidP (fun w' (h : Ext w w') => sIsCartan_any (R : Int) ta tn tc ts w' (hc.below h) hcn)
  have HLa := hidP (fun w' (h : Ext w w') => l5Lattice_any R ta tn tc aw R cw W w' (hw.below h) (by omega) (by omega))
  have HCl := hidP (fun w' (h : Ext w w') => l1Ints_any aw R cw W w' (hw.below h) hnil (by omega))
  rw [hT] at HIs
  rw [hb] at HLa
  have HWl := hidP hw.len
  clear hc hT hw hb hx1 hrk hnil
  obtain ⟨w1, hw1⟩ : ∃ w1, w1 = w.alloc (.cells #[.int .i64 R, .slice ta tn tc] 31) := ⟨_, rfl⟩
  rw [← hw1] at HC HX1
  obtain ⟨y0, y1⟩ := HC.out w1 (Ext.refl _)
  go_enter Tryz.func71, Tryz.ntmps71
  go_wp2_with fail
  rw [← hw1]
  clear hw1
  refine (HIs.out _ HX1.out).mono ?_
  rintro e w2 ⟨rfl, hx2⟩
  obtain ⟨z0, z1⟩ := HC.out w2 hx2
  clear y0 y1
  go_wp2_with fail
  refine (HLa.out _ (HX1.out.trans hx2)).mono ?_
  rintro e w3 ⟨rfl, hx3⟩
  have HX3 := hidP (HX1.out.trans (hx2.trans hx3))
  clear hx2 hx3 z0 z1
  go_wp2_with fail
  refine (HCl.out _ HX3.out).mono ?_
  rintro e w4 ⟨a4, c4, rfl, ho4, hx4⟩
  have hk := OwnK.single stepK w4 w.heap.size (a4, c4) (W, 27720) (by show OwnI _ _ _ W.length _ _; rw [HWl.out]; exact ho4.base HX3.out.size) (HX3.out.trans hx4).size
  have he : (stepK.cells a4 c4 (W, 27720)).toArray = #[.slice a4 R c4, .int .i64 27720] := by show #[Value.slice a4 W.length c4, _] = _; rw [HWl.out]
  rw [he] at hk
  have HK := hidP hk
  have HX4 := hidP ((HX3.out.trans hx4).trans (Ext.alloc w4 (.cells #[.slice a4 R c4, .int .i64 27720] 69)))
  clear hk he ho4 hx4
  go_wp2
  go_ret
  exact ⟨_, _, rfl, HK.out, HX4.out⟩
end Go.Proofs.YtfikkfbnlegflaaGreatDoor

namespace Go.Proofs.YtfikkfbnlegflaaGreatDoor
open Go.RowKit

theorem DrawSt.ownK {w w' : World} {g B U : Nat} {a a' : Option Addr} {n c n' c' : Nat} {hs : List Hdr} {xs : List Stp} (h : DrawSt w w' g a n c) (h0 : CurAt w g a n c) (k : OwnK stepK w B U a' n' c' hs xs) : OwnK stepK w' B U a' n' c' hs xs := by
  refine k.kept h.gb (fun b o e e2 => ?_) (fun i hi b o e e2 => ?_)
  · rcases k.form with ⟨e3, _⟩ | ⟨gb, cur, e3, _, _, hh, _⟩
    · rw [e3] at e; cases e
    · rw [e3] at e
      simp only [Option.some.injEq, Addr.mk.injEq, and_true] at e e2
      obtain ⟨cur', fr, hc'⟩ := h0.blk
      rw [← e2, ← e.1, hh] at hc'
      simp only [Option.some.injEq, Obj.cells.injEq] at hc'
      exact absurd hc'.2.1 (by decide)
  · have := h0.apart (k.each i hi) b o e
    simp only [Option.some.injEq] at e2
    exact this e2
theorem light_way {t : Nat} (ht : t < 10) {W : List Int} (h : W ∈ smallL t) : W.length = smallR t ∧ wayB (smallR t) W = true := by
  have h1 := lightN_get h
  refine ⟨h1.1, ?_⟩
  unfold wayB
  rw [Bool.and_eq_true, decide_eq_true_eq, List.all_eq_true]
  refine ⟨h1.1, fun x hx => ?_⟩
  obtain ⟨j, hj, rfl⟩ := List.mem_iff_getElem.1 hx
  have := h1.2 j (by omega)
  rw [List.getD_eq_getElem?_getD, List.getElem?_eq_getElem hj] at this
  simp only [Option.getD_some] at this
  simp only [decide_eq_true_eq]
  omega
/-- what the draw gives -/
structure Drew (w' : World) (B : Nat) (t i j : Nat) (ta : Option Addr) (tc : Nat) (aw : Option Addr) (cw : Nat) (W : List Int) (pa : Option Addr) (pn pc : Nat) (hs : List Hdr) (p : List Stp) (k : Nat) : Prop where
  ht : t < 10
  hi : i < smallR t
  hj : j < smallR t
  car : OwnI w' B ta (smallR t * smallR t) tc (smallM t)
  wgt : OwnI w' B aw (smallR t) cw W
  path : OwnK stepK w' B w'.heap.size pa pn pc hs p
  light : W ∈ smallL t
  crys : InCrys (smallR t) (smallM t) W k p

set_option maxRecDepth 100000 in
set_option maxHeartbeats 4000000 in
theorem drawPath_any (a : Option Addr) (n c : Nat) (bs : List Int) (w : World) (hb : BytesAt w a n bs) (hn : n ≤ 1048576) :
    Calls Tryz.prog 29 #[.slice a n c] w fun e w' => ∃ (t i j : Nat) (ta : Option Addr) (tc : Nat) (aw : Option Addr) (cw : Nat) (W : List Int) (pa : Option Addr) (pn pc : Nat) (hs : List Hdr) (p : List Stp) (k : Nat),
      e = .returned (.tuple #[carV (smallR t) ta (smallR t * smallR t) tc, .int .i64 i, .int .i64 j, .slice aw (smallR t) cw, .slice pa pn pc]) ∧ Drew w' w.heap.size t i j ta tc aw cw W pa pn pc hs p k ∧ Ext w w' := by
  have HB := hidP hb
  have HNew := hidP (fun w' (hx : Ext w w') => l1New_any a n c bs w' (hb.below hx) hn)
  have hx0 := Ext.alloc w (.cells #[.int .i64 0, .slice none 0 0] 31)
  have h0 := CellsAt.new w (.int .i64 0) (.slice none 0 0) 31
  obtain ⟨w1, hw1⟩ : ∃ w1, w1 = w.alloc (.cells #[.int .i64 0, .slice none 0 0] 31) := ⟨_, rfl⟩
  rw [← hw1] at hx0 h0
  have HX1 := hidP hx0
  have H0 := hidP h0
  clear hb hx0 h0
  go_enter Tryz.func29, Tryz.ntmps29
  go_wp2_with fail
  rw [← hw1]
  clear hw1
  refine (HNew.out _ HX1.out).mono ?_
  rintro e w2 ⟨g, rfl, hc2, hg2, hx2⟩
  have HD2 := hidP (DrawSt.refl hc2)
  have HB2 := hidP (HB.out.below (HX1.out.trans hx2))
  have HX2 := hidP (HX1.out.trans hx2)
  have HR0 := hidP (H0.out.below hx2)
  have HS2 : Hid (w.heap.size + 1 ≤ w2.heap.size) := by
    have h1 : w.heap.size < w1.heap.size := World.block_lt_of_cell? w1 _ H0.out.c0
    have h2 := hx2.size
    show _ ≤ _
    omega
  have HG : Hid (w.heap.size ≠ g ∧ w.heap.size ≤ g) := by
    have h1 := World.block_lt_of_cell? w1 _ H0.out.c0
    exact ⟨by have : w.heap.size < w1.heap.size := h1; omega, by have : w.heap.size < w1.heap.size := h1; omega⟩
  have HSmall := hidP (l12Small_any g a n c bs w2 hc2 HB2.out hn)
  clear hc2 hg2 hx2 HNew
  go_wp2_with fail
  refine HSmall.out.mono ?_
  rintro e w3 ⟨t, ht, rfl, hd3⟩
  have HD3 := hidP hd3
  have HCa := hidP (sCartanOf_any (smallS.getD t ByteArray.empty) (smallK t) (small_name t ht) w3)
  clear hd3 HSmall
  go_wp2_with fail
  refine HCa.out.mono ?_
  rintro e w4 ⟨ta, tc, rfl, ho4, hx4⟩
  have HD4 := hidP (HD3.out.ext hx4)
  have hty := small_type t ht
  have HTy := hidP hty
  have hrk := typeB_rank hty.ty
  have HCr := hidP (fun W h => small_crys t ht W h)
  have HWy := hidP (fun W (h : W ∈ smallL t) => light_way ht h)
  have HLd : Hid (smallL t = lightN (smallR t) (cosOf (smallR t) (smallM t) (smallF t)) (smallF t).length 60 3) := rfl
  obtain ⟨R, hR⟩ : ∃ R, R = smallR t := ⟨_, rfl⟩
  obtain ⟨ts, hts⟩ : ∃ ts, ts = smallM t := ⟨_, rfl⟩
  have ho4' : OwnI w4 w3.heap.size ta (R * R) tc ts := by rw [hR, hts]; exact ho4
  rw [show ksR (smallK t) (smallK t).length = R from hR.symm]
  rw [← hR, ← hts] at HTy HCr HLd
  rw [← hR] at hrk HWy
  have HO4 := hidP ho4'
  have HR := hidP hR
  have HTs := hidP hts
  have hR4 : R ≤ 4 := by omega
  have hR1 : 1 ≤ R := by omega
  have hRR : R * R ≤ 16 := Nat.mul_le_mul hR4 hR4
  obtain ⟨m2, hm2⟩ : ∃ m2, m2 = R * R := ⟨_, rfl⟩
  have HM2 := hidP hm2
  rw [← hm2] at HO4 ⊢
  clear ho4 ho4' hx4 hty hrk hR hts hm2 hRR HCa
  have hc5 := CellsAt.new w4 (.int .i64 R) (.slice ta m2 tc) 31
  have hx5 := Ext.alloc w4 (.cells #[.int .i64 R, .slice ta m2 tc] 31)
  obtain ⟨w5, hw5⟩ : ∃ w5, w5 = w4.alloc (.cells #[.int .i64 R, .slice ta m2 tc] 31) := ⟨_, rfl⟩
  rw [← hw5] at hc5 hx5
  obtain ⟨bC, hbC⟩ : ∃ b, b = w4.heap.size := ⟨_, rfl⟩
  rw [← hbC] at hc5
  have HW5 : Hid (w4.alloc (.cells #[.int .i64 R, .slice ta m2 tc] 31) = w5) := hw5.symm
  have HBC : Hid (w4.heap.size = bC) := hbC.symm
  have HC5 := hidP hc5
  have HD5 := hidP ((HD2.out.trans HD4.out).ext hx5)
  have HO5 := hidP (HO4.out.below hx5)
  have HGC : Hid (bC ≠ g) := by
    have h1 := HD4.out.cur.lt
    show _ ≠ _
    omega
  have hbw : w2.heap.size ≤ w4.heap.size := HD4.out.gb.size
  have hbs := HX2.out.size
  have HBW : Hid (w.heap.size + 1 ≤ bC) := by have := HS2.out; show _ ≤ _; omega
  have HO5b := hidP (HO5.out.base (B' := w.heap.size + 1) (by have := HD3.out.gb.size; have := HS2.out; omega))
  have hl12 := l12Light_any g a n c bs R (w.heap.size + 1) ta tc ts (smallF t) 60 w5 HD5.out.cur (HD5.out.bytes HB2.out) hn (by rw [← HM2.out]; exact HO5b.out) HTy.out
  rw [← HM2.out, ← HLd.out] at hl12
  have HL12 := hidP hl12
  clear hc5 hx5 hw5 hbC hbw hbs hl12
  go_wp2_with (fail)
  rw [HW5.out]
  try rw [HBC.out]
  refine HL12.out.mono ?_
  rintro e w6 ⟨aw, cw, W, rfl, hoW, hW, hd6⟩
  have HD6 := hidP (HD5.out.trans hd6)
  have HC6 := hidP (HC5.out.gb hd6.gb HGC.out)
  have HO6 := hidP (hd6.own HD5.out.cur HO5b.out)
  have HW6 := hidP (hoW.base (B' := w.heap.size + 1) (Nat.le_trans HS2.out HD5.out.gb.size))
  have HWl := hidP hW
  have HSt := hidP (sStraight_any R ta m2 tc ts aw cw W w6 HO6.out.ints (by rw [HM2.out]; have := Nat.mul_le_mul hR4 hR4; omega) HTy.out.ty HW6.out.ints HW6.out.nil_cap (HWy.out W hW).2)
  obtain ⟨z0, z1, _, _⟩ := HC6.out
  clear hoW hW hd6 HL12 HW5 HBC HD4 HO4 HO5 HO5b HC5
  go_wp2_with fail
  refine HSt.out.mono ?_
  rintro e w7 ⟨aP, hsP, rfl, hoP, hx7⟩
  have HD7 := hidP (HD6.out.ext hx7)
  have HC7 := hidP (HC6.out.below hx7)
  have HO7 := hidP (HO6.out.below hx7)
  have HW7 := hidP (HW6.out.below hx7)
  have HP7 := hidP (hoP.weaken (B' := w.heap.size + 1) (U' := w7.heap.size) (Nat.le_trans HS2.out HD6.out.gb.size) (Nat.le_refl _))
  have hbe := l1Below_any g 12 a n c bs w7 HD7.out.cur (HD7.out.bytes HB2.out) hn (by omega)
  clear hoP hx7 z0 z1 HSt
  go_wp2_with fail
  refine hbe.mono ?_
  rintro e w8 ⟨v, hv, rfl, hc8, hg8⟩
  have hv12 : v < 12 := by have := hv.2 (by omega); omega
  have hd8 : DrawSt w7 w8 g a n c := ⟨hc8, hg8⟩
  have HD8 := hidP (HD7.out.trans hd8)
  have HC8 := hidP (HC7.out.gb hg8 HGC.out)
  have HO8 := hidP (hd8.own HD7.out.cur HO7.out)
  have HW8 := hidP (hd8.own HD7.out.cur HW7.out)
  have HP8 := hidP ((hd8.ownK HD7.out.cur HP7.out).weaken (Nat.le_refl _) hg8.size)
  obtain ⟨k0, hk0⟩ := InCrys.top (HCr.out W HWl.out)
  have HK0 := hidP hk0
  clear hv hc8 hg8 hd8 hbe HD7 HC7 HO7 HW7 HP7 HD6 HC6 HO6 HW6 hk0
  go_wp2
  go_loopw [11, 13] (fun ps kk wr => ∃ (k : Nat) (pa : Option Addr) (pn pc : Nat) (hs : List Hdr) (p : List Stp) (q : Nat), k ≤ v ∧ ps = .slice pa pn pc ∧ kk = .int .i64 k ∧ Hid (DrawSt w2 wr g a n c) ∧ Hid (CellsAt wr bC (.int .i64 R) (.slice ta m2 tc)) ∧ Hid (OwnI wr (w.heap.size + 1) ta m2 tc ts) ∧ Hid (OwnI wr (w.heap.size + 1) aw R cw W) ∧ Hid (OwnK stepK wr (w.heap.size + 1) wr.heap.size pa pn pc hs p) ∧ Hid (InCrys R ts W q p)) (fun _ kk _ => v - (intOf kk).toNat)
  case atStart => exact ⟨0, aP, 1, 1, hsP, straight W, k0, Nat.zero_le _, rfl, rfl, HD8, HC8, HO8, HW8, HP8, HK0⟩
  case round =>
    clear HD8 HC8 HO8 HW8 HP8 HK0
    obtain ⟨k, pa, pn, pc, hs, p, q, hk, rfl, rfl, HD, HC, HO, HW, HP, HK⟩ := hrel
    have HBe := hidP (fun w' (h : DrawSt wr w' g a n c) => l1Below_any g (R : Int) a n c bs w' h.cur ((HD.out.trans h).bytes HB2.out) hn (by omega))
    have HF : Hid (∀ w', DrawSt wr w' g a n c → CellsAt w' bC (.int .i64 R) (.slice ta m2 tc)) := fun w' h => HC.out.gb h.gb HGC.out
    have hE : DrawSt wr wr.drew g a n c := (DrawSt.refl HD.out.cur).ext (Ext.drew wr)
    by_cases hlt : k < v
    · have HLo := hidP (fun w' (h : DrawSt wr w' g a n c) i (hi : i < R) => l9LowerPath_any R ta m2 tc ts i pa pn pc p w' ((h.own HD.out.cur HO.out).ints) HTy.out.ty hi (h.ownK HD.out.cur HP.out).stepsAt HP.out.room.1 HP.out.room.2 (pathB_iff.1 (HK.out.path (HCr.out W HWl.out)).1))
      go_wp2
      (refine walkR_start (fun w' => DrawSt wr w' g a n c) 11 (by kernel_rfl) ?_; simp only [numbered, List.take_succ_cons, List.take_zero, Nat.zero_add, Nat.reduceAdd, List.length_cons, List.length_nil])
      (repeat (first | (refine walkR_still (v := ?_) rfl (by decide +kernel) rfl (fun _ _ _ h => h) hE ?_ ?_; rotate_left; (focus (intro w' hw'; obtain ⟨f0, f1, _, _⟩ := HF.out w' hw'; go_simp; all_goals (with_reducible rfl))); simp only [Act.put, List.setIfInBounds_toArray, List.set_cons_zero, List.set_cons_succ]) | (refine walkR_skip rfl (by decide +kernel) rfl (fun _ _ _ h => h) hE ?_; simp only [Act.put, List.setIfInBounds_toArray, List.set_cons_zero, List.set_cons_succ])))
      (refine walkR_later ?_; simp only [List.cons_append, List.nil_append])
      (repeat (first | (refine walkR_still (v := ?_) rfl (by decide +kernel) rfl (fun _ _ _ h => h) hE ?_ ?_; rotate_left; (focus (intro w' hw'; skip; go_simp; all_goals (with_reducible rfl))); simp only [Act.put, List.setIfInBounds_toArray, List.set_cons_zero, List.set_cons_succ]) | (refine walkR_skip rfl (by decide +kernel) rfl (fun _ _ _ h => h) hE ?_; simp only [Act.put, List.setIfInBounds_toArray, List.set_cons_zero, List.set_cons_succ])))
      (refine walkR_later ?_; simp only [List.cons_append, List.nil_append]); (refine walkR_later ?_; simp only [List.cons_append, List.nil_append]); (refine walkR_later ?_; simp only [List.cons_append, List.nil_append]); (refine walkR_later ?_; simp only [List.cons_append, List.nil_append]); (refine walkR_later ?_; simp only [List.cons_append, List.nil_append])
      (refine walkR_only (fun w' => DrawSt wr w' g a n c) rfl (by decide +kernel) rfl (fun _ h => h) ?_; intro K hK; go_simp; refine (HBe.out _ hE).mono ?_; rintro e w9 ⟨i, hi, rfl, hc9, hg9⟩; refine hK _ _ (hE.trans ⟨hc9, hg9⟩) ?_; clear hK K; (try simp only [Act.put, List.setIfInBounds_toArray, List.set_cons_zero, List.set_cons_succ]))
      have hiR : i < R := by have := hi.2 (by omega); omega
      have hE9 := hE.trans (⟨hc9, hg9⟩ : DrawSt wr.drew w9 g a n c)
      have hlo := HLo.out _ hE9 i hiR
      rcases HK.out.low (HCr.out W HWl.out) hiR with ⟨hn0, _⟩ | ⟨k', q', hq', _, hin, _⟩
      · skip
        have hlo2 : lowR R ts i p = (false, []) := by show optJ (lowF R ts i p) = _; rw [hn0]; rfl
        rw [hlo2] at hlo
        (refine walkR_only (fun w' => DrawSt wr w' g a n c) rfl (by decide +kernel) rfl (fun _ h => h) ?_; intro K hK; go_simp; refine (hlo).mono ?_; rintro e w10 ⟨pa', pn', pc', hs', rfl, ho10, hx10⟩; refine hK _ _ (hE9.ext hx10) ?_; clear hK K; (try simp only [Act.put, List.setIfInBounds_toArray, List.set_cons_zero, List.set_cons_succ]))
        have hE10 := hE9.ext hx10
        (repeat (first | (refine walkR_still (v := ?_) rfl (by decide +kernel) rfl (fun _ _ _ h => h) hE10 ?_ ?_; rotate_left; (focus (intro w' hw'; skip; go_simp; all_goals (with_reducible rfl))); simp only [Act.put, List.setIfInBounds_toArray, List.set_cons_zero, List.set_cons_succ]) | (refine walkR_skip rfl (by decide +kernel) rfl (fun _ _ _ h => h) hE10 ?_; simp only [Act.put, List.setIfInBounds_toArray, List.set_cons_zero, List.set_cons_succ])))
        (refine walkR_tail (by rfl) (by kernel_rfl) ?_; simp only [List.drop_succ_cons, List.drop_zero])
        have HDn := hidP (HD.out.trans hE10)
        have HCn := hidP ((HF.out _ hE10))
        have HOn := hidP (hE10.own HD.out.cur HO.out)
        have HWn := hidP (hE10.own HD.out.cur HW.out)
        have HPn := hidP ((hE10.ownK HD.out.cur HP.out).weaken (Nat.le_refl _) hE10.gb.size)
        clear hE10 ho10 hx10 hlo hlo2 hE9 hE hc9 hg9 hi
        go_wp2
        go_roundw
        case rel => exact ⟨k + 1, pa, pn, pc, hs, p, q, by omega, rfl, by go_num, HDn, HCn, HOn, HWn, HPn, HK⟩
        case measure => simp [intOf]; omega
      · have HIn := hidP hin
        have hlo2 : lowR R ts i p = (true, q') := by show optJ (lowF R ts i p) = _; rw [hq']; rfl
        rw [hlo2] at hlo
        (refine walkR_only (fun w' => DrawSt wr w' g a n c) rfl (by decide +kernel) rfl (fun _ h => h) ?_; intro K hK; go_simp; refine (hlo).mono ?_; rintro e w10 ⟨pa', pn', pc', hs', rfl, ho10, hx10⟩; refine hK _ _ (hE9.ext hx10) ?_; clear hK K; (try simp only [Act.put, List.setIfInBounds_toArray, List.set_cons_zero, List.set_cons_succ]))
        have hE10 := hE9.ext hx10
        (repeat (first | (refine walkR_still (v := ?_) rfl (by decide +kernel) rfl (fun _ _ _ h => h) hE10 ?_ ?_; rotate_left; (focus (intro w' hw'; skip; go_simp; all_goals (with_reducible rfl))); simp only [Act.put, List.setIfInBounds_toArray, List.set_cons_zero, List.set_cons_succ]) | (refine walkR_skip rfl (by decide +kernel) rfl (fun _ _ _ h => h) hE10 ?_; simp only [Act.put, List.setIfInBounds_toArray, List.set_cons_zero, List.set_cons_succ])))
        (refine walkR_tail (by rfl) (by kernel_rfl) ?_; simp only [List.drop_succ_cons, List.drop_zero])
        have HDn := hidP (HD.out.trans hE10)
        have HCn := hidP ((HF.out _ hE10))
        have HOn := hidP (hE10.own HD.out.cur HO.out)
        have HWn := hidP (hE10.own HD.out.cur HW.out)
        have HPn := hidP ((hE10.ownK HD.out.cur HP.out).weaken (Nat.le_refl _) hE10.gb.size)
        have HQn := hidP (ho10.weaken (B' := w.heap.size + 1) (U' := w10.heap.size) (Nat.le_trans HS2.out (HD.out.trans hE9).gb.size) (Nat.le_refl _))
        clear hE10 ho10 hx10 hlo hlo2 hE9 hE hc9 hg9 hi
        go_wp2
        go_roundw
        case rel => exact ⟨k + 1, pa', pn', pc', hs', q', k', by omega, rfl, by go_num, HDn, HCn, HOn, HWn, HQn, HIn⟩
        case measure => simp [intOf]; omega
    · have hBe := HBe.out
      have hF0 := HF.out _ hE
      obtain rfl : v = k := by omega
      go_wp2
      (refine walkR_start (fun w' => CellsAt w' bC (.int .i64 R) (.slice ta m2 tc)) 15 (by kernel_rfl) ?_; simp only [numbered, List.take_succ_cons, List.take_zero, Nat.zero_add, Nat.reduceAdd, List.length_cons, List.length_nil])
      (repeat (first | (refine walkR_still (v := ?_) rfl (by decide +kernel) rfl (fun _ _ _ h => h) hF0 ?_ ?_; rotate_left; (focus (intro w' hw'; obtain ⟨f0, f1, _, _⟩ := hw'; go_simp; all_goals (with_reducible rfl))); simp only [Act.put, List.setIfInBounds_toArray, List.set_cons_zero, List.set_cons_succ]) | (refine walkR_skip rfl (by decide +kernel) rfl (fun _ _ _ h => h) hF0 ?_; simp only [Act.put, List.setIfInBounds_toArray, List.set_cons_zero, List.set_cons_succ])))
      (refine walkR_later ?_; simp only [List.cons_append, List.nil_append])
      (repeat (first | (refine walkR_still (v := ?_) rfl (by decide +kernel) rfl (fun _ _ _ h => h) hF0 ?_ ?_; rotate_left; (focus (intro w' hw'; obtain ⟨f0, f1, _, _⟩ := hw'; go_simp; all_goals (with_reducible rfl))); simp only [Act.put, List.setIfInBounds_toArray, List.set_cons_zero, List.set_cons_succ]) | (refine walkR_skip rfl (by decide +kernel) rfl (fun _ _ _ h => h) hF0 ?_; simp only [Act.put, List.setIfInBounds_toArray, List.set_cons_zero, List.set_cons_succ])))
      (refine walkR_later ?_; simp only [List.cons_append, List.nil_append])
      (repeat (first | (refine walkR_still (v := ?_) rfl (by decide +kernel) rfl (fun _ _ _ h => h) hF0 ?_ ?_; rotate_left; (focus (intro w' hw'; skip; go_simp; all_goals (with_reducible rfl))); simp only [Act.put, List.setIfInBounds_toArray, List.set_cons_zero, List.set_cons_succ]) | (refine walkR_skip rfl (by decide +kernel) rfl (fun _ _ _ h => h) hF0 ?_; simp only [Act.put, List.setIfInBounds_toArray, List.set_cons_zero, List.set_cons_succ])))
      (refine walkR_later ?_; simp only [List.cons_append, List.nil_append]); (refine walkR_later ?_; simp only [List.cons_append, List.nil_append]); (refine walkR_later ?_; simp only [List.cons_append, List.nil_append]); (refine walkR_later ?_; simp only [List.cons_append, List.nil_append])
      (refine walkR_only (fun w' => CellsAt w' bC (.int .i64 R) (.slice ta m2 tc)) rfl (by decide +kernel) rfl (fun _ h => h) ?_; intro K hK; go_simp; refine (hBe _ hE).mono ?_; rintro e w9 ⟨i, hi, rfl, hc9, hg9⟩; refine hK _ _ (HF.out _ (hE.trans ⟨hc9, hg9⟩)) ?_; clear hK K; (try simp only [Act.put, List.setIfInBounds_toArray, List.set_cons_zero, List.set_cons_succ]))
      have hE9 := hE.trans (⟨hc9, hg9⟩ : DrawSt wr.drew w9 g a n c)
      have hiR : i < R := by have := hi.2 (by omega); omega
      (refine walkR_only (fun w' => CellsAt w' bC (.int .i64 R) (.slice ta m2 tc)) rfl (by decide +kernel) rfl (fun _ h => h) ?_; intro K hK; go_simp; refine (hBe _ hE9).mono ?_; rintro e w10 ⟨j, hj, rfl, hc10, hg10⟩; refine hK _ _ (HF.out _ (hE9.trans ⟨hc10, hg10⟩)) ?_; clear hK K; (try simp only [Act.put, List.setIfInBounds_toArray, List.set_cons_zero, List.set_cons_succ]))
      have hE10 := hE9.trans (⟨hc10, hg10⟩ : DrawSt w9 w10 g a n c)
      have hjR : j < R := by have := hj.2 (by omega); omega
      have hres := (HR0.out.gb (HD.out.trans hE10).gb HG.out.1)
      obtain ⟨t0, t1, t2, t3⟩ := hres
      have hc11 := HF.out _ hE10
      (refine walkR_only (fun w' => CellsAt w' bC (.int .i64 R) (.slice ta m2 tc)) rfl (by decide +kernel) rfl ?_ ?_)
      · exact fun _ h => h
      intro K hK
      go_simp
      have hext : Ext w w10 := ext_up HX2.out (HD.out.trans hE10).gb HX2.out.size HG.out.2
      have hcb : bC ≠ w.heap.size := by have := HBW.out; omega
      have hgs : w10.grownBy ((w10.setCell ⟨w.heap.size, 0, none⟩ (.int .i64 R)).setCell ⟨w.heap.size, 1, none⟩ (.slice ta m2 tc)) (some w.heap.size) :=
        ⟨rfl, rfl, rfl, by simp [World.setCell], fun k hk hne => by
          have h1 : k ≠ w.heap.size := by simpa using hne
          exact (Below.heap_setCell (w10.setCell ⟨w.heap.size, 0, none⟩ (.int .i64 R)) ⟨w.heap.size, 1, none⟩ (.slice ta m2 tc) k h1).trans (Below.heap_setCell w10 ⟨w.heap.size, 0, none⟩ (.int .i64 R) k h1)⟩
      have hoF := (hE10.own HD.out.cur HO.out).grown hgs fun b o e => by
        have := (HO.out.at_base b o e).1
        simp only [ne_eq, Option.some.injEq]
        omega
      have hwF := (hE10.own HD.out.cur HW.out).grown hgs fun b o e => by
        have := (HW.out.at_base b o e).1
        simp only [ne_eq, Option.some.injEq]
        omega
      have hpF := (hE10.ownK HD.out.cur HP.out).kept hgs (fun b o e e2 => by
        have := (HP.out.base_lt b o e).1
        simp only [Option.some.injEq] at e2
        omega) (fun i hi b o e e2 => by
        have := ((HP.out.each i hi).at_base b o e).1
        simp only [Option.some.injEq] at e2
        omega)
      have HXF : Hid (Ext w ((w10.setCell ⟨w.heap.size, 0, none⟩ (.int .i64 R)).setCell ⟨w.heap.size, 1, none⟩ (.slice ta m2 tc))) := (hext.setNew _ _ (Nat.le_refl _) _).setNew _ _ (Nat.le_refl _) _
      have HOF := hidP (hoF.base (B' := w.heap.size) (by omega))
      have HWF := hidP (hwF.base (B' := w.heap.size) (by omega))
      have HPF := hidP (hpF.weaken (B' := w.heap.size) (by omega) (Nat.le_trans hE10.gb.size hgs.size))
      have hc12 : CellsAt ((w10.setCell ⟨w.heap.size, 0, none⟩ (.int .i64 R)).setCell ⟨w.heap.size, 1, none⟩ (.slice ta m2 tc)) bC (.int .i64 R) (.slice ta m2 tc) := (hc11.setFar _ _ hcb).setFar _ _ hcb
      have hr0 : ((w10.setCell ⟨w.heap.size, 0, none⟩ (.int .i64 R)).setCell ⟨w.heap.size, 1, none⟩ (.slice ta m2 tc)).cell? ⟨w.heap.size, 0, none⟩ = some (.int .i64 R) := ((⟨t0, t1, t2, t3⟩ : CellsAt w10 w.heap.size _ _).put2 _ _).c0
      have hr1 : ((w10.setCell ⟨w.heap.size, 0, none⟩ (.int .i64 R)).setCell ⟨w.heap.size, 1, none⟩ (.slice ta m2 tc)).cell? ⟨w.heap.size, 1, none⟩ = some (.slice ta m2 tc) := ((⟨t0, t1, t2, t3⟩ : CellsAt w10 w.heap.size _ _).put2 _ _).c1
      refine hK _ _ hc12 ?_
      clear hK K
      (try simp only [Act.put, List.setIfInBounds_toArray, List.set_cons_zero, List.set_cons_succ])
      obtain ⟨wf, hwf⟩ : ∃ wf, wf = (w10.setCell ⟨w.heap.size, 0, none⟩ (.int .i64 R)).setCell ⟨w.heap.size, 1, none⟩ (.slice ta m2 tc) := ⟨_, rfl⟩
      rw [← hwf] at HXF HOF HWF HPF hc12 hr0 hr1 ⊢
      have hRe := HR.out
      have HEnd : Hid (Drew wf w.heap.size t i j ta tc aw cw W pa pn pc hs p q) := ⟨ht, by rw [← hRe]; exact hiR, by rw [← hRe]; exact hjR, by rw [← hRe, ← HTs.out, ← HM2.out]; exact HOF.out, by rw [← hRe]; exact HWF.out, HPF.out, HWl.out, by rw [← hRe, ← HTs.out]; exact HK.out⟩
      clear hwf hoF hwF hpF hgs hext hcb hc11 t0 t1 t2 t3 hE10 hE9 hE hF0 hBe hRe
      (repeat (first | (refine walkR_still (v := ?_) rfl (by decide +kernel) rfl (fun _ _ _ h => h) hc12 ?_ ?_; rotate_left; (focus (intro w' hw'; skip; go_simp; all_goals (with_reducible rfl))); simp only [Act.put, List.setIfInBounds_toArray, List.set_cons_zero, List.set_cons_succ]) | (refine walkR_skip rfl (by decide +kernel) rfl (fun _ _ _ h => h) hc12 ?_; simp only [Act.put, List.setIfInBounds_toArray, List.set_cons_zero, List.set_cons_succ])))
      (refine walkR_tail (by rfl) (by kernel_rfl) ?_; simp only [List.drop_succ_cons, List.drop_zero])
      go_wp2
      refine bodyPost_ret (v := .tuple #[carV R ta m2 tc, .int .i64 i, .int .i64 j, .slice aw R cw, .slice pa pn pc]) (by simp [results, Tryz.results29, go_sem, hr0, hr1]) rfl ⟨t, i, j, ta, tc, aw, cw, W, pa, pn, pc, hs, p, q, by rw [HM2.out, HR.out], HEnd.out, HXF.out⟩
end Go.Proofs.YtfikkfbnlegflaaGreatDoor

namespace Go.Proofs.YtfikkfbnlegflaaGreatDoor
open Go.RowKit

set_option maxHeartbeats 1000000 in
theorem lInts_any (a1 a2 : Option Addr) (n1 n2 c1 c2 : Nat) (xs ys : List Int) (w : World) (h1 : IntsAt w a1 n1 xs) (h2 : IntsAt w a2 n2 ys) (hm1 : n1 ≤ 9223372036854775807) (hm2 : n2 ≤ 9223372036854775807) :
    Calls Tryz.prog 32 #[.slice a1 n1 c1, .slice a2 n2 c2] w fun e w' => e = .returned (.bool (xs == ys)) ∧ ∃ m, w' = w.drewN m := by
  obtain ⟨l1, g1⟩ := h1
  obtain ⟨l2, g2⟩ := h2
  have G1 := hidP g1
  have G2 := hidP g2
  have L1 := hidP l1
  have L2 := hidP l2
  clear g1 g2 l1 l2
  by_cases hne : n1 = n2
  · subst hne
    go_enter Tryz.func32, Tryz.ntmps32
    go_wp2
    go_loopw [5] (fun i wr => ∃ k m : Nat, k ≤ n1 ∧ Hid (∀ j, j < k → xs.getD j 0 = ys.getD j 0) ∧ i = .int .i64 k ∧ wr = w.drewN m) (fun i _ => n1 - (intOf i).toNat)
    case atStart => exact ⟨0, 0, Nat.zero_le _, fun j h => by omega, rfl, rfl⟩
    case round =>
      obtain ⟨k, m, hk, HJ, rfl, rfl⟩ := hrel
      by_cases hlt : k < n1
      · obtain ⟨b1, o1, rfl, q1⟩ := G1.out k hlt
        obtain ⟨b2, o2, rfl, q2⟩ := G2.out k hlt
        by_cases hd : xs.getD k 0 = ys.getD k 0
        · have hb : (xs[k]?.getD 0 != ys[k]?.getD 0) = false := by simpa [List.getD_eq_getElem?_getD] using hd
          have HD := hidP hd
          clear hd
          go_wp2
          go_quiet (fail)
          go_wp2
          go_roundw
          case rel =>
            refine ⟨k + 1, m + nq, by omega, fun j hj => ?_, by go_num, by simp⟩
            rcases Nat.lt_succ_iff_lt_or_eq.1 hj with h3 | rfl
            · exact HJ.out j h3
            · exact HD.out
          case measure => simp [intOf]; omega
        · have hb : (xs[k]?.getD 0 != ys[k]?.getD 0) = true := by simpa [List.getD_eq_getElem?_getD] using hd
          have HB : Hid ((xs == ys) = false) := by
            show _ = _
            rw [beq_eq_false_iff_ne]
            exact fun e => hd (by rw [e])
          clear hd
          go_wp2
          go_quiet (fail)
          go_wp2
          go_ret
          exact ⟨ret_bool HB.out.symm, _, by simp only [World.drewN_drewN]; rfl⟩
      · have HB : Hid ((xs == ys) = true) := by
          show _ = _
          rw [beq_iff_eq]
          exact ints_ext (L1.out.trans L2.out.symm) fun j hj => HJ.out j (by have := L1.out; omega)
        go_wp2
        go_ret
        exact ⟨ret_bool HB.out.symm, _, rfl⟩
  · have HB : Hid ((xs == ys) = false) := by
      show _ = _
      rw [beq_eq_false_iff_ne]
      exact fun e => hne (by rw [← L1.out, ← L2.out, e])
    have hb : (((n1 : Nat) : Int) != (n2 : Nat)) = true := bne_iff_ne.2 (by omega)
    clear hne
    go_enter Tryz.func32, Tryz.ntmps32
    go_wp2
    go_ret
    exact ⟨ret_bool HB.out.symm, 0, rfl⟩
theorem lIntsX_any (a1 a2 : Option Addr) (n1 n2 c1 c2 : Nat) (xs ys : List Int) (w : World) (h1 : IntsAt w a1 n1 xs) (h2 : IntsAt w a2 n2 ys) (hm1 : n1 ≤ 9223372036854775807) (hm2 : n2 ≤ 9223372036854775807) :
    Calls Tryz.prog 32 #[.slice a1 n1 c1, .slice a2 n2 c2] w fun e w' => e = .returned (.bool (xs == ys)) ∧ Ext w w' :=
  (lInts_any a1 a2 n1 n2 c1 c2 xs ys w h1 h2 hm1 hm2).mono fun _ _ ⟨he, m, hw⟩ => ⟨he, by rw [hw]; exact Ext.drewN w m⟩
set_option maxRecDepth 100000 in
set_option maxHeartbeats 4000000 in
theorem lPaths_any (a a' : Option Addr) (n n' c c' : Nat) (p q : List Stp) (w : World) (h : StepsAt w a n p) (h' : StepsAt w a' n' q) (hn : n ≤ 1000000) (hn' : n' ≤ 1000000) :
    Calls Tryz.prog 31 #[.slice a n c, .slice a' n' c'] w fun e w' => e = .returned (.bool (p == q)) ∧ Ext w w' := by
  have HP := hidP h
  have HQ := hidP h'
  have HL := hidP h.len
  have HL' := hidP h'.len
  clear h h'
  by_cases hne : n = n'
  · subst hne
    go_enter Tryz.func31, Tryz.ntmps31
    go_wp2
    go_loopw [5] (fun i wr => ∃ k : Nat, k ≤ n ∧ i = .int .i64 k ∧ Hid (∀ j, j < k → wayAt p j = wayAt q j ∧ lenAt p j = lenAt q j) ∧ Hid (Ext w wr)) (fun i _ => n - (intOf i).toNat)
    case atStart => exact ⟨0, Nat.zero_le _, rfl, fun j h => by omega, Ext.refl _⟩
    case round =>
      obtain ⟨k, hk, rfl, HJ, HX⟩ := hrel
      by_cases hlt : k < n
      · obtain ⟨b, o, aV, cV, V, L, rfl, HV, HLn, hvl, _, hq⟩ := (HP.out.below HX.out).way k hlt
        obtain ⟨b2, o2, aU, cU, U, M, rfl, HU, HM, hul, _, hq2⟩ := (HQ.out.below HX.out).way k hlt
        have HF : Hid (∀ w', Ext wr w' → w'.cell? ⟨b, o + k * 2, none⟩ = some (.slice aV V.length cV) ∧ w'.cell? ⟨b, o + k * 2 + 1, none⟩ = some (.int .i64 L) ∧ w'.cell? ⟨b2, o2 + k * 2, none⟩ = some (.slice aU U.length cU) ∧ w'.cell? ⟨b2, o2 + k * 2 + 1, none⟩ = some (.int .i64 M)) := fun w' hx =>
          ⟨(hq w' hx).1, (hq w' hx).2.1, (hq2 w' hx).1, (hq2 w' hx).2.1⟩
        have HIn := hidP (fun w' (hx : Ext wr w') => lIntsX_any aV aU V.length U.length cV cU V U w' (hq w' hx).2.2 (hq2 w' hx).2.2 hvl hul)
        have hk0 : (0 : Int) ≤ (k : Int) := by omega
        have hk1 : (k : Int) < (n : Int) := by omega
        have hE : Ext wr wr.drew := Ext.drew wr
        clear hq hq2
        by_cases hlm : L = M
        · have hb : (L != M) = false := by simpa using hlm
          cases hvu : (V == U)
          · rw [hvu] at HIn
            have HB : Hid ((p == q) = false) := by
              show _ = _
              rw [beq_eq_false_iff_ne]
              rintro rfl
              have : V = U := by rw [← HV.out, ← HU.out]
              rw [this] at hvu
              simp at hvu
            clear hlm hvu
            go_wp2
            (refine walkR_start (fun w' => Ext wr w') 24 (by kernel_rfl) ?_; simp only [numbered, List.take_succ_cons, List.take_zero, Nat.zero_add, Nat.reduceAdd, List.length_cons, List.length_nil])
            (repeat (first | (refine walkR_still (v := ?_) rfl (by decide +kernel) rfl (fun _ _ _ h => h) hE ?_ ?_; rotate_left; (focus (intro w' hw'; obtain ⟨q1, q2, q3, q4⟩ := HF.out w' hw'; go_simp; all_goals (with_reducible rfl))); simp only [Act.put, List.setIfInBounds_toArray, List.set_cons_zero, List.set_cons_succ]) | (refine walkR_skip rfl (by decide +kernel) rfl (fun _ _ _ h => h) hE ?_; simp only [Act.put, List.setIfInBounds_toArray, List.set_cons_zero, List.set_cons_succ])))
            (refine walkR_only (fun w' => Ext wr w') rfl (by decide +kernel) rfl (fun _ h => h) ?_; intro K hK; go_simp; refine (HIn.out _ hE).mono ?_; rintro e w3 ⟨rfl, hx3⟩; refine hK _ _ (hE.trans hx3) ?_; clear hK K; (try simp only [Act.put, List.setIfInBounds_toArray, List.set_cons_zero, List.set_cons_succ]))
            have hE3 := hE.trans hx3
            clear hx3
            (repeat (first | (refine walkR_still (v := ?_) rfl (by decide +kernel) rfl (fun _ _ _ h => h) hE3 ?_ ?_; rotate_left; (focus (intro w' hw'; skip; go_simp; all_goals (with_reducible rfl))); simp only [Act.put, List.setIfInBounds_toArray, List.set_cons_zero, List.set_cons_succ]) | (refine walkR_skip rfl (by decide +kernel) rfl (fun _ _ _ h => h) hE3 ?_; simp only [Act.put, List.setIfInBounds_toArray, List.set_cons_zero, List.set_cons_succ])))
            (refine walkR_tail (by rfl) (by kernel_rfl) ?_; simp only [List.drop_succ_cons, List.drop_zero])
            have HX3 := hidP (HX.out.trans hE3)
            clear hE3 hE
            go_wp2
            go_ret
            exact ⟨ret_bool HB.out.symm, HX3.out⟩
          · rw [hvu] at HIn
            have HJ' : Hid (∀ j, j < k + 1 → wayAt p j = wayAt q j ∧ lenAt p j = lenAt q j) := by
              intro j hj
              rcases Nat.lt_succ_iff_lt_or_eq.1 hj with h3 | rfl
              · exact HJ.out j h3
              · exact ⟨by rw [HV.out, HU.out]; simpa using hvu, by rw [HLn.out, HM.out]; exact hlm⟩
            clear hlm hvu
            go_wp2
            (refine walkR_start (fun w' => Ext wr w') 24 (by kernel_rfl) ?_; simp only [numbered, List.take_succ_cons, List.take_zero, Nat.zero_add, Nat.reduceAdd, List.length_cons, List.length_nil])
            (repeat (first | (refine walkR_still (v := ?_) rfl (by decide +kernel) rfl (fun _ _ _ h => h) hE ?_ ?_; rotate_left; (focus (intro w' hw'; obtain ⟨q1, q2, q3, q4⟩ := HF.out w' hw'; go_simp; all_goals (with_reducible rfl))); simp only [Act.put, List.setIfInBounds_toArray, List.set_cons_zero, List.set_cons_succ]) | (refine walkR_skip rfl (by decide +kernel) rfl (fun _ _ _ h => h) hE ?_; simp only [Act.put, List.setIfInBounds_toArray, List.set_cons_zero, List.set_cons_succ])))
            (refine walkR_only (fun w' => Ext wr w') rfl (by decide +kernel) rfl (fun _ h => h) ?_; intro K hK; go_simp; refine (HIn.out _ hE).mono ?_; rintro e w3 ⟨rfl, hx3⟩; refine hK _ _ (hE.trans hx3) ?_; clear hK K; (try simp only [Act.put, List.setIfInBounds_toArray, List.set_cons_zero, List.set_cons_succ]))
            have hE3 := hE.trans hx3
            clear hx3
            (repeat (first | (refine walkR_still (v := ?_) rfl (by decide +kernel) rfl (fun _ _ _ h => h) hE3 ?_ ?_; rotate_left; (focus (intro w' hw'; skip; go_simp; all_goals (with_reducible rfl))); simp only [Act.put, List.setIfInBounds_toArray, List.set_cons_zero, List.set_cons_succ]) | (refine walkR_skip rfl (by decide +kernel) rfl (fun _ _ _ h => h) hE3 ?_; simp only [Act.put, List.setIfInBounds_toArray, List.set_cons_zero, List.set_cons_succ])))
            (refine walkR_tail (by rfl) (by kernel_rfl) ?_; simp only [List.drop_succ_cons, List.drop_zero])
            have HX3 := hidP (HX.out.trans hE3)
            clear hE3 hE
            go_wp2
            go_roundw
            case rel => exact ⟨k + 1, by omega, by go_num, HJ', HX3⟩
            case measure => simp [intOf]; omega
        · have hb : (L != M) = true := by simpa using hlm
          have HB : Hid ((p == q) = false) := by
            show _ = _
            rw [beq_eq_false_iff_ne]
            rintro rfl
            exact hlm (by rw [← HLn.out, ← HM.out])
          clear hlm
          go_wp2
          (refine walkR_start (fun w' => Ext wr w') 24 (by kernel_rfl) ?_; simp only [numbered, List.take_succ_cons, List.take_zero, Nat.zero_add, Nat.reduceAdd, List.length_cons, List.length_nil])
          (repeat (first | (refine walkR_still (v := ?_) rfl (by decide +kernel) rfl (fun _ _ _ h => h) hE ?_ ?_; rotate_left; (focus (intro w' hw'; obtain ⟨q1, q2, q3, q4⟩ := HF.out w' hw'; go_simp; all_goals (with_reducible rfl))); simp only [Act.put, List.setIfInBounds_toArray, List.set_cons_zero, List.set_cons_succ]) | (refine walkR_skip rfl (by decide +kernel) rfl (fun _ _ _ h => h) hE ?_; simp only [Act.put, List.setIfInBounds_toArray, List.set_cons_zero, List.set_cons_succ])))
          (refine walkR_tail (by rfl) (by kernel_rfl) ?_; simp only [List.drop_succ_cons, List.drop_zero])
          have HX3 := hidP (HX.out.trans hE)
          clear hE
          go_wp2
          go_ret
          exact ⟨ret_bool HB.out.symm, HX3.out⟩
      · have HB : Hid ((p == q) = true) := by
          show _ = _
          rw [beq_iff_eq]
          apply List.ext_getElem
          · rw [HL.out, HL'.out]
          · intro j h1 h2
            have := HJ.out j (by have := HL.out; omega)
            simp only [wayAt, lenAt, List.getD_eq_getElem?_getD, List.getElem?_eq_getElem h1, List.getElem?_eq_getElem h2, Option.getD_some] at this
            exact Prod.ext this.1 this.2
        go_wp2
        go_ret
        exact ⟨ret_bool HB.out.symm, HX.out⟩
  · have HB : Hid ((p == q) = false) := by
      show _ = _
      rw [beq_eq_false_iff_ne]
      exact fun e => hne (by rw [← HL.out, ← HL'.out, e])
    have hb : (((n : Nat) : Int) != (n' : Nat)) = true := bne_iff_ne.2 (by omega)
    clear hne
    go_enter Tryz.func31, Tryz.ntmps31
    go_wp2
    go_ret
    exact ⟨ret_bool HB.out.symm, Ext.refl _⟩
end Go.Proofs.YtfikkfbnlegflaaGreatDoor

namespace Go.Proofs.YtfikkfbnlegflaaGreatDoor
open Go.RowKit

/-! the weight of a simple root -/
end Go.Proofs.YtfikkfbnlegflaaGreatDoor

namespace Go.Proofs.YtfikkfbnlegflaaGreatDoor
open Go.RowKit

theorem end_length (r : Nat) (p : List Stp) (h : (endR r p).1 = true) : (endR r p).2.length = r := by
  unfold endR at h ⊢
  split
  · simp [endV_length]
  · rename_i h2; rw [if_neg h2] at h; cases h
theorem endT_in {r : Nat} {ts : List Int} {p : List Stp} (hT : typeB r ts = true) (hp : pathB r p = true) : endT r ts p = endR r p := by
  unfold endT
  rw [Int.toNat_natCast, hT, hp]
  rfl
/-- what a law on paths stands on -/
structure CrysCtx (w0 : World) (R : Nat) (ts W : List Int) (ta : Option Addr) (tn : Nat) : Prop where
  ty : typeB R ts = true
  cr : crysOk R ts W = true
  car : ∀ w', Ext w0 w' → IntsAt w' ta tn ts
  small : tn ≤ 16
  mx : ∀ w', Ext w0 w' → MaxL w'
section
variable {w0 w' : World} {R : Nat} {ts W : List Int} {ta : Option Addr} {tn tc : Nat} {a : Option Addr} {n c k i : Nat} {q : List Stp}
theorem CrysCtx.end_ (h : CrysCtx w0 R ts W ta tn) (hx : Ext w0 w') (hk : InCrys R ts W k q) (hs : StepsAt w' a n q) :
    Calls Tryz.prog 30 #[carV R ta tn tc, .slice a n c] w' fun e w'' => ∃ aE cE, e = .returned (.tuple #[.slice aE R cE, .bool true]) ∧ OwnI w'' w'.heap.size aE R cE (endR R q).2 ∧ Ext w' w'' := by
  have hp := hk.path h.cr
  have hn : n ≤ 60 := by have := (pathB_iff.1 hp.1).len; have := hs.len; omega
  have h1 := endOfAll_any R ta tn tc ts a n c q w' (h.car w' hx) (by have := h.small; omega) hs.terms (by omega) (h.mx w' hx)
  rw [endT_in h.ty hp.1] at h1
  unfold EndRes at h1
  refine h1.mono ?_
  rintro e w'' ⟨aE, nE, cE, rfl, ho, hx'⟩
  have hl := ho.len
  rw [end_length _ _ hp.2] at hl
  subst hl
  rw [hp.2]
  exact ⟨aE, cE, rfl, ho, hx'⟩
end
end Go.Proofs.YtfikkfbnlegflaaGreatDoor

namespace Go.Proofs.YtfikkfbnlegflaaGreatDoor
open Go.RowKit

set_option maxHeartbeats 2000000 in
theorem l6Word_one (R : Nat) (ta : Option Addr) (tn tc : Nat) (a : Option Addr) (c : Nat) (i : Nat) (hi : i < R) (hR : R ≤ 4) (w : World) (h : IntsAt w a 1 [(i : Int)]) :
    Calls Tryz.prog 113 #[carV R ta tn tc, .slice a 1 c] w fun e w' => e = .returned (.bool true) ∧ Ext w w' := by
  have hx1 := Ext.alloc w (.cells #[.int .i64 R, .slice ta tn tc] 31)
  have HC := hidP (fun w' (hx : Ext (w.alloc (.cells #[.int .i64 R, .slice ta tn tc] 31)) w') => (CarAt.new w _ rfl (R : Int) ta tn tc 31).below hx)
  have HX1 := hidP hx1
  have HI := hidP h
  have HIn := hidP (fun w' => l1In_any (i : Int) 0 ((R : Int) - 1) w')
  rw [insB_true.2 (⟨by omega, by omega⟩ : (0 : Int) ≤ (i : Int) ∧ (i : Int) ≤ (R : Int) - 1)] at HIn
  have hwr : IntKind.i64.wrap ((R : Int) - 1) = (R : Int) - 1 := wrap_in (by omega) (by omega)
  clear h hx1
  obtain ⟨w1, hw1⟩ : ∃ w1, w1 = w.alloc (.cells #[.int .i64 R, .slice ta tn tc] 31) := ⟨_, rfl⟩
  rw [← hw1] at HC HX1
  obtain ⟨f0, f1⟩ := HC.out w1 (Ext.refl _)
  go_enter Tryz.func113, Tryz.ntmps113
  go_wp2
  rw [← hw1]
  clear hw1 f0 f1
  go_loopw [5] (fun kk wr => ∃ k : Nat, k ≤ 1 ∧ kk = .int .i64 k ∧ Hid (Ext w1 wr)) (fun kk _ => 1 - (intOf kk).toNat)
  case atStart => exact ⟨0, Nat.zero_le _, rfl, Ext.refl _⟩
  case round =>
    obtain ⟨k, hk, rfl, HX⟩ := hrel
    by_cases hlt : k < 1
    · obtain rfl : k = 0 := by omega
      obtain ⟨b, o, rfl, q⟩ := HI.out.one 0 (by omega)
      have HF : Hid (∀ w', Ext wr w' → w'.cell? ⟨b, o, none⟩ = some (.int .i64 i) ∧ CarAt w' w.heap.size R ta tn tc) := fun w' hx => ⟨by have := q w' ((HX1.out.trans HX.out).trans hx); simpa using this, HC.out w' (HX.out.trans hx)⟩
      clear q
      have hE : Ext wr wr.drew := Ext.drew wr
      go_wp2
      (refine walkR_start (fun w' => Ext wr w') 8 (by kernel_rfl) ?_; simp only [numbered, List.take_succ_cons, List.take_zero, Nat.zero_add, Nat.reduceAdd, List.length_cons, List.length_nil])
      (repeat (first | (refine walkR_still (v := ?_) rfl (by decide +kernel) rfl (fun _ _ _ h => h) hE ?_ ?_; rotate_left; (focus (intro w' hw'; obtain ⟨q1, f0, f1⟩ := HF.out w' hw'; go_simp; all_goals (with_reducible rfl))); simp only [Act.put, List.setIfInBounds_toArray, List.set_cons_zero, List.set_cons_succ]) | (refine walkR_skip rfl (by decide +kernel) rfl (fun _ _ _ h => h) hE ?_; simp only [Act.put, List.setIfInBounds_toArray, List.set_cons_zero, List.set_cons_succ])))
      (refine walkR_only (fun w' => Ext wr w') rfl (by decide +kernel) rfl (fun _ h => h) ?_; intro K hK; go_simp; refine (HIn.out _).mono ?_; rintro e w3 ⟨rfl, rfl⟩; refine hK _ _ (hE) ?_; clear hK K; (try simp only [Act.put, List.setIfInBounds_toArray, List.set_cons_zero, List.set_cons_succ]))
      (refine walkR_tail (by rfl) (by kernel_rfl) ?_; simp only [List.drop_succ_cons, List.drop_zero])
      have HX3 := hidP (HX.out.trans hE)
      clear hE
      go_wp2
      go_roundw
      case rel => exact ⟨1, by omega, by first | rfl | go_num, HX3⟩
      case measure => simp [intOf]
    · obtain rfl : k = 1 := by omega
      go_wp2
      go_ret
      exact ⟨rfl, HX1.out.trans HX.out⟩
set_option maxHeartbeats 2000000 in
theorem wordOk_one (R : Nat) (ta : Option Addr) (tn tc : Nat) (ts : List Int) (a : Option Addr) (c : Nat) (i : Nat) (hi : i < R) (w : World) (hc : IntsAt w ta tn ts) (hcn : tn ≤ 9223372036854775807) (hT : typeB R ts = true) (h : IntsAt w a 1 [(i : Int)]) :
    Calls Tryz.prog 74 #[carV R ta tn tc, .slice a 1 c] w fun e w' => e = .returned (.bool true) ∧ Ext w w' := by
  have hx1 := Ext.alloc w (.cells #[.int .i64 R, .slice ta tn tc] 31)
  have HC := hidP (fun w' (hx : Ext (w.alloc (.cells #[.int .i64 R, .slice ta tn tc] 31)) w') => (CarAt.new w _ rfl (R : Int) ta tn tc 31).below hx)
  have HX1 := hidP hx1
  have hrk := typeB_rank hT
  have HIs := hidP (fun w' (h : Ext w w') => sIsCartan_any (R : Int) ta tn tc ts w' (hc.below h) hcn)
  rw [hT] at HIs
  have HWo := hidP (fun w' (hx : Ext w w') => l6Word_one R ta tn tc a c i hi (by omega) w' (h.below hx))
  clear hc hT h hx1 hrk
  obtain ⟨w1, hw1⟩ : ∃ w1, w1 = w.alloc (.cells #[.int .i64 R, .slice ta tn tc] 31) := ⟨_, rfl⟩
  rw [← hw1] at HC HX1
  obtain ⟨f0, f1⟩ := HC.out w1 (Ext.refl _)
  go_enter Tryz.func74, Tryz.ntmps74
  go_wp2_with fail
  rw [← hw1]
  clear hw1
  refine (HIs.out _ HX1.out).mono ?_
  rintro e w2 ⟨rfl, hx2⟩
  obtain ⟨z0, z1⟩ := HC.out w2 hx2
  have HX2 := hidP (HX1.out.trans hx2)
  clear f0 f1 hx2
  go_wp2_with fail
  refine (HWo.out _ HX2.out).mono ?_
  rintro e w3 ⟨rfl, hx3⟩
  have HX3 := hidP (HX2.out.trans hx3)
  clear hx3 z0 z1
  go_wp2
  go_ret
  exact ⟨rfl, HX3.out⟩
set_option maxHeartbeats 2000000 in
theorem l6Act_one (R : Nat) (ta : Option Addr) (tn tc : Nat) (ts : List Int) (a : Option Addr) (c : Nat) (i : Nat) (hi : i < R) (aw : Option Addr) (cw : Nat) (W : List Int) (w : World) (hc : IntsAt w ta tn ts) (hT : typeB R ts = true) (h : IntsAt w a 1 [(i : Int)]) (hw : IntsAt w aw R W) (hnil : aw = none → cw = 0) (hb : wayB R W = true) :
    Calls Tryz.prog 76 #[carV R ta tn tc, .slice a 1 c, .slice aw R cw] w fun e w' => ∃ a' c', e = .returned (.slice a' R c') ∧ OwnI w' w.heap.size a' R c' (refl R ts i W) ∧ Ext w w' := by
  have hx1 := Ext.alloc w (.cells #[.int .i64 R, .slice ta tn tc] 31)
  have HC := hidP (fun w' (hx : Ext (w.alloc (.cells #[.int .i64 R, .slice ta tn tc] 31)) w') => (CarAt.new w _ rfl (R : Int) ta tn tc 31).below hx)
  have HX1 := hidP hx1
  have hrk := typeB_rank hT
  have hR4 : R ≤ 4 := by omega
  have HCl := hidP (fun w' (hx : Ext w w') => l1Ints_any aw R cw W w' (hw.below hx) hnil (by omega))
  have HI := hidP h
  have hbd : ∀ j, j < R → -1000 ≤ W.getD j 0 ∧ W.getD j 0 ≤ 1000 := by
    intro j hj
    simp only [wayB, Bool.and_eq_true, decide_eq_true_eq, List.all_eq_true] at hb
    have hm : W.getD j 0 ∈ W := by
      rw [List.getD_eq_getElem?_getD, List.getElem?_eq_getElem (by omega)]
      exact List.getElem_mem _
    exact hb.2 _ hm
  have HRe := hidP (fun w' (hx : Ext w w') a' c' (h' : IntsAt w' a' R W) (hn : a' = none → c' = 0) => l6Reflect_any R ta tn tc ts i a' R c' W w' (hc.below hx) hT hi h' hn hw.len hbd)
  clear hc hT h hx1 hrk hw hnil hb hbd
  obtain ⟨w1, hw1⟩ : ∃ w1, w1 = w.alloc (.cells #[.int .i64 R, .slice ta tn tc] 31) := ⟨_, rfl⟩
  rw [← hw1] at HC HX1
  go_enter Tryz.func76, Tryz.ntmps76
  go_wp2_with fail
  rw [← hw1]
  clear hw1
  refine (HCl.out _ HX1.out).mono ?_
  rintro e w2 ⟨a2, c2, rfl, ho2, hx2⟩
  have HO2 := hidP (ho2.base (B' := w.heap.size) HX1.out.size)
  have HX2 := hidP hx2
  clear ho2 hx2
  go_wp2
  go_loopw [7, 8] (fun oo kk wr => ∃ (k : Nat) (a3 : Option Addr) (c3 : Nat), k ≤ 1 ∧ oo = .slice a3 R c3 ∧ kk = .int .i64 ((k : Int) - 1) ∧ Hid (OwnI wr w.heap.size a3 R c3 (if k = 1 then W else refl R ts i W)) ∧ Hid (Ext w1 wr)) (fun _ kk _ => (intOf kk + 1).toNat)
  case atStart => exact ⟨1, a2, c2, by omega, rfl, rfl, by rw [if_pos rfl]; exact HO2, HX2⟩
  case round =>
    clear HO2 HX2
    obtain ⟨k, a3, c3, hk, rfl, rfl, HO, HX⟩ := hrel
    by_cases hlt : k = 1
    · subst hlt
      rw [if_pos rfl] at HO
      obtain ⟨b, o, rfl, q⟩ := HI.out.one 0 (by omega)
      have HF : Hid (∀ w', Ext wr w' → w'.cell? ⟨b, o, none⟩ = some (.int .i64 i) ∧ CarAt w' w.heap.size R ta tn tc) := fun w' hx => ⟨by have := q w' ((HX1.out.trans HX.out).trans hx); simpa using this, HC.out w' (HX.out.trans hx)⟩
      clear q
      have hE : Ext wr wr.drew := Ext.drew wr
      go_wp2
      (refine walkR_start (fun w' => Ext wr w') 7 (by kernel_rfl) ?_; simp only [numbered, List.take_succ_cons, List.take_zero, Nat.zero_add, Nat.reduceAdd, List.length_cons, List.length_nil])
      (repeat (first | (refine walkR_still (v := ?_) rfl (by decide +kernel) rfl (fun _ _ _ h => h) hE ?_ ?_; rotate_left; (focus (intro w' hw'; obtain ⟨q1, f0, f1⟩ := HF.out w' hw'; go_simp; all_goals (with_reducible rfl))); simp only [Act.put, List.setIfInBounds_toArray, List.set_cons_zero, List.set_cons_succ]) | (refine walkR_skip rfl (by decide +kernel) rfl (fun _ _ _ h => h) hE ?_; simp only [Act.put, List.setIfInBounds_toArray, List.set_cons_zero, List.set_cons_succ])))
      (refine walkR_only (fun w' => Ext wr w') rfl (by decide +kernel) rfl (fun _ h => h) ?_; intro K hK; go_simp; refine (HRe.out _ ((HX1.out.trans HX.out).trans hE) a3 c3 (HO.out.below hE).ints HO.out.nil_cap).mono ?_; rintro e w3 ⟨a4, c4, rfl, ho4, hx4⟩; refine hK _ _ (hE.trans hx4) ?_; clear hK K; (try simp only [Act.put, List.setIfInBounds_toArray, List.set_cons_zero, List.set_cons_succ]))
      (refine walkR_tail (by rfl) (by kernel_rfl) ?_; simp only [List.drop_succ_cons, List.drop_zero])
      have HX3 := hidP (HX.out.trans (hE.trans hx4))
      have HO3 : Hid (OwnI w3 w.heap.size a4 R c4 (if 0 = 1 then W else refl R ts i W)) := by
        show OwnI _ _ _ _ _ _
        rw [if_neg (by omega)]
        exact ho4.base (Nat.le_trans HX1.out.size (Nat.le_trans HX.out.size hE.size))
      clear hE hx4 ho4
      go_wp2
      go_roundw
      case rel => exact ⟨0, a4, c4, by omega, rfl, by first | rfl | go_num, HO3, HX3⟩
      case measure => simp [intOf]
    · obtain rfl : k = 0 := by omega
      rw [if_neg (by omega)] at HO
      go_wp2
      go_ret
      exact ⟨_, _, rfl, HO.out, HX1.out.trans HX.out⟩
set_option maxHeartbeats 2000000 in
theorem actWeight_one (R : Nat) (ta : Option Addr) (tn tc : Nat) (ts : List Int) (a : Option Addr) (c : Nat) (i : Nat) (hi : i < R) (aw : Option Addr) (cw : Nat) (W : List Int) (w : World) (hc : IntsAt w ta tn ts) (hcn : tn ≤ 9223372036854775807) (hT : typeB R ts = true) (h : IntsAt w a 1 [(i : Int)]) (hw : IntsAt w aw R W) (hnil : aw = none → cw = 0) (hb : wayB R W = true) :
    Calls Tryz.prog 33 #[carV R ta tn tc, .slice a 1 c, .slice aw R cw] w fun e w' => ∃ a' c', e = .returned (.slice a' R c') ∧ OwnI w' w.heap.size a' R c' (refl R ts i W) ∧ Ext w w' := by
  have hx1 := Ext.alloc w (.cells #[.int .i64 R, .slice ta tn tc] 31)
  have HC := hidP (fun w' (hx : Ext (w.alloc (.cells #[.int .i64 R, .slice ta tn tc] 31)) w') => (CarAt.new w _ rfl (R : Int) ta tn tc 31).below hx)
  have HX1 := hidP hx1
  have hrk := typeB_rank hT
  have HWo := hidP (fun w' (hx : Ext w w') => wordOk_one R ta tn tc ts a c i hi w' (hc.below hx) hcn hT (h.below hx))
  have HLa := hidP (fun w' (hx : Ext w w') => l5Lattice_any R ta tn tc aw R cw W w' (hw.below hx) (by omega) (by omega))
  rw [hb] at HLa
  have HAc := hidP (fun w' (hx : Ext w w') => l6Act_one R ta tn tc ts a c i hi aw cw W w' (hc.below hx) hT (h.below hx) (hw.below hx) hnil hb)
  clear hc hT h hx1 hrk hw hnil hb
  obtain ⟨w1, hw1⟩ : ∃ w1, w1 = w.alloc (.cells #[.int .i64 R, .slice ta tn tc] 31) := ⟨_, rfl⟩
  rw [← hw1] at HC HX1
  obtain ⟨f0, f1⟩ := HC.out w1 (Ext.refl _)
  go_enter Tryz.func33, Tryz.ntmps33
  go_wp2_with fail
  rw [← hw1]
  clear hw1
  refine (HWo.out _ HX1.out).mono ?_
  rintro e w2 ⟨rfl, hx2⟩
  obtain ⟨z0, z1⟩ := HC.out w2 hx2
  have HX2 := hidP hx2
  clear f0 f1 hx2
  go_wp2_with fail
  refine (HLa.out _ (HX1.out.trans HX2.out)).mono ?_
  rintro e w3 ⟨rfl, hx3⟩
  have HX3 := hidP (HX2.out.trans hx3)
  obtain ⟨f0, f1⟩ := HC.out w3 HX3.out
  clear hx3 z0 z1
  go_wp2_with fail
  refine (HAc.out _ (HX1.out.trans HX3.out)).mono ?_
  rintro e w4 ⟨a4, c4, rfl, ho4, hx4⟩
  have HO4 := hidP (ho4.base (B' := w.heap.size) (HX1.out.trans HX3.out).size)
  have HX4 := hidP ((HX1.out.trans HX3.out).trans hx4)
  clear ho4 hx4 f0 f1
  go_wp2
  go_ret
  exact ⟨_, _, rfl, HO4.out, HX4.out⟩
theorem CrysCtx.refl {w0 w' : World} {R : Nat} {ts W : List Int} {ta : Option Addr} {tn tc : Nat} {a : Option Addr} {n c k i k2 : Nat} {q q2 : List Stp} (h : CrysCtx w0 R ts W ta tn) (hx : Ext w0 w') (hk : InCrys R ts W k q) (hs : StepsAt w' a n q) (hnc : n ≤ c) (hcc : c ≤ 9223372036854775807) (hi : i < R) (hr : RefP R ts W i k q k2 q2) :
    Calls Tryz.prog 27 #[carV R ta tn tc, .int .i64 i, .slice a n c] w' fun e w'' => ∃ a' n' c' hs', e = .returned (.tuple #[.slice a' n' c', .bool true]) ∧ OwnK stepK w'' w'.heap.size w''.heap.size a' n' c' hs' q2 ∧ Ext w' w'' := by
  have hp := hk.path h.cr
  have h1 := reflectPath_any R ta tn tc ts i a n c q w' (h.car w' hx) (by have := h.small; omega) hs hnc hcc (h.mx w' hx)
  have h2 : reflT R ts i q = (true, q2) := by
    unfold reflT
    rw [Int.toNat_natCast, h.ty, hp.1, Int.toNat_natCast, if_pos (by rfl), if_pos (insB_true.2 ⟨by omega, by omega⟩), hr.ref]
  rw [h2] at h1
  exact h1
end Go.Proofs.YtfikkfbnlegflaaGreatDoor

namespace Go.Proofs.YtfikkfbnlegflaaGreatDoor.fnPathReflections
open Go.RowKit

set_option maxRecDepth 100000 in
set_option maxHeartbeats 8000000 in
/-- The Go text returns true, and leaves what was there. -/
theorem walk (a : Option Addr) (n c : Nat) (bs : List Int) (w : World) (hb : BytesAt w a n bs) (hn : n ≤ 9223372036854775807) (hm : MaxL w) :
    Calls Tryz.prog 7 #[.slice a n c] w fun e w' => e = .returned (.bool true) ∧ Ext w w' := by
  by_cases hbig : 1048576 < n
  · have hbg := big_any a n c w
    rw [decide_eq_true hbig] at hbg
    clear hb hbig
    go_enter Tryz.func7, Tryz.ntmps7
    go_wp2_with fail
    refine hbg.mono ?_
    rintro e w1 ⟨rfl, rfl⟩
    go_wp2
    go_ret
    exact ⟨rfl, Ext.refl _⟩
  · have hbg := big_any a n c w
    rw [decide_eq_false hbig] at hbg
    have hdr := drawPath_any a n c bs w hb (by omega)
    have HMx := hidP (fun w' (hx : Ext w w') => hm.below hx)
    clear hb hbig hm
    go_enter Tryz.func7, Tryz.ntmps7
    go_wp2_with fail
    refine hbg.mono ?_
    rintro e w1 ⟨rfl, rfl⟩
    go_wp2_with fail
    refine hdr.mono ?_
    rintro e w2 ⟨t, i, j, ta, tc, aw, cw, W, pa, pn, pc, hs, p, k, rfl, hd, hx2⟩
    have hK := small_type t hd.ht
    have hCr := small_crys t hd.ht W hd.light
    have hWy := light_way hd.ht hd.light
    have hCa := hd.car
    have hWg := hd.wgt
    have hPa := hd.path
    have hIn := hd.crys
    have hiR := hd.hi
    have hjR := hd.hj
    have hRf := small_ref t hd.ht W hd.light
    have hWe := small_end hd.ht hd.light hd.crys
    have hTy := hK.ty
    have hrk := typeB_rank hTy
    clear hK hd hdr hbg
    generalize smallM t = ts at hCr hCa hIn hTy hrk hRf hWe
    generalize smallR t = R at hCr hWy hCa hWg hIn hiR hjR hTy hrk hRf hWe ⊢
    have hR4 : R ≤ 4 := by omega
    have hRR : R * R ≤ 16 := Nat.mul_le_mul hR4 hR4
    obtain ⟨m2, hm2⟩ : ∃ m2, m2 = R * R := ⟨_, rfl⟩
    rw [← hm2] at hCa hRR ⊢
    have HX := hidP (show CrysCtx w2 R ts W ta m2 from ⟨hTy, hCr, fun w' hx => (hCa.below hx).ints, hRR, fun w' hx => HMx.out w' (hx2.trans hx)⟩)
    have HC := hidP (fun w' (hx : Ext (w2.alloc (.cells #[.int .i64 R, .slice ta m2 tc] 31)) w') => (CarAt.new w2 w2.heap.size rfl R ta m2 tc 31).below hx)
    have hx3 := Ext.alloc w2 (.cells #[.int .i64 R, .slice ta m2 tc] 31)
    have HP0 := hidP (fun w' (hx : Ext w2 w') => (hPa.below hx).stepsAt)
    have HW0 := hidP (fun w' (hx : Ext w2 w') => hWg.below hx)
    have hp := hIn.path hCr
    have hroom := hPa.room
    have hpn : pn ≤ 60 := by have := (pathB_iff.1 hp.1).len; have := hPa.xl; omega
    have HIn := hidP hIn
    have hIn0 := hIn
    have hRf := hRf
    have HCr := hidP hCr
    have HTy := hidP hTy
    have HWy := hidP hWy
    have HP1 := hidP hp
    have HX2 := hidP hx2
    have hpc1 := hroom.1
    have hpc2 := hroom.2
    have HM2 := hidP hm2
    clear hm2 hCr hWy hCa hWg hPa hIn hTy hrk hp hroom hx2 HMx
    obtain ⟨w3, hw3⟩ : ∃ w3, w3 = w2.alloc (.cells #[.int .i64 R, .slice ta m2 tc] 31) := ⟨_, rfl⟩
    rw [← hw3] at HC hx3
    have HX3 := hidP hx3
    have HW3 : Hid (w2.alloc (.cells #[.int .i64 R, .slice ta m2 tc] 31) = w3) := hw3.symm
    clear hw3 hx3
    have HWe := hidP hWe
    have hk := hIn0.at_path
    have hchk := refChk_at hRf hk.1
    obtain ⟨q, hq⟩ := hIn0.reflect HCr.out hRf hiR
    obtain ⟨q2, hq2⟩ := hq.crys.reflect HCr.out hRf hiR
    simp only [refChk, Bool.and_eq_true, List.all_eq_true, List.mem_range, decide_eq_true_eq, beq_iff_eq] at hchk
    obtain ⟨⟨⟨_, hb2⟩, hb3⟩, hb4⟩ := hchk.2 i hiR
    have hb5 := hb4 j hjR
    have hne := hchk.1
    rw [hk.2] at hb3 hne
    rw [hb2] at hq2
    obtain rfl : q2 = p := hq2.crys.uniq hIn0
    have hqp := hq.crys.at_path.2
    rw [hqp] at hb3
    have HQ := hidP hq
    have HQ2 := hidP hq2
    have HEq : Hid (refl R ts i (endR R q2).2 = (endR R q).2) := hb3
    have HNe : Hid (0 < q2.length) := by
      show 0 < _
      rcases q2 with _ | ⟨_, _⟩
      · simp at hne
      · simp
    have HNz : Hid (∀ k, k < (crys R ts W).length → 0 < (pathAt (crys R ts W) k).length) := by
      show ∀ k, _
      intro k hk
      have h1 := refChk_at hRf hk
      simp only [refChk, Bool.and_eq_true] at h1
      rcases h2 : pathAt (crys R ts W) k with _ | ⟨_, _⟩
      · rw [h2] at h1; simp at h1
      · simp
    have HAlt : Hid (∀ (s : Nat), s ≤ 1000 → ∃ a b, InCrys R ts W (altTo (refTab R (crys R ts W)) i j s k) a ∧ InCrys R ts W (altTo (refTab R (crys R ts W)) j i s k) b ∧
        (∃ a2, RefP R ts W (if s % 2 = 0 then i else j) (altTo (refTab R (crys R ts W)) i j s k) a (altTo (refTab R (crys R ts W)) i j (s + 1) k) a2) ∧ ∃ b2, RefP R ts W (if s % 2 = 0 then j else i) (altTo (refTab R (crys R ts W)) j i s k) b (altTo (refTab R (crys R ts W)) j i (s + 1) k) b2) := by
      show ∀ s, _
      intro s
      induction s with
      | zero =>
        intro _
        exact ⟨q2, q2, hIn0, hIn0, hIn0.reflect HCr.out hRf (by rw [if_pos rfl]; exact hiR), hIn0.reflect HCr.out hRf (by rw [if_pos rfl]; exact hjR)⟩
      | succ s ih =>
        intro hs
        obtain ⟨a0, b0, _, _, ⟨a2, ha2⟩, b2, hb2'⟩ := ih (by omega)
        exact ⟨a2, b2, ha2.crys, hb2'.crys, ha2.crys.reflect HCr.out hRf (by split <;> assumption), hb2'.crys.reflect HCr.out hRf (by split <;> assumption)⟩
    clear hWe hk hchk hb2 hb3 hb4 hne hq hq2 hqp hIn0 hRf
    go_wp2_with fail
    rw [HW3.out]
    clear HW3
    refine (HX.out.refl HX3.out HIn.out (HP0.out _ HX3.out) hpc1 hpc2 hiR HQ.out).mono ?_
    rintro e w4 ⟨aQ, nQ, cQ, hsQ, rfl, hoQ, hx4⟩
    have HX4 := hidP hx4
    have HQ4 := hidP hoQ
    obtain ⟨f0, f1⟩ := HC.out w4 hx4
    clear hx4 hoQ
    go_wp2_with fail
    refine (HX.out.refl (HX3.out.trans HX4.out) HQ.out.crys HQ4.out.stepsAt HQ4.out.room.1 HQ4.out.room.2 hiR HQ2.out).mono ?_
    rintro e w5 ⟨aB, nB, cB, hsB, rfl, hoB, hx5⟩
    have HX5 := hidP (HX4.out.trans hx5)
    have HB5 := hidP hoB
    have HQ5 := hidP (HQ4.out.below hx5)
    obtain ⟨g0, g1⟩ := HC.out w5 HX5.out
    clear hx5 hoB f0 f1
    go_wp2_with fail
    refine (HX.out.end_ (HX3.out.trans HX5.out) HIn.out (HP0.out _ (HX3.out.trans HX5.out))).mono ?_
    rintro e w6 ⟨aE, cE, rfl, hoE, hx6⟩
    have HX6 := hidP (HX5.out.trans hx6)
    have HB6 := hidP (HB5.out.below hx6)
    have HQ6 := hidP (HQ5.out.below hx6)
    have HE6 := hidP hoE
    obtain ⟨f0, f1⟩ := HC.out w6 HX6.out
    clear hx6 hoE g0 g1
    go_wp2_with fail
    refine (HX.out.end_ (HX3.out.trans HX6.out) HQ.out.crys HQ6.out.stepsAt).mono ?_
    rintro e w7 ⟨aF, cF, rfl, hoF, hx7⟩
    have HX7 := hidP (HX6.out.trans hx7)
    have HB7 := hidP (HB6.out.below hx7)
    have HE7 := hidP (HE6.out.below hx7)
    have HF7 := hidP hoF
    have HPt := hidP (lPaths_any aB pa nB pn cB pc q2 q2 w7 HB7.out.stepsAt (HP0.out _ (HX3.out.trans HX7.out)) (by have := HB7.out.xl; have := (HP0.out _ (HX3.out.trans HX7.out)).len; omega) (by omega))
    rw [beq_self_eq_true] at HPt
    clear hx7 hoF f0 f1
    go_wp2_with fail
    refine HPt.out.mono ?_
    rintro e w8 ⟨rfl, hx8⟩
    have HX8 := hidP (HX7.out.trans hx8)
    have HE8 := hidP (HE7.out.below hx8)
    have HF8 := hidP (HF7.out.below hx8)
    have hxa := Ext.alloc w8 (.cells #[.int .i64 i] 3)
    have hia : IntsAt (w8.alloc (.cells #[.int .i64 i] 3)) (some ⟨w8.heap.size, 0, none⟩) 1 [(i : Int)] := ints_alloc w8 [(i : Int)] 3
    have HX9 := hidP (HX8.out.trans hxa)
    have HE9 := hidP (HE8.out.below hxa)
    have HF9 := hidP (HF8.out.below hxa)
    have HIa := hidP hia
    obtain ⟨g0, g1⟩ := HC.out _ HX8.out
    clear hx8 hxa hia HPt
    go_wp2_with fail
    refine (actWeight_one R ta m2 tc ts _ 1 i hiR aE cE (endR R q2).2 _ (HX.out.car _ (HX3.out.trans HX9.out)) (by omega) HTy.out HIa.out HE9.out.ints HE9.out.nil_cap HWe.out).mono ?_
    rintro e w10 ⟨aA, cA, rfl, hoA, hx10⟩
    have HX10 := hidP (HX9.out.trans hx10)
    rw [HEq.out] at hoA
    have HIt := hidP (lIntsX_any aA aF R R cA cF (endR R q).2 (endR R q).2 w10 hoA.ints (HF9.out.below hx10).ints (by omega) (by omega))
    rw [beq_self_eq_true] at HIt
    clear hx10 hoA g0 g1
    go_wp2_with fail
    refine HIt.out.mono ?_
    rintro e w11 ⟨rfl, hx11⟩
    have HX11 := hidP (HX10.out.trans hx11)
    clear hx11 HIt
    obtain ⟨P1, hP1⟩ : ∃ P, P = i * R := ⟨_, rfl⟩
    obtain ⟨P2, hP2⟩ : ∃ P, P = j * R := ⟨_, rfl⟩
    obtain ⟨K1, hK1⟩ : ∃ K, K = i * R + j := ⟨_, rfl⟩
    obtain ⟨K2, hK2⟩ : ∃ K, K = j * R + i := ⟨_, rfl⟩
    have hp1 : (i : Int) * (R : Int) = (P1 : Int) := by rw [hP1, Int.natCast_mul]
    have hp2 : (j : Int) * (R : Int) = (P2 : Int) := by rw [hP2, Int.natCast_mul]
    have hk1 : (P1 : Int) + (j : Int) = (K1 : Int) := by rw [hK1, ← hP1]; omega
    have hk2 : (P2 : Int) + (i : Int) = (K2 : Int) := by rw [hK2, ← hP2]; omega
    have hlt1 : K1 < m2 := by
      rw [hK1, HM2.out]
      have : (i + 1) * R ≤ R * R := Nat.mul_le_mul_right _ hiR
      rw [Nat.add_mul] at this
      omega
    have hlt2 : K2 < m2 := by
      rw [hK2, HM2.out]
      have : (j + 1) * R ≤ R * R := Nat.mul_le_mul_right _ hjR
      rw [Nat.add_mul] at this
      omega
    have hle1 : P1 ≤ K1 := by omega
    have hle2 : P2 ≤ K2 := by omega
    have hw1 : IntKind.i64.wrap (P1 : Int) = (P1 : Int) := wrap_in (by omega) (by omega)
    have hw2 : IntKind.i64.wrap (P2 : Int) = (P2 : Int) := wrap_in (by omega) (by omega)
    have hw3 : IntKind.i64.wrap (K1 : Int) = (K1 : Int) := wrap_in (by omega) (by omega)
    have hw4 : IntKind.i64.wrap (K2 : Int) = (K2 : Int) := wrap_in (by omega) (by omega)
    have hcar := HX.out.car w11 (HX3.out.trans HX11.out)
    obtain ⟨b1, o1, hta, qc1⟩ := hcar.one K1 hlt1
    obtain ⟨b2, o2, hta2, qc2⟩ := hcar.one K2 hlt2
    rw [hta] at hta2
    simp only [Option.some.injEq, Addr.mk.injEq, and_true] at hta2
    obtain ⟨rfl, rfl⟩ := hta2
    have e1 := typeB_entry HTy.out K1
    have e2 := typeB_entry HTy.out K2
    rw [← hK1, ← hK2] at hb5
    have HBr : Hid (braidN R ts i j = [2, 3, 4, 6].getD (ts.getD K1 0 * ts.getD K2 0).toNat 0) := by show _ = _; rw [hK1, hK2]; rfl
    obtain ⟨X, hX⟩ : ∃ X, X = ts.getD K1 0 := ⟨_, rfl⟩
    obtain ⟨Y, hY⟩ : ∃ Y, Y = ts.getD K2 0 := ⟨_, rfl⟩
    rw [← hX] at qc1 e1 hb5 HBr
    rw [← hY] at qc2 e2 hb5 HBr
    have e3 := mul_bd (A := 3) (B := 3) (⟨by omega, by omega⟩ : -3 ≤ X ∧ X ≤ 3) (⟨by omega, by omega⟩ : -3 ≤ Y ∧ Y ≤ 3)
    have hw5 : IntKind.i64.wrap (X * Y) = X * Y := wrap_in (by omega) (by omega)
    have HF : Hid (∀ w', Ext w11 w' → CarAt w' w2.heap.size R ta m2 tc ∧ w'.cell? ⟨b1, o1 + K1, none⟩ = some (.int .i64 X) ∧ w'.cell? ⟨b1, o1 + K2, none⟩ = some (.int .i64 Y)) := fun w' h => ⟨HC.out w' (HX11.out.trans h), qc1 w' h, qc2 w' h⟩
    have HTa := hidP hta
    rw [hta] at HF
    have hK10 : (0 : Int) ≤ (K1 : Int) := by omega
    have hK11 : (K1 : Int) < (m2 : Int) := by omega
    have hK20 : (0 : Int) ≤ (K2 : Int) := by omega
    have hK21 : (K2 : Int) < (m2 : Int) := by omega
    have HB5 := hidP hb5
    clear hP1 hP2 hK1 hK2 hle1 hle2 hcar hta qc1 qc2 e1 e2 e3 hX hY hb5
    have hE : Ext w11 w11.drew := Ext.drew w11
    go_wp2
    (refine walkR_start (fun w' => Ext w11 w') 21 (by kernel_rfl) ?_; simp only [numbered, List.take_succ_cons, List.take_zero, Nat.zero_add, Nat.reduceAdd, List.length_cons, List.length_nil])
    (repeat (first | (refine walkR_still (v := ?_) rfl (by decide +kernel) rfl (fun _ _ _ h => h) hE ?_ ?_; rotate_left; (focus (intro w' hw'; obtain ⟨⟨f0, f1⟩, q1, q2⟩ := HF.out w' hw'; go_simp; all_goals (with_reducible rfl))); simp only [Act.put, List.setIfInBounds_toArray, List.set_cons_zero, List.set_cons_succ]) | (refine walkR_skip rfl (by decide +kernel) rfl (fun _ _ _ h => h) hE ?_; simp only [Act.put, List.setIfInBounds_toArray, List.set_cons_zero, List.set_cons_succ])))
    (refine walkR_tail (by rfl) (by kernel_rfl) ?_; simp only [List.drop_succ_cons, List.drop_zero])
    have HX12 := hidP (HX11.out.trans hE)
    clear hE
    by_cases hij : i = j
    · have hb : ((i : Int) == (j : Int)) = true := by simp [hij]
      have HXz := hidP ((HX2.out.trans HX3.out).trans HX12.out)
      clear hij
      go_wp2
      go_ret
      exact ⟨rfl, HXz.out⟩
    · have hb : ((i : Int) == (j : Int)) = false := beq_eq_false_iff_ne.2 (by omega)
      have hb5 := HB5.out
      simp only [Bool.or_eq_true, Bool.and_eq_true, beq_iff_eq, decide_eq_true_eq] at hb5
      have hb6 : (0 ≤ X * Y ∧ X * Y ≤ 3) ∧ altTo (refTab R (crys R ts W)) i j (braidN R ts i j) k = altTo (refTab R (crys R ts W)) j i (braidN R ts i j) k := by
        rcases hb5 with h | h
        · exact absurd h hij
        · exact h
      obtain ⟨Nn, hNn⟩ : ∃ Nn : Nat, X * Y = (Nn : Int) := ⟨(X * Y).toNat, by omega⟩
      have hN3 : Nn ≤ 3 := by omega
      obtain ⟨M, hM⟩ : ∃ M : Nat, M = braidN R ts i j := ⟨_, rfl⟩
      have hMv : M = [2, 3, 4, 6].getD Nn 0 := by rw [hM, HBr.out, hNn]; rfl
      have hM6 : M ≤ 6 := by
        rw [hMv]
        rcases (by omega : Nn = 0 ∨ Nn = 1 ∨ Nn = 2 ∨ Nn = 3) with rfl | rfl | rfl | rfl <;> decide
      have HBrd : Hid (altTo (refTab R (crys R ts W)) i j M k = altTo (refTab R (crys R ts W)) j i M k) := by rw [hM]; exact hb6.2
      have hcellM : ((w11.alloc (.cells #[.int .i64 2, .int .i64 3, .int .i64 4, .int .i64 6] 3)).drew).cell? ⟨w11.heap.size, Nn, none⟩ = some (.int .i64 M) := by
        show (w11.alloc (.cells #[.int .i64 2, .int .i64 3, .int .i64 4, .int .i64 6] 3)).cell? ⟨w11.heap.size, Nn, none⟩ = _
        rw [cell_top _ _ _ _ _ rfl, hMv]
        rcases (by omega : Nn = 0 ∨ Nn = 1 ∨ Nn = 2 ∨ Nn = 3) with rfl | rfl | rfl | rfl <;> rfl
      have HXm := hidP ((HX11.out.trans (Ext.alloc w11 (.cells #[.int .i64 2, .int .i64 3, .int .i64 4, .int .i64 6] 3))).trans (Ext.drew _))
      have hN0 : (0 : Int) ≤ (Nn : Int) := by omega
      have hN4 : (Nn : Int) < 4 := by omega
      rw [hNn] at hw5 ⊢
      clear hij hb5 hb6 hNn hM hMv
      go_wp2
      obtain ⟨wm, hwm⟩ : ∃ wm, wm = (w11.alloc (.cells #[.int .i64 2, .int .i64 3, .int .i64 4, .int .i64 6] 3)).drew := ⟨_, rfl⟩
      rw [← hwm] at HXm ⊢
      clear hwm hcellM
      go_loopw [18, 19, 20] (fun aa bb ss wr => ∃ (s : Nat) (A1 : Option Addr) (A2 A3 : Nat) (B1 : Option Addr) (B2 B3 : Nat) (pA pB : List Stp), s ≤ M ∧ aa = .slice A1 A2 A3 ∧ bb = .slice B1 B2 B3 ∧ ss = .int .i64 s ∧
        (A2 ≤ A3 ∧ A3 ≤ 9223372036854775807 ∧ B2 ≤ B3 ∧ B3 ≤ 9223372036854775807) ∧ Hid (StepsAt wr A1 A2 pA) ∧ Hid (StepsAt wr B1 B2 pB) ∧ Hid (InCrys R ts W (altTo (refTab R (crys R ts W)) i j s k) pA) ∧ Hid (InCrys R ts W (altTo (refTab R (crys R ts W)) j i s k) pB) ∧ Hid (Ext w3 wr)) (fun _ _ ss _ => M - (intOf ss).toNat)
      case atStart => exact ⟨0, pa, pn, pc, pa, pn, pc, q2, q2, Nat.zero_le _, rfl, rfl, rfl, ⟨hpc1, hpc2, hpc1, hpc2⟩, HP0.out _ (HX3.out.trans HXm.out), HP0.out _ (HX3.out.trans HXm.out), HIn, HIn, HXm⟩
      case round =>
        clear HXm
        obtain ⟨s, A1, A2, A3, B1, B2, B3, pA, pB, hs, rfl, rfl, rfl, ⟨ra1, ra2, rb1, rb2⟩, HA, HB, HKA, HKB, HXr⟩ := hrel
        obtain ⟨f0, f1⟩ := HC.out _ HXr.out
        by_cases hlt : s < M
        · obtain ⟨a0, b0, ha0, hb0, ⟨a2, ha2⟩, c2, hc2⟩ := HAlt.out s (by omega)
          obtain rfl : a0 = pA := ha0.uniq HKA.out
          obtain rfl : b0 = pB := hb0.uniq HKB.out
          clear ha0 hb0
          by_cases hpar : s % 2 = 0
          · have hmod : (s : Int).tmod 2 = 0 := by rw [Int.tmod_eq_emod_of_nonneg (by omega)]; omega
            rw [if_pos hpar] at ha2 hc2
            have HA2 := hidP ha2
            have HC2 := hidP hc2
            clear ha2 hc2 hpar
            go_wp2_with fail
            refine (HX.out.refl (HX3.out.trans HXr.out) HKA.out HA.out ra1 ra2 hiR HA2.out).mono ?_
            rintro e wa ⟨u1, u2, u3, u4, rfl, hou, hxu⟩
            have HXu := hidP (HXr.out.trans hxu)
            have HOu := hidP hou
            have HBu := hidP (HB.out.below hxu)
            obtain ⟨g0, g1⟩ := HC.out _ HXu.out
            clear hou hxu f0 f1
            go_wp2_with fail
            refine (HX.out.refl (HX3.out.trans HXu.out) HKB.out HBu.out rb1 rb2 hjR HC2.out).mono ?_
            rintro e wb ⟨v1, v2, v3, v4, rfl, hov, hxv⟩
            have HXv := hidP (HXu.out.trans hxv)
            have HNa := hidP ((HOu.out.below hxv).stepsAt)
            have HNb := hidP hov.stepsAt
            have hr1 := HOu.out.room
            have hr2 := hov.room
            have HKA2 := hidP HA2.out.crys
            have HKB2 := hidP HC2.out.crys
            clear hov hxv g0 g1 HOu HBu HA HB HXr HXu
            go_wp2
            go_roundw
            case rel => exact ⟨s + 1, u1, u2, u3, v1, v2, v3, a2, c2, by omega, rfl, rfl, by go_num, ⟨hr1.1, hr1.2, hr2.1, hr2.2⟩, HNa, HNb, HKA2, HKB2, HXv⟩
            case measure => simp [intOf]; omega
          · have hmod : (s : Int).tmod 2 = 1 := by rw [Int.tmod_eq_emod_of_nonneg (by omega)]; omega
            rw [if_neg hpar] at ha2 hc2
            have HA2 := hidP ha2
            have HC2 := hidP hc2
            clear ha2 hc2 hpar
            go_wp2_with fail
            refine (HX.out.refl (HX3.out.trans HXr.out) HKA.out HA.out ra1 ra2 hjR HA2.out).mono ?_
            rintro e wa ⟨u1, u2, u3, u4, rfl, hou, hxu⟩
            have HXu := hidP (HXr.out.trans hxu)
            have HOu := hidP hou
            have HBu := hidP (HB.out.below hxu)
            obtain ⟨g0, g1⟩ := HC.out _ HXu.out
            clear hou hxu f0 f1
            go_wp2_with fail
            refine (HX.out.refl (HX3.out.trans HXu.out) HKB.out HBu.out rb1 rb2 hiR HC2.out).mono ?_
            rintro e wb ⟨v1, v2, v3, v4, rfl, hov, hxv⟩
            have HXv := hidP (HXu.out.trans hxv)
            have HNa := hidP ((HOu.out.below hxv).stepsAt)
            have HNb := hidP hov.stepsAt
            have hr1 := HOu.out.room
            have hr2 := hov.room
            have HKA2 := hidP HA2.out.crys
            have HKB2 := hidP HC2.out.crys
            clear hov hxv g0 g1 HOu HBu HA HB HXr HXu
            go_wp2
            go_roundw
            case rel => exact ⟨s + 1, u1, u2, u3, v1, v2, v3, a2, c2, by omega, rfl, rfl, by go_num, ⟨hr1.1, hr1.2, hr2.1, hr2.2⟩, HNa, HNb, HKA2, HKB2, HXv⟩
            case measure => simp [intOf]; omega
        · obtain rfl : M = s := by omega
          have hab : pA = pB := by
            have h1 := HKA.out
            rw [HBrd.out] at h1
            exact h1.uniq HKB.out
          subst hab
          have hpl := (pathB_iff.1 (HKA.out.path HCr.out).1).len
          have hal := HA.out.len
          have hbl := HB.out.len
          have hpos : 0 < A2 := by
            rw [← hal]
            have hk := HKA.out.at_path
            have h1 := HNz.out _ hk.1
            rw [hk.2] at h1
            exact h1
          have HPt := hidP (lPaths_any A1 B1 A2 B2 A3 B3 pA pA wr HA.out HB.out (by omega) (by omega))
          rw [beq_self_eq_true] at HPt
          have hposI : (0 : Int) < (A2 : Int) := by omega
          clear hpl hal hbl hpos
          go_wp2_with fail
          refine HPt.out.mono ?_
          rintro e wz ⟨rfl, hxz⟩
          have HXz := hidP ((HX2.out.trans HX3.out).trans (HXr.out.trans hxz))
          clear hxz HPt
          go_wp2
          go_ret
          exact ⟨rfl, HXz.out⟩
end Go.Proofs.YtfikkfbnlegflaaGreatDoor.fnPathReflections

namespace Go.Proofs.YtfikkfbnlegflaaGreatDoor.fnPathReflections
open Go.ChangeShapes Go.WideShapes Go.ChangeAt Go.RowKit
set_option linter.unusedVariables false

theorem maxL_of {W : World} (h : W.ShapedOpen Tryz.prog) : MaxL W :=
  cell_of_shapedOpen_int (P := Tryz.prog) (g := 0) (t := 3) (zero := #[.int .i64 0]) h (of_decide_eq_true (by kernel_rfl)) (by kernel_rfl) rfl (by kernel_rfl) (by kernel_rfl) Tryz.underlying3

theorem own : ownKnob Tryz.prog.godebug = none := by kernel_rfl
theorem laidOut : laidOutB Tryz.prog = true := by kernel_rfl
/-! ### THE ROW's STEP -/
set_option maxRecDepth 100000 in
theorem lifted (os : Os) (started : os.Started) (H : Type) (enc : TypeId × Value → H) :
    ReturnsInHanded {} Tryz.checked os 7 .any (fun w args => (Rows.fnPathReflectionsSpec.pre enc Tryz.prog Tryz.f7 [] false w args ∧ laidMetH Tryz.prog Rows.fnPathReflectionsRow.laid w) ∧ sizedMet enc Tryz.prog Tryz.f7 (OpenSpec.ofChange Rows.fnPathReflectionsSpec) false w args)
      (Rows.fnPathReflectionsSpec.post enc Tryz.prog Tryz.f7 false true false false) := by
  refine returnsInHanded_of_calls (C := Tryz.checked) own started (by kernel_rfl)
    (ChangeSpec.witness_shaped (enc := enc) (C := Tryz.checked) (os := os) (X := fun w _ => laidMetH Tryz.prog Rows.fnPathReflectionsRow.laid w) false (World.laidAll Tryz.prog os Rows.fnPathReflectionsRow.laid) #[.slice none 0 0] 8 (World.laidAll_os _ _ _)
      (World.shaped_of_ZipB (by kernel_rfl) (by kernel_rfl)) (by kernel_rfl) (by kernel_rfl) (by kernel_rfl)
      (by rw [MakeChecks.laidMetH_plain _ _ _ (by kernel_rfl)]; exact laidMet_laidAll _ (by kernel_rfl) (by kernel_rfl))) ?_
  intro w0 tape i _ hsh0 _ hok hpre _
  obtain ⟨_, _, _, fn', hfn', _, _, _, _, hval1⟩ := hok
  obtain rfl : fn' = Tryz.f7 := Option.some.inj (hfn'.symm.trans Tryz.func7)
  obtain ⟨⟨⟨ds, gs, before, hw, _⟩, hx⟩, _⟩ := hpre
  have hW0 := DataW.Whole.of_heap (w' := w0.forCall tape i) (by rfl) hw
  have hmax0 : MaxL (w0.forCall tape i) := maxL_of hsh0
  suffices hS : Calls Tryz.prog 7 i.args (w0.forCall tape i) fun e W' => ∃ v, e = .returned v ∧ Rows.fnPathReflectionsSpec.post enc Tryz.prog Tryz.f7 false true false false (w0.forCall tape i) i.args v W' from
    hS.mono fun e W' ⟨v, he, hp⟩ => by subst he; exact ChangeSpec.post_blind hp
  clear hw hx hfn' hsh0
  obtain ⟨W, eW⟩ : ∃ W, W = w0.forCall tape i := ⟨_, rfl⟩
  obtain ⟨args, eA⟩ : ∃ args, args = i.args := ⟨_, rfl⟩
  obtain ⟨base, eB⟩ : ∃ base, base = w0.heap.size := ⟨_, rfl⟩
  rw [← eW, ← eA] at hW0 hval1 ⊢
  rw [← eB] at hval1
  rw [← eW] at hmax0
  clear eW eA eB
  have hW := hW0
  have hval0 := hval1
  have hval : ∀ (j : Nat) t v, Tryz.f7.params[j]? = some t → args[j]? = some v → Value.okWide Tryz.prog W .any base t v := hval0
  have hW' := hW
  obtain ⟨p, q, hA0, hV, rfl, hfz, hnd⟩ := hW
  have hA : DataW.TrodAll enc Tryz.prog W 0 (fun _ => true) true Tryz.f7.params.toList args.toList ds p := hA0
  rw [Tryz.params7] at hA hval
  obtain ⟨v0, vs0, d0, ds0, p0, q0, hargs, rfl, rfl, h0, r0⟩ := trodAll_cons hA
  obtain ⟨rfl, rfl, rfl⟩ := trodAll_nil r0
  obtain rfl : args = #[v0] := by cases args; simp_all
  obtain ⟨rfl, rfl⟩ := trodVars_none hV
  have lt0 : ∀ x ∈ p0, x.block < W.heap.size := fun x hx => hW'.lt x (by simp [hx])
  obtain ⟨z0, l0, m0, rfl⟩ := okWide_slice Tryz.underlying41 (hval 0 41 v0 rfl rfl)
  obtain ⟨fuel0, hf0⟩ := id h0
  obtain ⟨e0, n0, k0, xs0, q0, i0, s0⟩ := bytes_in Tryz.underlying41 Tryz.underlying5 (by kernel_rfl) hf0
  simp only [Value.cells, List.cons.injEq, and_true, Value.slice.injEq] at q0
  obtain ⟨rfl, rfl, rfl⟩ := q0
  clear hA0 hval0
  refine (walk z0 l0 m0 xs0 W i0 s0 hmax0).mono fun e W' ⟨he, bel⟩ => ?_
  subst he
  exact ⟨_, rfl, _, _, _, [], _, [], hW', trodAll_mk1 (shut_bool Tryz.underlying4 _), (trodAll_cons_mk (Below.trod laidOut (by kernel_rfl) (of_decide_eq_true (by kernel_rfl)) h0 bel lt0) trodAll_mk0), rfl, bel.frame _, fun h => by cases h⟩

theorem over : Rows.FnPathReflectionsSaid :=
  OpenClaim.holds_of_wide 7 Tryz.f7 rfl rfl rfl rfl rfl rfl rfl ⟨rfl, rfl, rfl, rfl, rfl⟩ rfl rfl rfl rfl rfl (by kernel_rfl) Tryz.func7 (by kernel_rfl)
    (of_decide_eq_true (by kernel_rfl)) (by unfold Func.isWrapper; first | (rw [if_pos (by decide +kernel)]; kernel_rfl) | (rw [if_neg (by decide +kernel)]; exact ⟨rfl, rfl⟩))
    (fun os started H enc _ => lifted os started H enc)

/-- THE STATEMENT: the tied card -/
theorem proved : Rows.FnPathReflectionsCardSaid :=
  Claim7.holds_tied_plain_at .later [] [.data, .pinned] true _ false
    over (fun _ h => by cases h) (by kernel_rfl) (fun _ h => by cases h) fnPathReflections_row_tie rfl ⟨rfl, rfl⟩ (by kernel_rfl) rfl
    (fun f fn hf hfn => by
      obtain rfl : f = 7 := Option.some.inj ((show Tryz.prog.funcNamed Rows.fnPathReflectionsRow.func = some 7 from (by kernel_rfl)).symm.trans hf) |>.symm
      obtain rfl : fn = Tryz.f7 := (Option.some.inj (Tryz.func7.symm.trans hfn)).symm
      refine ⟨by kernel_rfl, fun j t ht => ?_⟩
      have hall : (Tryz.f7.params.toList.all fun t => !Tryz.prog.wantsStandIn t) = true := by kernel_rfl
      have hm : t ∈ Tryz.f7.params.toList := by rw [Array.mem_toList_iff]; exact Array.mem_of_getElem? ht
      have := List.all_eq_true.1 hall t hm
      exact (show Tryz.prog.wantsStandIn t = false by simpa using this))
    (by kernel_rfl)
#print axioms proved

end Go.Proofs.YtfikkfbnlegflaaGreatDoor.fnPathReflections
