/-
  slices.DeleteFunc at steps of no time.
  Owned slices of elements as lists of an address and an element each; rows whose elements are moved about.
  The law's own functions on Cartan matrices and on sessions: eqCartan, markCartan, heldCartan, eqSession, markSession, heldSession.
  Algebras as values: the law's own functions on them, and AbelianAlgebra of both packages.
  The times at which heights are met: crossing, l9Cross; l9Within.
  Simple reflections of a weight, the program's and the reference's; the times at which heights are met.
  Heights of the program's paths and of the reference's.
  Paths of the program: JoinPaths.
  TypeOf and IsCartan of the program.
  CartanOf of the program, at the names of types.
  The program's lists of types.
  Matrices put one after the other, by the program.
-/
import Derived.Test.YtfikkfbnlegflaaGreatDoorMh4
import Derived.Maps.AppendAt
import Derived.Lib.SliceRun
namespace Go.Proofs.YtfikkfbnlegflaaGreatDoor
open Go.RowKit

/-- matrices of types of one part, as elements of a slice -/
def carK : Knd (Int × List Int) where
  E := 31
  size := 2
  dft := (0, [])
  ints := fun x => x.2
  put := fun x ys => (x.1, ys)
  cells := fun a c x => [.int .i64 x.1, .slice a x.2.length c]
  len := fun _ _ _ => rfl
  pos := by decide
  ne := by decide
  put_ints := fun _ _ => rfl
  put_cells := fun a c x ys h => by simp only [h]
  one := fun a c x u hu => by simp only [List.mem_cons, List.not_mem_nil, or_false] at hu; rcases hu with rfl | rfl <;> rfl
def partP (k : Nat) : Int × List Int := (pRank k, pMat k)
theorem pMat_length : ∀ k, k < 12 → (pMat k).length = pRank k * pRank k := by decide
/-- a slice of matrices of types, read -/
structure CarsAt (w : World) (a : Option Addr) (n : Nat) (ks : List Nat) : Prop where
  len : ks.length = n
  get : ∀ i, i < n → ∃ b o a' c', a = some ⟨b, o, none⟩ ∧ w.cell? ⟨b, o + i * 2, none⟩ = some (.int .i64 (pRank (ks.getD i 0))) ∧ w.cell? ⟨b, o + i * 2 + 1, none⟩ = some (.slice a' (pRank (ks.getD i 0) * pRank (ks.getD i 0)) c') ∧
    IntsAt w a' (pRank (ks.getD i 0) * pRank (ks.getD i 0)) (pMat (ks.getD i 0))
theorem CarsAt.below {w w' : World} {a : Option Addr} {n : Nat} {ks : List Nat} (h : CarsAt w a n ks) (hb : Ext w w') : CarsAt w' a n ks := by
  refine ⟨h.len, fun i hi => ?_⟩
  obtain ⟨b, o, a', c', rfl, h0, h1, h2⟩ := h.get i hi
  exact ⟨b, o, a', c', rfl, (hb.cell (p := ⟨b, o + i * 2, none⟩) (World.block_lt_of_cell? w _ h0)).trans h0, (hb.cell (p := ⟨b, o + i * 2 + 1, none⟩) (World.block_lt_of_cell? w _ h1)).trans h1, h2.below hb⟩
theorem OwnK.cars {w : World} {B U : Nat} {a : Option Addr} {n c : Nat} {hs : List Hdr} {ks : List Nat} (h : OwnK carK w B U a n c hs (ks.map partP)) (hk : ∀ k ∈ ks, k < 12) : CarsAt w a n ks := by
  have hl : ks.length = n := by simpa using h.xl
  refine ⟨hl, fun i hi => ?_⟩
  have e : (ks.map partP).getD i carK.dft = partP (ks.getD i 0) := by simp [List.getD_eq_getElem?_getD, show i < ks.length by omega]
  have hki : ks.getD i 0 < 12 := hk _ (getD_mem (by omega))
  have hlen := pMat_length _ hki
  obtain ⟨g, rfl, hc0, _⟩ := h.cell i 0 hi (by decide)
  obtain ⟨g', e', hc1, _⟩ := h.cell i 1 hi (by decide)
  simp only [Option.some.injEq, Addr.mk.injEq, and_true] at e'
  subst e'
  have he := h.each i hi
  rw [e] at hc0 hc1 he
  refine ⟨g, 0, (hs.getD i (none, 0)).1, (hs.getD i (none, 0)).2, rfl, ?_, ?_, ?_⟩
  · rw [Nat.zero_add]
    exact hc0
  · rw [Nat.zero_add, ← hlen]
    exact hc1
  · rw [← hlen]
    exact he.ints

/-! ### the writes -/
def applyW (ws : List (Nat × Int)) (l : List Int) : List Int := ws.foldl (fun l p => l.set p.1 p.2) l
theorem applyW_snoc (ws : List (Nat × Int)) (p : Nat × Int) (l : List Int) : applyW (ws ++ [p]) l = (applyW ws l).set p.1 p.2 := by simp [applyW]
theorem applyW_append (a b : List (Nat × Int)) (l : List Int) : applyW (a ++ b) l = applyW b (applyW a l) := by simp [applyW]
def wRow (R o k i j : Nat) : List (Nat × Int) := (List.range j).map fun q => ((o + i) * R + o + q, atM (pMat k) (pRank k) i q)
def wBlk (R o k i : Nat) : List (Nat × Int) := (List.range i).flatMap fun p => wRow R o k p (pRank k)
def offK (ks : List Nat) (k : Nat) : Nat := rankL (ks.take k)
def wTo (R : Nat) (ks : List Nat) (k : Nat) : List (Nat × Int) := (List.range k).flatMap fun q => wBlk R (offK ks q) (ks.getD q 0) (pRank (ks.getD q 0))
theorem wRow_succ (R o k i j : Nat) : wRow R o k i (j + 1) = wRow R o k i j ++ [((o + i) * R + o + j, atM (pMat k) (pRank k) i j)] := by simp [wRow, List.range_succ]
theorem wBlk_succ (R o k i : Nat) : wBlk R o k (i + 1) = wBlk R o k i ++ wRow R o k i (pRank k) := by simp [wBlk, List.range_succ]
theorem wTo_succ (R : Nat) (ks : List Nat) (k : Nat) : wTo R ks (k + 1) = wTo R ks k ++ wBlk R (offK ks k) (ks.getD k 0) (pRank (ks.getD k 0)) := by simp [wTo, List.range_succ]
theorem offK_succ (ks : List Nat) : ∀ (k : Nat), k < ks.length → offK ks (k + 1) = offK ks k + pRank (ks.getD k 0) := by
  induction ks with
  | nil => intro k h; simp at h
  | cons x xs ih =>
    intro k h
    cases k with
    | zero => simp [offK, rankL_cons]; simp [rankL]
    | succ k =>
      have := ih k (by simpa using h)
      unfold offK at this ⊢
      rw [List.take_succ_cons, List.take_succ_cons, rankL_cons, rankL_cons, this]
      simp
      omega
theorem offK_all (ks : List Nat) : offK ks ks.length = rankL ks := by unfold offK; rw [List.take_length]
theorem offK_le (ks : List Nat) : ∀ (d k : Nat), k + d ≤ ks.length → offK ks k ≤ offK ks (k + d)
  | 0, k, _ => Nat.le_refl _
  | d + 1, k, h => by
    have := offK_le ks d k (by omega)
    have h2 := offK_succ ks (k + d) (by omega)
    rw [Nat.add_assoc] at h2
    omega
def allTypes : List (List Nat) := typesL 5 1 0 ++ typesL 5 2 0 ++ typesL 5 3 0 ++ typesL 5 4 0
theorem joined_eq : ∀ ks ∈ allTypes, applyW (wTo (rankL ks) ks ks.length) (List.replicate (rankL ks * rankL ks) 0) = blockL ks := by decide +kernel
theorem types_all : ∀ ks ∈ allTypes, (∀ k ∈ ks, k < 12) ∧ 1 ≤ rankL ks ∧ rankL ks ≤ 4 ∧ ks.length ≤ 4 := by decide +kernel

/-- sums for the place of a block's entry -/
structure PlaceG (o i j R : Nat) : Prop where
  w0 : IntKind.i64.wrap ((o : Int) + i) = (o : Int) + i
  w1 : IntKind.i64.wrap (((o : Int) + i) * R) = ((o : Int) + i) * R
  w2 : IntKind.i64.wrap (((o : Int) + i) * R + o) = ((o : Int) + i) * R + o
  w3 : IntKind.i64.wrap (((o : Int) + i) * R + o + j) = ((o : Int) + i) * R + o + j
  p0 : 0 ≤ ((o : Int) + i) * R + o + j
  p1 : ((o : Int) + i) * R + o + j < (R : Int) * R
  pn : (((o : Int) + i) * R + o + j).toNat = (o + i) * R + o + j
theorem placeG {o i j R : Nat} (hr : R ≤ 4) (hi : o + i < R) (hj : o + j < R) : PlaceG o i j R := by
  obtain ⟨h0, h1, h2, h3⟩ := idx4 (r := (R : Int)) (i := (o : Int) + i) (j := (o : Int) + j) (by omega) (by omega) (by omega) (by omega) (by omega)
  refine ⟨wrap_in (by omega) (by omega), wrap_in (by omega) (by omega), wrap_in (by omega) (by omega), wrap_in (by omega) (by omega), by omega, by omega, ?_⟩
  have : ((o : Int) + i) * R + o + j = (((o + i) * R + o + j : Nat) : Int) := by
    rw [Int.natCast_add, Int.natCast_add, Int.natCast_mul, Int.natCast_add]
  rw [this]
  rfl
/-- the two variables that hold the result -/
structure JAt (w : World) (b2 b3 : Nat) (r : Int) (a : Option Addr) (n c : Nat) : Prop where
  o0 : w.cell? ⟨b2, 0, none⟩ = some (.int .i64 0)
  o1 : w.cell? ⟨b2, 1, none⟩ = some (.slice none 0 0)
  of0 : w.frozen? ⟨b2, 0, none⟩ = false
  of1 : w.frozen? ⟨b2, 1, none⟩ = false
  r0 : w.cell? ⟨b3, 0, none⟩ = some (.int .i64 r)
  r1 : w.cell? ⟨b3, 1, none⟩ = some (.slice a n c)
  rf0 : w.frozen? ⟨b3, 0, none⟩ = false
  rf1 : w.frozen? ⟨b3, 1, none⟩ = false
  ne : b2 ≠ b3
theorem JAt.below {w w' : World} {b2 b3 : Nat} {r : Int} {a : Option Addr} {n c : Nat} (h : JAt w b2 b3 r a n c) (hb : Ext w w') : JAt w' b2 b3 r a n c := by
  have l2 : b2 < w.heap.size := World.block_lt_of_cell? w _ h.o0
  have l3 : b3 < w.heap.size := World.block_lt_of_cell? w _ h.r0
  exact ⟨(hb.cell (p := ⟨b2, 0, none⟩) l2).trans h.o0, (hb.cell (p := ⟨b2, 1, none⟩) l2).trans h.o1, (hb.frozen (p := ⟨b2, 0, none⟩) l2).trans h.of0, (hb.frozen (p := ⟨b2, 1, none⟩) l2).trans h.of1,
    (hb.cell (p := ⟨b3, 0, none⟩) l3).trans h.r0, (hb.cell (p := ⟨b3, 1, none⟩) l3).trans h.r1, (hb.frozen (p := ⟨b3, 0, none⟩) l3).trans h.rf0, (hb.frozen (p := ⟨b3, 1, none⟩) l3).trans h.rf1, h.ne⟩
theorem frozen_setCell (w : World) (b i : Nat) (v : Value) (c j : Nat) : (w.setCell ⟨b, i, none⟩ v).frozen? ⟨c, j, none⟩ = w.frozen? ⟨c, j, none⟩ := by
  by_cases h : c = b
  · subst h
    simp only [World.frozen?, World.setCell, Array.getElem?_modify, if_true]
    cases w.heap[c]? with
    | none => rfl
    | some o => cases o <;> rfl
  · have := Below.heap_setCell w ⟨b, i, none⟩ v c h
    simp only [World.frozen?, this]
theorem JAt.setR {w : World} {b2 b3 : Nat} {r : Int} {a : Option Addr} {n c : Nat} (h : JAt w b2 b3 r a n c) (r' : Int) : JAt (w.setCell ⟨b3, 0, none⟩ (.int .i64 r')) b2 b3 r' a n c := by
  have hn : ∀ i, (⟨b3, 0, none⟩ : Addr) ≠ ⟨b2, i, none⟩ := fun i e => h.ne (by cases e; rfl)
  refine ⟨(World.cell?_setCell_other _ _ _ _ (hn 0)).trans h.o0, (World.cell?_setCell_other _ _ _ _ (hn 1)).trans h.o1, (frozen_setCell ..).trans h.of0, (frozen_setCell ..).trans h.of1,
    World.cell?_setCell_same _ _ _ h.r0, (World.cell?_setCell_other _ _ _ _ (by simp)).trans h.r1, (frozen_setCell ..).trans h.rf0, (frozen_setCell ..).trans h.rf1, h.ne⟩
theorem JAt.setD {w : World} {b2 b3 : Nat} {r : Int} {a : Option Addr} {n c : Nat} (h : JAt w b2 b3 r a n c) (a' : Option Addr) (n' c' : Nat) : JAt (w.setCell ⟨b3, 1, none⟩ (.slice a' n' c')) b2 b3 r a' n' c' := by
  have hn : ∀ i, (⟨b3, 1, none⟩ : Addr) ≠ ⟨b2, i, none⟩ := fun i e => h.ne (by cases e; rfl)
  refine ⟨(World.cell?_setCell_other _ _ _ _ (hn 0)).trans h.o0, (World.cell?_setCell_other _ _ _ _ (hn 1)).trans h.o1, (frozen_setCell ..).trans h.of0, (frozen_setCell ..).trans h.of1,
    (World.cell?_setCell_other _ _ _ _ (by simp)).trans h.r0, World.cell?_setCell_same _ _ _ h.r1, (frozen_setCell ..).trans h.rf0, (frozen_setCell ..).trans h.rf1, h.ne⟩
theorem JAt.upd {w w' : World} {b2 b3 : Nat} {r : Int} {a : Option Addr} {n c : Nat} (h : JAt w b2 b3 r a n c) {g o m : Nat} {ys : List Int} (hu : UpdI w w' (some ⟨g, o, none⟩) m ys) (h2 : b2 ≠ g) (h3 : b3 ≠ g) : JAt w' b2 b3 r a n c := by
  have l2 : b2 < w.heap.size := World.block_lt_of_cell? w _ h.o0
  have l3 : b3 < w.heap.size := World.block_lt_of_cell? w _ h.r0
  have e2 := hu.other b2 l2 fun b' o' e _ => by cases e; exact h2
  have e3 := hu.other b3 l3 fun b' o' e _ => by cases e; exact h3
  exact ⟨(World.cell?_of_block (a := ⟨b2, 0, none⟩) e2).trans h.o0, (World.cell?_of_block (a := ⟨b2, 1, none⟩) e2).trans h.o1, by simp only [World.frozen?, e2]; exact h.of0, by simp only [World.frozen?, e2]; exact h.of1,
    (World.cell?_of_block (a := ⟨b3, 0, none⟩) e3).trans h.r0, (World.cell?_of_block (a := ⟨b3, 1, none⟩) e3).trans h.r1, by simp only [World.frozen?, e3]; exact h.rf0, by simp only [World.frozen?, e3]; exact h.rf1, h.ne⟩
set_option maxRecDepth 100000 in
set_option maxHeartbeats 4000000 in
theorem joined_any (ks : List Nat) (hks : ks ∈ allTypes) (a : Option Addr) (n c : Nat) (w : World) (h : CarsAt w a n ks) :
    Calls Tryz.prog 166 #[.slice a n c] w fun e w' => ∃ a', e = .returned (carV (rankL ks) a' (rankL ks * rankL ks) (rankL ks * rankL ks)) ∧ OwnI w' w.heap.size a' (rankL ks * rankL ks) (rankL ks * rankL ks) (blockL ks) ∧ Ext w w' := by
  obtain ⟨t1, t2, t3, t4⟩ := types_all ks hks
  have HJE := hidP (joined_eq ks hks)
  have H := hidP h
  have L := hidP h.len
  have HK := hidP t1
  have hn4 : n ≤ 4 := by rw [← h.len]; exact t4
  have hx0 := hidP ((Ext.alloc w (.cells #[.int .i64 0, .slice none 0 0] 31)).trans (Ext.alloc _ (.cells #[.int .i64 0, .slice none 0 0] 31)))
  clear h t1 t4
  obtain ⟨R, hR⟩ : ∃ R, R = rankL ks := ⟨_, rfl⟩
  rw [← hR] at t2 t3 HJE ⊢
  have HRR := hidP hR
  clear hR
  go_enter Tryz.func166, Tryz.ntmps166
  go_wp2
  obtain ⟨w0, hw0⟩ : ∃ w0, w0 = (w.alloc (.cells #[.int .i64 0, .slice none 0 0] 31)).alloc (.cells #[.int .i64 0, .slice none 0 0] 31) := ⟨_, rfl⟩
  have HJ0 : Hid (JAt w0 w.heap.size (w.heap.size + 1) 0 none 0 0) := by
    have n0 := new_cell (w := w) (cs := #[.int .i64 0, .slice none 0 0]) (E := 31) (b := w.heap.size) rfl (Ext.alloc _ (.cells #[.int .i64 0, .slice none 0 0] 31))
    have n1 := new_cell (w := w.alloc (.cells #[.int .i64 0, .slice none 0 0] 31)) (cs := #[.int .i64 0, .slice none 0 0]) (E := 31) (b := w.heap.size + 1) (by simp) (Ext.refl _)
    rw [hw0]
    exact ⟨(n0 0).1.trans rfl, (n0 1).1.trans rfl, (n0 0).2, (n0 1).2, (n1 0).1.trans rfl, (n1 1).1.trans rfl, (n1 0).2, (n1 1).2, by omega⟩
  rw [← hw0] at hx0 ⊢
  have hb2 : w.heap.size + 1 < w0.heap.size := World.block_lt_of_cell? w0 _ HJ0.out.r0
  obtain ⟨b2, hb2e⟩ : ∃ b, b = w.heap.size := ⟨_, rfl⟩
  obtain ⟨b3, hb3e⟩ : ∃ b, b = b2 + 1 := ⟨_, rfl⟩
  rw [← hb2e] at HJ0 hb2 ⊢
  rw [← hb3e] at HJ0 hb2 ⊢
  have HB2 := hidP hb2e
  have hb23 : b2 ≤ b3 := by omega
  clear hw0 hb2e hb3e
  go_loopw [14] (fun t wr => ∃ k : Nat, k ≤ n ∧ t = .int .i64 k ∧ Hid (Ext w wr) ∧ Hid (JAt wr b2 b3 (offK ks k) none 0 0)) (fun t _ => n - (intOf t).toNat)
  case atStart => exact ⟨0, Nat.zero_le _, rfl, hx0, HJ0⟩
  case round =>
    clear HJ0 hx0
    obtain ⟨k, hk, rfl, HX, HJ⟩ := hrel
    by_cases hlt : k < n
    · obtain ⟨b, o, a', c', rfl, q0, q1, _⟩ := (H.out.below HX.out).get k hlt
      have HO := hidP (offK_succ ks k (by rw [L.out]; exact hlt))
      have ho := offK_le ks (ks.length - (k + 1)) (k + 1) (by have := L.out; omega)
      rw [show k + 1 + (ks.length - (k + 1)) = ks.length by have := L.out; omega, offK_all, HO.out, ← HRR.out] at ho
      generalize ks.getD k 0 = kk at *
      generalize offK ks k = ok at *
      have hxa := Ext.alloc (wr.setCell ⟨b3, 0, none⟩ (.int .i64 ((ok : Int) + (pRank kk : Nat)))) (.cells #[.int .i64 (pRank kk), .slice a' (pRank kk * pRank kk) c'] 31)
      have HXb : Hid (Ext w (wr.setCell ⟨b3, 0, none⟩ (.int .i64 ((ok : Int) + (pRank kk : Nat))))) := HX.out.setNew _ _ (by have := HB2.out; omega) _
      have HXa := hidP (HXb.out.trans hxa)
      have HJb := hidP ((HJ.out.setR ((ok : Int) + (pRank kk : Nat))).below hxa)
      obtain ⟨o0, o1, of0, of1, r0, r1, rf0, rf1, hne⟩ := HJ.out
      have l3 : b3 < wr.heap.size := World.block_lt_of_cell? wr _ r0
      clear hxa o0 o1 of0 of1 r1 rf1
      generalize pRank kk = rk at *
      go_wp2
      go_roundw
      case rel => exact ⟨k + 1, by omega, by go_num, HXa, by rw [HO.out]; have := HJb.out; show JAt _ _ _ _ _ _ _; simpa using this⟩
      case measure => simp [intOf]; omega
    · obtain rfl : k = n := by omega
      have hof : offK ks k = R := by rw [HRR.out, ← L.out, offK_all]
      rw [hof] at HJ
      have hrr : (R : Int) * R ≤ 16 := by
        have := Nat.mul_le_mul t3 t3
        have h : ((R * R : Nat) : Int) ≤ ((4 * 4 : Nat) : Int) := by exact_mod_cast this
        rw [Int.natCast_mul] at h
        exact h
      have hrr0 : 0 ≤ (R : Int) * R := Int.mul_nonneg (by omega) (by omega)
      have hmk := make_ints ((R : Int) * R) hrr0 (by omega)
      have hmn : ((R : Int) * R).toNat = R * R := by rw [← Int.natCast_mul]; rfl
      rw [hmn] at hmk
      obtain ⟨o0, o1, of0, of1, r0, r1, rf0, rf1, hne⟩ := HJ.out
      have l3 : b3 < wr.heap.size := World.block_lt_of_cell? wr _ r0
      clear o0 o1 of0 of1 hof hmn
      go_wp2
      have hza := Ext.alloc (wr.setCell ⟨b3, 1, none⟩ (.slice (some ⟨wr.heap.size, 0, none⟩) (R * R) (R * R))) (.cells (Array.replicate (R * R) (.int .i64 0)) 3)
      have hzs : (wr.setCell ⟨b3, 1, none⟩ (.slice (some ⟨wr.heap.size, 0, none⟩) (R * R) (R * R))).heap.size = wr.heap.size := by simp [World.setCell]
      have hzm := OwnI.made (wr.setCell ⟨b3, 1, none⟩ (.slice (some ⟨wr.heap.size, 0, none⟩) (R * R) (R * R))) w.heap.size (R * R) (by rw [hzs]; exact HX.out.size) (by unfold maxLen; omega)
      rw [hzs] at hzm
      have hx1 : Ext w ((wr.setCell ⟨b3, 1, none⟩ (.slice (some ⟨wr.heap.size, 0, none⟩) (R * R) (R * R))).alloc (.cells (Array.replicate (R * R) (.int .i64 0)) 3)) := (HX.out.setNew _ _ (by have := HB2.out; omega) _).trans hza
      have hj1 := (HJ.out.setD (some ⟨wr.heap.size, 0, none⟩) (R * R) (R * R)).below hza
      obtain ⟨g, hg⟩ : ∃ g, g = wr.heap.size := ⟨_, rfl⟩
      rw [← hg] at hx1 hj1 hzm l3 ⊢
      obtain ⟨w1, hw1⟩ : ∃ w1, w1 = (wr.setCell ⟨b3, 1, none⟩ (.slice (some ⟨g, 0, none⟩) (R * R) (R * R))).alloc (.cells (Array.replicate (R * R) (.int .i64 0)) 3) := ⟨_, rfl⟩
      rw [← hw1] at hx1 hj1 hzm ⊢
      have n2 : b2 ≠ g := by omega
      have n3 : b3 ≠ g := by omega
      have HX1 := hidP hx1
      have HJ1 := hidP hj1
      have HZ1 := hidP hzm
      have HU0 := hidP (UpdI.start HZ1.out.ints)
      have HG1 : Hid (w.heap.size ≤ g) := by show _ ≤ _; have := HX.out.size; omega
      clear hw1 hx1 hj1 hzm hza hzs hg hmk r0 r1 rf0 rf1 HX HJ
      go_loopw [34, 6] (fun t u wr => ∃ q : Nat, q ≤ k ∧ t = .int .i64 q ∧ u = .int .i64 (offK ks q) ∧ Hid (UpdI w1 wr (some ⟨g, 0, none⟩) (R * R) (applyW (wTo R ks q) (List.replicate (R * R) 0)))) (fun t _ _ => k - (intOf t).toNat)
      case atStart => exact ⟨0, Nat.zero_le _, rfl, rfl, HU0⟩
      case round =>
        clear HU0
        obtain ⟨q, hq, rfl, rfl, HU⟩ := hrel
        by_cases hltq : q < k
        · obtain ⟨ba, oa, a', c', rfl, q0, q1, hI⟩ := H.out.get q hltq
          have hxr : Ext w wr := HU.out.below HX1.out HX1.out.size fun b o e _ => by cases e; exact HG1.out
          have hki : ks.getD q 0 < 12 := HK.out _ (getD_mem (by rw [L.out]; exact hltq))
          have hrk := pRank_pos _ hki
          have HO := hidP (offK_succ ks q (by rw [L.out]; exact hltq))
          have HWS := hidP (wTo_succ R ks q)
          have ho := offK_le ks (ks.length - (q + 1)) (q + 1) (by have := L.out; omega)
          rw [show q + 1 + (ks.length - (q + 1)) = ks.length by have := L.out; omega, offK_all, HO.out, ← HRR.out] at ho
          generalize ks.getD q 0 = kk at *
          generalize offK ks q = ok at *
          have hab : ∀ b o, a' = some ⟨b, o, none⟩ → b < w.heap.size := fun b o e => by
            subst e
            exact hI.block_lt (Nat.mul_pos (by omega) (by omega))
          have HI := hidP (hI.below hxr)
          have hq0 := (hxr.cell (p := ⟨ba, oa + q * 2, none⟩) (World.block_lt_of_cell? w _ q0)).trans q0
          have hq1 := (hxr.cell (p := ⟨ba, oa + q * 2 + 1, none⟩) (World.block_lt_of_cell? w _ q1)).trans q1
          obtain ⟨rk, hrkk⟩ : ∃ r, r = pRank kk := ⟨_, rfl⟩
          rw [← hrkk] at hq0 hq1 HI hrk HO HWS ho
          have HRK := hidP hrkk
          clear q0 q1 hI hrkk
          go_wp2
          have hca := CarAt.new wr _ rfl rk a' (rk * rk) c' 31
          have hxa := Ext.alloc wr (.cells #[.int .i64 rk, .slice a' (rk * rk) c'] 31)
          have hgr : g < wr.heap.size := Nat.lt_of_lt_of_le (HZ1.out.at_base g 0 rfl).2 HU.out.size
          obtain ⟨b8, hb8⟩ : ∃ b, b = wr.heap.size := ⟨_, rfl⟩
          obtain ⟨w2, hw2⟩ : ∃ w, w = wr.alloc (.cells #[.int .i64 rk, .slice a' (rk * rk) c'] 31) := ⟨_, rfl⟩
          rw [← hb8] at hca ⊢
          rw [← hw2] at hca hxa ⊢
          have n8 : b8 ≠ g := by omega
          have HC2 := hidP hca
          have HU2 := hidP (HU.out.ext hxa)
          have HI2 := hidP (HI.out.below hxa)
          have HS2 := hidP (UpdI.start (HU2.out.ints HZ1.out.ints))
          have HUs := hidP hxa.size
          obtain ⟨D, hD⟩ : ∃ D, D = applyW (wTo R ks q) (List.replicate (R * R) 0) := ⟨_, rfl⟩
          rw [← hD] at HU2 HS2
          have HD := hidP hD
          clear hw2 hb8 hca hxa hq0 hq1 hxr HI HU hD
          go_loopw [40] (fun t wr => ∃ i : Nat, i ≤ rk ∧ t = .int .i64 i ∧ Hid (UpdI w2 wr (some ⟨g, 0, none⟩) (R * R) (applyW (wBlk R ok kk i) D))) (fun t _ => rk - (intOf t).toNat)
          case atStart => exact ⟨0, Nat.zero_le _, rfl, HS2⟩
          case round =>
            obtain ⟨i, hi, rfl, HUi⟩ := hrel
            by_cases hlti : i < rk
            · have HBS := hidP (wBlk_succ R ok kk i)
              rw [← HRK.out] at HBS
              obtain ⟨c0, c1⟩ := HC2.out
              have d0 := HUi.out.far c0 n8
              clear c0 c1
              go_wp2
              go_loopw [45] (fun t wr => ∃ j : Nat, j ≤ rk ∧ t = .int .i64 j ∧ Hid (UpdI w2 wr (some ⟨g, 0, none⟩) (R * R) (applyW (wBlk R ok kk i ++ wRow R ok kk i j) D))) (fun t _ => rk - (intOf t).toNat)
              case atStart => exact ⟨0, Nat.zero_le _, rfl, by show UpdI _ _ _ _ _; simpa [wRow] using HUi.out⟩
              case round =>
                obtain ⟨j, hj, rfl, HUj⟩ := hrel
                obtain ⟨c0, c1⟩ := HC2.out
                have d0 := HUj.out.far c0 n8
                have d1 := HUj.out.far c1 n8
                clear c0 c1
                by_cases hltj : j < rk
                · obtain ⟨_, _, _, _, r0, r1, _, _, _⟩ := HJ1.out.upd (HU2.out.trans HUj.out) n2 n3
                  have hIj := HUj.out.others HI2.out (fun b o b' o' e e' => by have := hab b' o' e'; cases e; have := HG1.out; omega)
                  obtain ⟨bx, ox, rfl, qx, lx⟩ := hIj.entry hlti hltj
                  have hpl : (ok + i) * R + ok + j < R * R := by
                    have : (ok + i + 1) * R ≤ R * R := Nat.mul_le_mul_right _ (by omega)
                    rw [Nat.add_mul, Nat.one_mul] at this
                    omega
                  obtain ⟨y0, y1⟩ := HUj.out.cellInt _ hpl
                  rw [Nat.zero_add] at y0 y1
                  have hz : wr.frozen? ⟨g, (ok + i) * R + ok + j, none⟩ = false := by
                    have h1 := (HU2.out.cellInt _ hpl).2
                    have h2 := HZ1.out.unfrozen _ g 0 hpl rfl
                    rw [Nat.zero_add] at h1 h2
                    rw [y1, h1, h2]
                  have hst := HUj.out.store _ hpl (atM (pMat kk) rk i j)
                  rw [Nat.zero_add] at hst
                  have hsn := applyW_snoc (wBlk R ok kk i ++ wRow R ok kk i j) ((ok + i) * R + ok + j, atM (pMat kk) rk i j) D
                  simp only [] at hsn
                  rw [← hsn] at hst
                  clear hsn
                  have HST : Hid (UpdI w2 (wr.setCell ⟨g, (ok + i) * R + ok + j, none⟩ (.int .i64 (atM (pMat kk) rk i j))) (some ⟨g, 0, none⟩) (R * R) (applyW (wBlk R ok kk i ++ wRow R ok kk i (j + 1)) D)) := by
                    show UpdI _ _ _ _ _
                    rw [wRow_succ, ← List.append_assoc, ← HRK.out]
                    exact hst
                  have HP := hidP (placeF (r := rk) (by omega) hlti hltj)
                  have HQ := hidP (placeG (R := R) (o := ok) (i := i) (j := j) t3 (by omega) (by omega))
                  clear hst y1 lx hpl
                  generalize atM (pMat kk) rk i j = x at *
                  go_wp2
                  obtain ⟨k1, k2, k3, k4, k5⟩ := HP.out
                  obtain ⟨l0, l1, l2, l3', l4, l5, l6⟩ := HQ.out
                  (refine walkR_start (fun w' => w' = wr.drew) 23 (by kernel_rfl) ?_; simp only [numbered, List.take_succ_cons, List.take_zero, Nat.zero_add, Nat.reduceAdd, List.length_cons, List.length_nil])
                  (repeat (first | (refine walkR_still (v := ?_) rfl (by decide +kernel) rfl (fun _ _ _ h => h) rfl ?_ ?_; rotate_left; (focus (intro w' hw'; subst hw'; go_simp; all_goals (with_reducible rfl))); simp only [Act.put, List.setIfInBounds_toArray, List.set_cons_zero, List.set_cons_succ]) | (refine walkR_skip rfl (by decide +kernel) rfl (fun _ _ _ h => h) rfl ?_; simp only [Act.put, List.setIfInBounds_toArray, List.set_cons_zero, List.set_cons_succ])))
                  (refine walkR_tail (by rfl) (by kernel_rfl) ?_; simp only [List.drop_succ_cons, List.drop_zero])
                  clear k1 k2 k3 k4 k5 l0 l1 l2 l3' l4 l5
                  go_wp2
                  go_roundw
                  case rel => exact ⟨j + 1, by omega, by go_num, HST.drew⟩
                  case measure => simp [intOf]; omega
                · obtain rfl : j = rk := by omega
                  rw [← HBS.out] at HUj
                  go_wp2
                  go_roundw
                  case rel => exact ⟨i + 1, by omega, by go_num, HUj⟩
                  case measure => simp [intOf]; omega
            · obtain rfl : i = rk := by omega
              obtain ⟨c0, c1⟩ := HC2.out
              have d0 := HUi.out.far c0 n8
              clear c0 c1
              go_wp2
              go_roundw
              case rel =>
                refine ⟨q + 1, by omega, by go_num, by rw [HO.out]; simp, ?_⟩
                have := HU2.out.trans HUi.out
                rw [HWS.out]
                show UpdI _ _ _ _ _
                rw [applyW_append, ← HD.out]
                exact this
              case measure => simp [intOf]; omega
        · obtain rfl : q = k := by omega
          have HFin : Hid (applyW (wTo R ks q) (List.replicate (R * R) 0) = blockL ks) := by show _ = _; rw [← L.out]; exact HJE.out
          rw [HFin.out] at HU
          obtain ⟨o0, o1, of0, of1, r0, r1, rf0, rf1, hne⟩ := HJ1.out.upd HU.out n2 n3
          have l2 : b2 < wr.heap.size := World.block_lt_of_cell? wr _ o0
          have HEnd : Hid (OwnI ((wr.setCell ⟨b2, 0, none⟩ (.int .i64 R)).setCell ⟨b2, 1, none⟩ (.slice (some ⟨g, 0, none⟩) (R * R) (R * R))) w.heap.size (some ⟨g, 0, none⟩) (R * R) (R * R) (blockL ks) ∧ Ext w ((wr.setCell ⟨b2, 0, none⟩ (.int .i64 R)).setCell ⟨b2, 1, none⟩ (.slice (some ⟨g, 0, none⟩) (R * R) (R * R)))) := by
            refine ⟨?_, ?_⟩
            · exact ((HU.out.own HZ1.out).setFar _ 0 _ (Ne.symm n2)).setFar _ 1 _ (Ne.symm n2)
            · have h : Ext w wr := HU.out.below HX1.out HX1.out.size fun b o e _ => by cases e; exact HG1.out
              exact (h.setNew _ _ (by have := HB2.out; omega) _).setNew _ _ (by have := HB2.out; omega) _
          go_wp2
          refine bodyPost_ret (v := carV R (some ⟨g, 0, none⟩) (R * R) (R * R)) (by simp [results, Tryz.results166, go_sem, o0, o1]) rfl ⟨some ⟨g, 0, none⟩, rfl, ?_, ?_⟩
          · exact HEnd.out.1
          · exact HEnd.out.2
end Go.Proofs.YtfikkfbnlegflaaGreatDoor

namespace Go.Proofs.YtfikkfbnlegflaaGreatDoor
open Go.RowKit

/-- a value that is a slice of strings -/
def HdrS (w : World) (v : Value) (ss : List ByteArray) : Prop := ∃ a c, v = .slice a ss.length c ∧ ss.length ≤ c ∧ StrsAt w a ss.length ss ∧ (a = none → c = 0) ∧ ∀ b o, a = some ⟨b, o, none⟩ → ∃ cur, ∃ fr : Nat × Nat, w.heap[b]? = some (.cells cur 9 fr)
theorem HdrS.keep {w w' : World} {v : Value} {ss : List ByteArray} (h : HdrS w v ss) {row : Option Nat} (hg : w.grownBy w' row) (hne : ∀ b, row = some b → ∃ cur, ∃ fr : Nat × Nat, w.heap[b]? = some (.cells cur 100 fr)) : HdrS w' v ss := by
  obtain ⟨a, c, rfl, hcp, hs, hn, ht⟩ := h
  have hb : ∀ b o, a = some ⟨b, o, none⟩ → w'.heap[b]? = w.heap[b]? := fun b o e => by
    obtain ⟨cur, fr, h1⟩ := ht b o e
    refine hg.block b (Array.getElem?_eq_some_iff.1 h1).1 fun hr => ?_
    obtain ⟨cur', fr', h2⟩ := hne b hr.symm
    rw [h1] at h2
    simp only [Option.some.injEq, Obj.cells.injEq] at h2
    exact absurd h2.2.1 (by decide)
  refine ⟨a, c, rfl, hcp, ⟨rfl, fun i hi => ?_⟩, hn, fun b o e => ?_⟩
  · obtain ⟨b, o, e, hc⟩ := hs.get i hi
    exact ⟨b, o, e, (World.cell?_of_block (hb b o e)).trans hc⟩
  · rw [hb b o e]
    exact ht b o e
theorem HdrS.below {w w' : World} {v : Value} {ss : List ByteArray} (h : HdrS w v ss) (hb : Ext w w') : HdrS w' v ss :=
  h.keep (row := none) ⟨hb.os, hb.tape, hb.output, hb.size, fun k hk _ => hb.block k hk⟩ (by simp)
theorem HdrS.nil (w : World) : HdrS w (.slice none 0 0) [] := ⟨none, 0, rfl, Nat.le_refl _, StrsAt.nil w none, fun _ => rfl, fun b o e => by cases e⟩
/-- rows of strings, read -/
structure SRowsAt (w : World) (a : Option Addr) (n : Nat) (L : List (List ByteArray)) : Prop where
  len : L.length = n
  get : ∀ i, i < n → ∃ b o v, a = some ⟨b, o, none⟩ ∧ w.cell? ⟨b, o + i, none⟩ = some v ∧ HdrS w v (L.getD i [])
theorem SRowsAt.below {w w' : World} {a : Option Addr} {n : Nat} {L : List (List ByteArray)} (h : SRowsAt w a n L) (hb : Ext w w') : SRowsAt w' a n L := by
  refine ⟨h.len, fun i hi => ?_⟩
  obtain ⟨b, o, v, rfl, hc, hv⟩ := h.get i hi
  exact ⟨b, o, v, rfl, (hb.cell (p := ⟨b, o + i, none⟩) (World.block_lt_of_cell? w _ hc)).trans hc, hv.below hb⟩
/-- owned -/
structure OwnP (w : World) (B : Nat) (a : Option Addr) (n c : Nat) (L : List (List ByteArray)) : Prop where
  row : ∃ vs : List Value, w.ownsRow B 100 1 (.slice a n c) n vs ∧ (∀ i, i < n → HdrS w (vs.getD i undef) (L.getD i []))
  len : L.length = n
theorem OwnP.rows {w : World} {B : Nat} {a : Option Addr} {n c : Nat} {L : List (List ByteArray)} (h : OwnP w B a n c L) : SRowsAt w a n L := by
  refine ⟨h.len, fun i hi => ?_⟩
  obtain ⟨vs, hr, hv⟩ := h.row
  rcases hr.2 with ⟨he, h0⟩ | ⟨g, cap, cur, he, hB, hg, hnc, hcm, hcs, ht⟩
  · omega
  · simp only [Value.slice.injEq] at he
    obtain ⟨rfl, -, rfl⟩ := he
    have hl : vs.length = n := by simpa using hr.1
    have h3 := hr.cellAt i (by omega)
    refine ⟨g, 0, vs.getD i undef, rfl, ?_, hv i hi⟩
    rw [Nat.zero_add, h3, List.getD_eq_getElem?_getD, List.getElem?_eq_getElem (by omega)]
    rfl
theorem OwnP.keep {w w' : World} {B : Nat} {a : Option Addr} {n c : Nat} {L : List (List ByteArray)} (h : OwnP w B a n c L) (hb : Ext w w') : OwnP w' B a n c L := by
  obtain ⟨vs, hr, hv⟩ := h.row
  refine ⟨⟨vs, ?_, fun i hi => (hv i hi).below hb⟩, h.len⟩
  refine hr.kept (row := none) ⟨hb.os, hb.tape, hb.output, hb.size, fun k hk _ => hb.block k hk⟩ ?_
  rcases hr.2 with ⟨he, h0⟩ | ⟨g, cap, cur, he, _⟩
  · exact .inl (by rw [he]; rfl)
  · exact .inr (by rw [he]; simp [Value.ownBlock])
theorem OwnP.made (w : World) : OwnP (w.alloc (.cells #[] 100)) w.heap.size (some ⟨w.heap.size, 0, none⟩) 0 0 [] := by
  refine ⟨⟨[], ?_, fun i h => by omega⟩, rfl⟩
  have := World.ownsRow_lit (e := 100) (size := 1) (base := w.heap.size) w #[] 0 (Nat.le_refl _) (by unfold maxLen; omega) (by simp)
  simpa using this
theorem OwnP.addr {w : World} {B : Nat} {a : Option Addr} {n c : Nat} {L : List (List ByteArray)} (h : OwnP w B a n c L) (p : Addr) (e : a = some p) : ∃ g, p = ⟨g, 0, none⟩ := by
  obtain ⟨vs, hr, _⟩ := h.row
  rcases hr.2 with ⟨he, h0⟩ | ⟨g', cap, cur, he, _⟩
  · simp [e] at he
  · simp only [Value.slice.injEq] at he
    rw [e] at he
    simp only [Option.some.injEq] at he
    exact ⟨g', he.1⟩
theorem OwnP.base_lt {w : World} {B : Nat} {a : Option Addr} {n c : Nat} {L : List (List ByteArray)} (h : OwnP w B a n c L) : ∀ b o, a = some ⟨b, o, none⟩ → B ≤ b ∧ b < w.heap.size := by
  intro b o e
  obtain ⟨vs, hr, _⟩ := h.row
  rcases hr.2 with ⟨he, h0⟩ | ⟨g', cap, cur, he, hB', hg', _⟩
  · simp [e] at he
  · simp only [Value.slice.injEq] at he
    rw [e] at he
    simp only [Option.some.injEq, Addr.mk.injEq, and_true] at he
    obtain ⟨⟨rfl, _⟩, _⟩ := he
    exact ⟨hB', (Array.getElem?_eq_some_iff.1 hg').1⟩
theorem OwnP.rowblk {w : World} {B : Nat} {a : Option Addr} {n c : Nat} {L : List (List ByteArray)} (h : OwnP w B a n c L) : ∀ b, (Value.slice a n c).ownBlock = some b → B ≤ b ∧ ∃ cur, ∃ fr : Nat × Nat, w.heap[b]? = some (.cells cur 100 fr) := by
  intro b e
  obtain ⟨vs, hr, _⟩ := h.row
  rcases hr.2 with ⟨he, h0⟩ | ⟨g', cap, cur, he, hB', hg', _⟩
  · simp only [Value.slice.injEq] at he
    obtain ⟨rfl, -, -⟩ := he
    simp [Value.ownBlock] at e
  · simp only [Value.slice.injEq] at he
    obtain ⟨rfl, -, -⟩ := he
    simp only [Value.ownBlock, Option.some.injEq] at e
    subst e
    exact ⟨hB', cur, (0, 0), hg'⟩
theorem SRowsAt.keep {w w' : World} {a : Option Addr} {n : Nat} {L : List (List ByteArray)} (h : SRowsAt w a n L) {row : Option Nat} (hg : w.grownBy w' row) (hne : ∀ b, row = some b → ∃ cur, ∃ fr : Nat × Nat, w.heap[b]? = some (.cells cur 100 fr)) (ha : ∀ b o, a = some ⟨b, o, none⟩ → some b ≠ row) : SRowsAt w' a n L := by
  refine ⟨h.len, fun i hi => ?_⟩
  obtain ⟨b, o, v, rfl, hc, hv⟩ := h.get i hi
  have hb : w'.heap[b]? = w.heap[b]? := hg.block b (World.block_lt_of_cell? w _ hc) (ha b o rfl)
  exact ⟨b, o, v, rfl, (World.cell?_of_block (a := ⟨b, o + i, none⟩) hb).trans hc, hv.keep hg hne⟩
theorem Tryz.info100 : (Tryz.prog.info? 100).map (fun i => (i.zero, i.size, i.bytes)) = some (some (.slice none 0 0), 1, 24) := by kernel_rfl
/-- append of one row -/
theorem wpList_append_srow {ops : Array Oper} {rest : List Oper} {o : Oper} {a : Act} {Q : Exit → Act → World → Prop} {w : World} (hgd : o.guard = none) (s x : Operand)
    (ho : o.op = .call { callee := .builtin .append, args := #[s, x], argTypes := #[130, 130] })
    (B : Nat) (av : Option Addr) (nv cv : Nat) (L : List (List ByteArray)) (hs : a.eval s = .slice av nv cv) (hown : OwnP w B av nv cv L)
    (g c : Nat) (y : Value) (ss : List ByteArray) (hx : a.eval x = .slice (some ⟨g, 0, none⟩) 1 c) (hc : w.cell? ⟨g, 0, none⟩ = some y) (hy : HdrS w y ss) (hsm : nv ≤ 1000000000) (hB : B ≤ w.heap.size)
    (h : ∀ a' c' w', OwnP w' B a' (nv + 1) c' (L ++ [ss]) → w.grownBy w' (Value.slice av nv cv).ownBlock → (∀ b o, a' = some ⟨b, o, none⟩ → (∃ o', av = some ⟨b, o', none⟩) ∨ w.heap.size ≤ b) → wpList Tryz.prog ops Q rest (a.put o.dst (.slice a' (nv + 1) c')) w') : wpList Tryz.prog ops Q (o :: rest) a w := by
  obtain ⟨i, hi, hz0, hz1, hz2⟩ := info_parts Tryz.info100
  have hrow := hown.rowblk
  obtain ⟨vs, hr, hv⟩ := hown.row
  have hL := hown.len
  have hl : vs.length = nv := by simpa using hr.1
  have hone : ∀ u ∈ [y], u.oneCell' = true := by
    obtain ⟨a', c', rfl, _, _⟩ := hy
    simp [Value.oneCell']
  refine wpList_append_own_at w hgd s x 130 ho B 100 i (.slice none 0 0) 1 24 Tryz.underlying130 hi hz0 hz1 hz2 rfl (by decide) _ nv vs hs hr ⟨g, 0, none⟩ 1 c [y] hx (by simp) ?_ hone (by unfold maxLen; omega) (by omega) hB ?_
  · intro j u hu
    cases j with
    | zero =>
      simp only [List.getElem?_cons_zero, Option.some.injEq] at hu
      subst hu
      rw [add_none]
      exact hc
    | succ j => simp at hu
  · intro v' w' hr' hg _ hat
    rcases hr'.2 with ⟨_, h0⟩ | ⟨g', cap, cur, he, _⟩
    · omega
    · subst he
      refine h _ _ w' ⟨⟨vs ++ [y], hr', fun i hi => ?_⟩, by simp [hL]⟩ hg (fun b o e => ?_)
      rotate_left
      · simp only [Option.some.injEq, Addr.mk.injEq, and_true] at e
        obtain ⟨rfl, rfl⟩ := e
        simp only [Value.ownBlock] at hat
        rcases hat with h1 | h1
        · left
          cases av with
          | none => simp at h1
          | some p =>
            rcases hr.2 with ⟨he, _⟩ | ⟨g2, cap2, cur2, he, _⟩
            · simp at he
            · simp only [Value.slice.injEq, Option.some.injEq] at he
              obtain ⟨rfl, _⟩ := he
              simp only [Option.some.injEq] at h1
              exact ⟨0, by rw [h1]⟩
        · right
          simp only [Option.some.injEq] at h1
          omega
      rcases Nat.lt_succ_iff_lt_or_eq.1 hi with h3 | rfl
      · rw [getD_app_l _ _ _ _ (by omega), getD_app_l _ _ _ _ (by omega)]
        exact (hv i h3).keep hg fun b e => (hrow b e).2
      · rw [getD_app_r _ _ _ _ (by omega), getD_app_r _ _ _ _ (by omega), hl, hL, Nat.sub_self]
        exact hy.keep hg fun b e => (hrow b e).2
/-- a name, and a list of names behind it -/
theorem wpList_append_names {ops : Array Oper} {rest : List Oper} {o : Oper} {a : Act} {Q : Exit → Act → World → Prop} {w : World} (hgd : o.guard = none) (s x : Operand)
    (ho : o.op = .call { callee := .builtin .append, args := #[s, x], argTypes := #[100, 100] })
    (B : Nat) (av : Option Addr) (nv cv : Nat) (xs : List ByteArray) (hs : a.eval s = .slice av nv cv) (hown : OwnS w B av nv cv xs)
    (v : Value) (ys : List ByteArray) (hx : a.eval x = v) (hy : HdrS w v ys) (hsm : nv + ys.length ≤ 1000000000) (hB : B ≤ w.heap.size)
    (h : ∀ a' c' w', OwnS w' B a' (nv + ys.length) c' (xs ++ ys) → w.grownBy w' (Value.slice av nv cv).ownBlock → wpList Tryz.prog ops Q rest (a.put o.dst (.slice a' (nv + ys.length) c')) w') : wpList Tryz.prog ops Q (o :: rest) a w := by
  obtain ⟨i, hi, hz0, hz1, hz2⟩ := info_parts Tryz.info9
  obtain ⟨a1, c1, rfl, _, hsa, hnil, _⟩ := hy
  cases a1 with
  | none =>
    have hc := hnil rfl
    subst hc
    have hm : ys.length = 0 := by
      rcases Nat.eq_zero_or_pos ys.length with h0 | h0
      · exact h0
      · obtain ⟨_, _, e, _⟩ := hsa.get 0 h0
        cases e
    have hyn : ys = [] := List.eq_nil_of_length_eq_zero hm
    subst hyn
    refine wpList_append_own_none hgd s x 100 ho B 9 i 1 Tryz.underlying100 hi _ nv (svs xs) hs hown.row hx ?_
    have := h av cv w (by simpa using hown) ⟨rfl, rfl, rfl, Nat.le_refl _, fun _ _ _ => rfl⟩
    simpa using this
  | some ad =>
    refine wpList_append_own w hgd s x 100 ho B 9 i (.string ⟨#[]⟩) 1 16 Tryz.underlying100 hi hz0 hz1 hz2 rfl (by decide) _ nv (svs xs) hs hown.row ad ys.length c1 (svs ys) hx (by simp [svs_length]) ?_ (svs_one ys) (by unfold maxLen; omega) (by omega) hB ?_
    · intro j u hu
      have hj : j < ys.length := by have := (List.getElem?_eq_some_iff.1 hu).1; rwa [svs_length] at this
      obtain ⟨b, o', e, hc⟩ := hsa.get j hj
      simp only [Option.some.injEq] at e
      subst e
      rw [add_none, hc]
      rw [svs_get ys j (ys.getD j ByteArray.empty) (by simp [hj])] at hu
      exact hu
    · intro v' w' hr hg hn
      rw [show svs xs ++ svs ys = svs (xs ++ ys) by simp [svs]] at hr
      rcases hr.2 with ⟨he, h0⟩ | ⟨g', cap, cur, he, _⟩
      · exfalso
        have := (hn.1 he).1
        simp only [Value.slice.injEq] at this
        exact hown.nn this.1
      · subst he
        exact h _ _ w' ⟨hr, by simp⟩ hg

theorem OwnS.lit (w : World) (s : ByteArray) : OwnS (w.alloc (.cells #[.string s] 9)) w.heap.size (some ⟨w.heap.size, 0, none⟩) 1 1 [s] := by
  refine ⟨?_, by simp⟩
  have := World.ownsRow_lit (e := 9) (size := 1) (base := w.heap.size) w #[.string s] 1 (Nat.le_refl _) (by unfold maxLen; omega) (by simp)
  simpa [svs] using this
theorem OwnS.hdr {w : World} {B : Nat} {a : Option Addr} {n c : Nat} {xs : List ByteArray} (h : OwnS w B a n c xs) : HdrS w (.slice a n c) xs := by
  have hl := h.len
  subst hl
  have hcap : xs.length ≤ c := by obtain ⟨_, _, _, _, h5, _⟩ := h.form; exact h5
  refine ⟨a, c, rfl, hcap, h.strs, fun e => absurd e h.nn, fun b o e => ?_⟩
  rcases h.row.2 with ⟨he, _⟩ | ⟨g, cap, cur, he, _, hg, _⟩
  · simp only [Value.slice.injEq] at he
    exact absurd he.1 h.nn
  · simp only [Value.slice.injEq] at he
    rw [e] at he
    simp only [Option.some.injEq, Addr.mk.injEq, and_true] at he
    obtain ⟨⟨rfl, _⟩, _⟩ := he
    exact ⟨cur, (0, 0), hg⟩
theorem name_rank (k : Nat) (hk : k < 12) (s : ByteArray) (hs : s = nameS.getD k ByteArray.empty) (h : 1 < s.size) : ((s[1].toNat : Int) - 48) % 256 = (pRank k : Int) := by
  have key : ∀ k, k < 12 → ((((nameS.getD k ByteArray.empty).data[1]?.getD 0).toNat : Int) - 48) % 256 = (pRank k : Int) := by decide +kernel
  have := key k hk
  rw [← hs] at this
  rw [← this]
  congr 2
  have h3 : 1 < s.data.size := h
  rw [Array.getElem?_eq_getElem h3]
  rfl
theorem name_size (k : Nat) (hk : k < 12) (s : ByteArray) (hs : s = nameS.getD k ByteArray.empty) : s.size = 2 := by
  have key : ∀ k, k < 12 → (nameS.getD k ByteArray.empty).size = 2 := by decide +kernel
  rw [hs]
  exact key k hk
def rowS (ks : List Nat) : List ByteArray := ks.map fun k => nameS.getD k ByteArray.empty
theorem rowS_length (ks : List Nat) : (rowS ks).length = ks.length := by simp [rowS]
theorem flatMap_le {α β : Type} (l : List α) (g : α → List β) (M : Nat) (h : ∀ x ∈ l, (g x).length ≤ M) : (l.flatMap g).length ≤ l.length * M := by
  induction l with
  | nil => simp
  | cons x l ih =>
    rw [List.flatMap_cons, List.length_append, List.length_cons, Nat.add_mul, Nat.one_mul]
    have := ih fun y hy => h y (by simp [hy])
    have := h x (by simp)
    omega
/-- the types from one place on -/
def typesD (f rank lo d : Nat) : List (List Nat) := (List.range d).flatMap fun e => if rank < pRank (lo + e) then [] else (typesL f (rank - pRank (lo + e)) (lo + e)).map ((lo + e) :: ·)
theorem typesD_succ (f rank lo d : Nat) : typesD f rank lo (d + 1) = typesD f rank lo d ++ if rank < pRank (lo + d) then [] else (typesL f (rank - pRank (lo + d)) (lo + d)).map ((lo + d) :: ·) := by
  simp [typesD, List.range_succ]
theorem typesL_succ (f rank lo : Nat) (h : rank ≠ 0) : typesL (f + 1) rank lo = typesD f rank lo (12 - lo) := by
  rw [typesL, if_neg h]
  rfl
theorem typesL_len : ∀ (f rank lo : Nat), (typesL f rank lo).length ≤ 13 ^ rank
  | 0, _, _ => by simp [typesL]
  | f + 1, rank, lo => by
    by_cases h : rank = 0
    · subst h; simp [typesL]
    · rw [typesL_succ _ _ _ h]
      refine Nat.le_trans (flatMap_le _ _ (13 ^ (rank - 1)) fun e he => ?_) ?_
      · have he := List.mem_range.1 he
        split
        · simp
        · rename_i h2
          rw [List.length_map]
          refine Nat.le_trans (typesL_len f _ _) (Nat.pow_le_pow_right (by omega) ?_)
          have := (pRank_pos (lo + e) (by omega)).1
          omega
      · rw [List.length_range, show rank = (rank - 1) + 1 by omega, Nat.pow_succ, Nat.add_sub_cancel, Nat.mul_comm]
        exact Nat.mul_le_mul_left _ (by omega)
theorem typesD_len (f rank lo d : Nat) (h0 : rank ≠ 0) (hd : lo + d ≤ 12) : (typesD f rank lo d).length ≤ 13 ^ rank := by
  refine Nat.le_trans (flatMap_le _ _ (13 ^ (rank - 1)) fun e he => ?_) ?_
  · have he := List.mem_range.1 he
    split
    · simp
    · rw [List.length_map]
      refine Nat.le_trans (typesL_len f _ _) (Nat.pow_le_pow_right (by omega) ?_)
      have := (pRank_pos (lo + e) (by omega)).1
      omega
  · rw [List.length_range]
    conv => rhs; rw [show rank = (rank - 1) + 1 by omega, Nat.pow_succ, Nat.mul_comm]
    exact Nat.mul_le_mul_right _ (by omega)
theorem pow13 {rank : Nat} (h : rank ≤ 4) : 13 ^ rank ≤ 28561 := Nat.le_trans (Nat.pow_le_pow_right (by omega) h) (by decide)
theorem typesL_short : ∀ (f rank lo : Nat), ∀ ks ∈ typesL f rank lo, ks.length ≤ rank
  | 0, _, _, ks, h => by simp [typesL] at h
  | f + 1, rank, lo, ks, h => by
    by_cases h0 : rank = 0
    · subst h0; simp [typesL] at h; simp [h]
    · rw [typesL_succ _ _ _ h0] at h
      simp only [typesD, List.mem_flatMap, List.mem_range] at h
      obtain ⟨e, he, h⟩ := h
      split at h
      · simp at h
      · simp only [List.mem_map] at h
        obtain ⟨ks', hk, rfl⟩ := h
        have := typesL_short f _ _ ks' hk
        have := (pRank_pos (lo + e) (by omega)).1
        simp
        omega
set_option maxRecDepth 100000 in
set_option maxHeartbeats 4000000 in
theorem typesOf_any : ∀ (f rank lo : Nat) (w : World), rank < f → rank ≤ 4 → lo ≤ 12 →
    Calls Tryz.prog 141 #[.int .i64 rank, .int .i64 lo] w fun e w' => ∃ a c, e = .returned (.slice a (typesL f rank lo).length c) ∧ SRowsAt w' a (typesL f rank lo).length ((typesL f rank lo).map rowS) ∧ Ext w w' ∧ ∀ b o, a = some ⟨b, o, none⟩ → w.heap.size ≤ b ∧ b < w'.heap.size := by
  intro f
  induction f with
  | zero => intro rank lo w h; omega
  | succ f ih =>
    intro rank lo w hf hr4 hlo
    by_cases h0 : rank = 0
    · subst h0
      have HN : Hid (SRowsAt (w.alloc (.cells #[.slice none 0 0] 100)) (some ⟨w.heap.size, 0, none⟩) 1 [[]]) := by
        refine ⟨rfl, fun i hi => ?_⟩
        obtain rfl : i = 0 := by omega
        exact ⟨_, 0, _, rfl, (cell_top _ _ _ _ _ rfl).trans rfl, HdrS.nil _⟩
      clear ih
      go_enter Tryz.func141, Tryz.ntmps141
      go_wp2
      go_ret
      exact ⟨_, _, rfl, HN.out, Ext.alloc _ _, fun b o e => by cases e; simp⟩
    · have hr0 : ((rank : Int) == 0) = false := by simp; omega
      have HT := hidP (typesL_succ f rank lo h0)
      have HM := hidP (OwnP.made w)
      have HX0 := hidP (Ext.alloc w (.cells #[] 100))
      have HN := hidP (fun w' => partNames_any w')
      have HI := hidP ih
      have hrp : 0 < rank := by omega
      have HZ := hidP h0
      rw [HT.out]
      clear ih h0
      go_enter Tryz.func141, Tryz.ntmps141
      go_wp2
      go_loopw [5, 6] (fun u t wr => ∃ (d : Nat) (av : Option Addr) (cv : Nat), lo + d ≤ 12 ∧ t = .int .i64 (lo + d : Nat) ∧ u = .slice av (typesD f rank lo d).length cv ∧ Hid (OwnP wr w.heap.size av (typesD f rank lo d).length cv ((typesD f rank lo d).map rowS)) ∧ Hid (Ext w wr)) (fun _ t _ => 12 - (intOf t).toNat)
      case atStart => exact ⟨0, _, _, hlo, rfl, rfl, HM, HX0⟩
      case round =>
        clear HM HX0
        obtain ⟨d, av, cv, hd, rfl, rfl, HO, HX⟩ := hrel
        have hlen := typesD_len f rank lo d HZ.out hd
        have h13 := pow13 hr4
        have HTS := hidP (typesD_succ f rank lo d)
        obtain ⟨wo, rfl⟩ : ∃ wo : World, wo = wr := ⟨_, rfl⟩
        have HP := HN.out
        go_wp2_with fail
        refine (HN.out _).mono ?_
        rintro e w1 ⟨bn, rfl, _, hx1⟩
        have HX1 := hidP hx1
        clear hx1
        by_cases hlt : lo + d < 12
        · go_wp2_with fail
          refine (HN.out _).mono ?_
          rintro e w2 ⟨bm, rfl, hs2, hx2⟩
          obtain ⟨b, o, e, q⟩ := hs2.get (lo + d) hlt
          simp only [Option.some.injEq, Addr.mk.injEq, and_true] at e
          obtain ⟨rfl, rfl⟩ := e
          obtain ⟨s, hs⟩ : ∃ s, s = nameS.getD (lo + d) ByteArray.empty := ⟨_, rfl⟩
          rw [← hs] at q
          have hz2 := name_size _ hlt s hs
          have hz : 1 < s.size := by omega
          have hrk := name_rank _ hlt s hs hz
          have HS := hidP hs
          have HX2 := hidP (HX1.out.trans hx2)
          have hp := pRank_pos _ hlt
          generalize hpk : pRank (lo + d) = n at *
          have HPK := hidP hpk
          rw [Nat.zero_add] at q
          clear hs hx2 hs2 hz2 hpk HX1
          by_cases hgt : rank < n
          · have HE : Hid (typesD f rank lo (d + 1) = typesD f rank lo d) := by
              show _ = _
              rw [HTS.out, if_pos hgt, List.append_nil]
            go_wp2
            go_roundw
            case rel => exact ⟨d + 1, av, cv, by omega, by go_num, by rw [HE.out], by rw [HE.out]; exact HO.out.keep HX2.out, HX.out.trans HX2.out⟩
            case measure => simp [intOf]; omega
          · have HE : Hid (typesD f rank lo (d + 1) = typesD f rank lo d ++ (typesL f (rank - n) (lo + d)).map ((lo + d) :: ·)) := by
              show _ = _
              rw [HTS.out, if_neg hgt]
            have HC := hidP (fun w' => HI.out (rank - n) (lo + d) w' (by omega) (by omega) (by omega))
            have hsub : ((rank : Int) - n) = ((rank - n : Nat) : Int) := by omega
            simp only [Int.natCast_add] at HC
            have HL2 := hidP (typesL_len f (rank - n) (lo + d))
            have h132 := pow13 (show rank - n ≤ 4 by omega)
            have HSh := hidP (typesL_short f (rank - n) (lo + d))
            generalize typesL f (rank - n) (lo + d) = L2 at *
            generalize typesD f rank lo d = L1 at *
            go_wp2_with fail
            refine (HC.out _).mono ?_
            rintro e w3 ⟨a3, c3, rfl, hs3, hx3, ha3⟩
            have HA3 := hidP ha3
            have HS3 := hidP hs3
            have HX3 := hidP (HX2.out.trans hx3)
            have HO3 := hidP (HO.out.keep HX3.out)
            have HA2 : Hid (∀ b o, av = some ⟨b, o, none⟩ → b < w2.heap.size ∨ w3.heap.size ≤ b) := fun b o e => .inl ((HO.out.keep HX2.out).base_lt b o e).2
            have HXa := hidP (HX.out.trans HX3.out)
            have hl2 : L2.length ≤ 28561 := Nat.le_trans HL2.out h132
            clear hs3 hx3 q hsub ha3
            go_wp2
            go_loopw [5, 39] (fun u t wr => ∃ (k : Nat) (av : Option Addr) (cv : Nat), k ≤ L2.length ∧ t = .int .i64 k ∧ u = .slice av (L1.length + k) cv ∧ Hid (OwnP wr w.heap.size av (L1.length + k) cv (L1.map rowS ++ (L2.take k).map fun ks => s :: rowS ks)) ∧ Hid (Ext w wr) ∧ Hid (∀ b o, av = some ⟨b, o, none⟩ → b < w2.heap.size ∨ w3.heap.size ≤ b) ∧ Hid (w3.heap.size ≤ wr.heap.size) ∧ Hid (SRowsAt wr a3 L2.length (L2.map rowS))) (fun _ t _ => L2.length - (intOf t).toNat)
            case atStart => exact ⟨0, _, _, Nat.zero_le _, rfl, rfl, by show OwnP _ _ _ _ _ _; simpa using HO3.out, HXa, HA2, Nat.le_refl _, HS3⟩
            case round =>
              clear HO3 HXa HS3 HX3
              obtain ⟨k, av, cv, hk, rfl, rfl, HO, HX, HA, HW3, HS3⟩ := hrel
              by_cases hlk : k < L2.length
              · obtain ⟨b, o, v, rfl, qv, hv⟩ := HS3.out.get k hlk
                have hgd : (L2.map rowS).getD k [] = rowS (L2.getD k []) := by simp [List.getD_eq_getElem?_getD, hlk]
                rw [hgd] at hv
                have hsh : (L2.getD k []).length ≤ rank - n := HSh.out _ (by rw [List.getD_eq_getElem?_getD, List.getElem?_eq_getElem hlk]; exact List.getElem_mem hlk)
                have HTK : Hid ((L1.map rowS ++ (L2.take k).map fun ks => s :: rowS ks) ++ [s :: rowS (L2.getD k [])] = L1.map rowS ++ (L2.take (k + 1)).map fun ks => s :: rowS ks) := by
                  show _ = _
                  rw [List.take_succ_eq_append_getElem hlk, List.map_append, List.append_assoc]
                  simp [List.getD_eq_getElem?_getD, hlk]
                have hlr : (rowS (L2.getD k [])).length ≤ 4 := by rw [rowS_length]; omega
                generalize rowS (L2.getD k []) = ss at *
                have HV := hidP hv
                clear hv hgd hsh
                have hxl := Ext.alloc wr (.cells #[.string s] 9)
                have HW0 := hidP (OwnS.lit wr s)
                have HVa := hidP (HV.out.below hxl)
                have HOa := hidP (HO.out.keep hxl)
                have HXl := hidP hxl
                have hX := HX.out.size
                clear hxl
                go_wp2_with (first
                  | (at_builtin; refine wpList_append_names rfl (.tmp 45) (.tmp 46) rfl wr.heap.size (some ⟨wr.heap.size, 0, none⟩) 1 1 [s] rfl HW0.out v ss rfl HVa.out (by omega) (by simp) ?_; intro a4 c4 w4 ho4 hg4; have hx4 := HW0.out.ext hg4 HXl.out (Nat.le_refl _); have hd4 := ho4.hdr; have hxn := Ext.alloc w4 (.cells #[.slice a4 (1 + ss.length) c4] 100); have HD4 := hidP (hd4.below hxn); have HC4 := hidP ((cell_top w4 #[.slice a4 (1 + ss.length) c4] 100 w4.heap.size 0 rfl).trans (show _ = some (Value.slice a4 (1 + ss.length) c4) from rfl)); have HO4 := hidP (HO.out.keep (hx4.trans hxn)); have HX4 := hidP (hx4.trans hxn); clear ho4 hg4 hx4 hd4 hxn)
                  | (at_builtin; refine wpList_append_srow rfl (.tmp 43) (.tmp 48) rfl w.heap.size av (L1.length + k) cv _ rfl HO4.out w4.heap.size 1 _ ([s] ++ ss) rfl HC4.out HD4.out (by omega) (Nat.le_trans hX HX4.out.size) ?_; intro a6 c6 w6 ho6 hg6 hn6))
                rw [List.singleton_append, HTK.out] at ho6
                have HO6 := hidP ho6
                have hrb := HO4.out.rowblk
                have HX6 := hidP (Below.grown (HX.out.trans HX4.out) hg6 (Nat.le_trans hX HX4.out.size) fun b e => (hrb b e).1)
                have HW6 : Hid (w3.heap.size ≤ w6.heap.size) := Nat.le_trans HW3.out (Nat.le_trans HX4.out.size hg6.size)
                have HA6 : Hid (∀ b o, a6 = some ⟨b, o, none⟩ → b < w2.heap.size ∨ w3.heap.size ≤ b) := fun b o e => by
                  rcases hn6 b o e with ⟨o', e'⟩ | h
                  · exact HA.out b o' e'
                  · right
                    have := HW3.out
                    have := HX4.out.size
                    omega
                have HS6 := hidP ((HS3.out.below HX4.out).keep hg6 (fun b e => (hrb b e).2) fun b' o' e' hr => by
                  have h1 := HA3.out b' o' e'
                  cases hav : av with
                  | none => rw [hav] at hr; simp [Value.ownBlock] at hr
                  | some p =>
                    obtain ⟨g, rfl⟩ := HO.out.addr p hav
                    rw [hav] at hr
                    simp only [Value.ownBlock, Option.some.injEq] at hr
                    have h2 := HA.out g 0 hav
                    omega)
                clear hrb hg6 hn6 ho6
                go_roundw
                case rel => exact ⟨k + 1, a6, c6, by omega, by go_num, rfl, HO6, HX6, HA6, HW6, HS6⟩
                case measure => simp [intOf]; omega
              · obtain rfl : k = L2.length := by omega
                go_wp2
                go_roundw
                case rel =>
                  refine ⟨d + 1, av, cv, by omega, by go_num, by rw [HE.out]; simp, ?_, HX⟩
                  have := HO.out
                  rw [List.take_length] at this
                  rw [HE.out, List.map_append, List.map_map, List.length_append, List.length_map]
                  have he : (rowS ∘ fun x => (lo + d) :: x) = fun ks => s :: rowS ks := by
                    funext ks
                    have e : rowS ((lo + d) :: ks) = nameS.getD (lo + d) ByteArray.empty :: rowS ks := rfl
                    show rowS ((lo + d) :: ks) = s :: rowS ks
                    rw [e, ← HS.out]
                  rw [he]
                  exact this
                case measure => simp [intOf]; omega
        · obtain rfl : d = 12 - lo := by omega
          go_wp2
          go_ret
          exact ⟨_, _, rfl, (HO.out.keep HX1.out).rows, HX.out.trans HX1.out, (HO.out.keep HX1.out).base_lt⟩
end Go.Proofs.YtfikkfbnlegflaaGreatDoor

namespace Go.Proofs.YtfikkfbnlegflaaGreatDoor
open Go.RowKit

def joinN (ks : List Nat) : ByteArray := str (Lib.join ((rowS ks).map (·.data.toList)) [43])
theorem split_all : ∀ ks ∈ allTypes, Lib.splitB ⟨#[43]⟩ 0 (Lib.countB (joinN ks) ⟨#[43]⟩) (joinN ks) = rowS ks ∧ Lib.countB (joinN ks) ⟨#[43]⟩ + 1 = ks.length ∧ (joinN ks).size ≤ 20 ∧ 1 ≤ (joinN ks).size := by decide +kernel

theorem Tryz.info31 : (Tryz.prog.info? 31).map (fun i => (i.zero, i.size, i.bytes)) = some (some (.agg #[.int .i64 0, .slice none 0 0]), 2, 32) := by kernel_rfl
/-- internal/bytealg.MaxLen holds some number -/
def MaxL (w : World) : Prop := ∃ m, w.cell? ⟨0, 0, none⟩ = some (.int .i64 m)
theorem MaxL.below {w w' : World} (h : MaxL w) (hx : Ext w w') : MaxL w' := by
  obtain ⟨m, hm⟩ := h
  exact ⟨m, (hx.cell (p := ⟨0, 0, none⟩) (World.block_lt_of_cell? w _ hm)).trans hm⟩
theorem split_any (ks : List Nat) (hks : ks ∈ allTypes) (w : World) (hm : MaxL w) :
    Calls Tryz.prog 164 #[.string (joinN ks), .string ⟨#[43]⟩] w fun e w' => ∃ b, e = .returned (.slice (some ⟨b, 0, none⟩) ks.length ks.length) ∧ StrsAt w' (some ⟨b, 0, none⟩) ks.length (rowS ks) ∧ Ext w w' := by
  obtain ⟨h1, h2, h3, h4⟩ := split_all ks hks
  obtain ⟨m, hm⟩ := hm
  refine (Tryz.strings_Split (joinN ks) ⟨#[43]⟩ m w (by omega) hm (by decide)).mono fun e w' ⟨he, hw⟩ => ⟨w.heap.size, ?_, ?_, ?_⟩
  · rw [he, h2]
  · rw [hw, h1]
    have := strs_alloc w (rowS ks) 9
    rw [rowS_length] at this
    exact this
  · rw [hw]
    exact Ext.alloc _ _
theorem take_map_snoc (ks : List Nat) (k : Nat) (h : k < ks.length) : (ks.take (k + 1)).map partP = (ks.take k).map partP ++ [partP (ks.getD k 0)] := by
  rw [List.take_succ_eq_append_getElem h, List.map_append]
  simp [List.getD_eq_getElem?_getD, h]
set_option maxRecDepth 100000 in
set_option maxHeartbeats 4000000 in
theorem cartanOf_any (ks : List Nat) (hks : ks ∈ allTypes) (w : World) (hm : MaxL w) :
    Calls Tryz.prog 142 #[.string (joinN ks)] w fun e w' => ∃ a, e = .returned (.tuple #[carV (rankL ks) a (rankL ks * rankL ks) (rankL ks * rankL ks), .bool true]) ∧ OwnI w' w.heap.size a (rankL ks * rankL ks) (rankL ks * rankL ks) (blockL ks) ∧ Ext w w' := by
  obtain ⟨t1, t2, t3, t4⟩ := types_all ks hks
  have HK := hidP t1
  obtain ⟨R, hR⟩ : ∃ R, R = rankL ks := ⟨_, rfl⟩
  have HJ := hidP (fun (a : Option Addr) (n c : Nat) w' (h : CarsAt w' a n ks) => joined_any ks hks a n c w' h)
  rw [← hR] at t2 t3 HJ ⊢
  have HR := hidP hR
  have hx0 := Ext.alloc w (.cells #[.int .i64 0, .slice none 0 0] 31)
  have HS := hidP (split_any ks hks _ (hm.below hx0))
  have HX0 := hidP hx0
  obtain ⟨n, hn⟩ : ∃ n, n = ks.length := ⟨_, rfl⟩
  rw [← hn] at HS t4
  have HL := hidP hn
  clear t1 hR hx0 hn hm
  generalize joinN ks = nm at *
  go_enter Tryz.func142, Tryz.ntmps142
  go_wp2_with fail
  refine HS.out.mono ?_
  rintro e w1 ⟨bs, rfl, hs1, hx1⟩
  have HS1 := hidP hs1
  have HXr := hidP hx1
  have HX1 := hidP (HX0.out.trans hx1)
  have hb2 : w.heap.size < w1.heap.size := by have := hx1.size; simp at this; omega
  clear hs1 hx1 HS
  go_wp2
  have HO := hidP (OwnK.made0 carK w1)
  have HX2 := hidP (Ext.alloc w1 (.cells #[] 31))
  rw [show carK.E = 31 from rfl] at HO
  go_loopw [16, 5, 6] (fun t u v wr => ∃ (k : Nat) (av : Option Addr) (cv : Nat) (hv : List Hdr), k ≤ n ∧ t = .int .i64 k ∧ u = .slice av k cv ∧ v = .int .i64 (offK ks k) ∧ Hid (OwnK carK wr w1.heap.size wr.heap.size av k cv hv ((ks.take k).map partP)) ∧ Hid (Ext w1 wr)) (fun t _ _ _ => n - (intOf t).toNat)
  case atStart => exact ⟨0, _, _, [], Nat.zero_le _, rfl, rfl, rfl, HO, HX2⟩
  case round =>
    clear HO HX2
    obtain ⟨k, av, cv, hv, hk, rfl, rfl, rfl, HO, HX⟩ := hrel
    obtain ⟨wo, rfl⟩ : ∃ wo : World, wo = wr := ⟨_, rfl⟩
    by_cases hlt : k < n
    · obtain ⟨b, o, e, q⟩ := (HS1.out.below HX.out).get k hlt
      simp only [Option.some.injEq, Addr.mk.injEq, and_true] at e
      obtain ⟨rfl, rfl⟩ := e
      rw [Nat.zero_add] at q
      have hki : ks.getD k 0 < 12 := HK.out _ (getD_mem (by rw [← HL.out]; exact hlt))
      have hgd : (rowS ks).getD k ByteArray.empty = nameS.getD (ks.getD k 0) ByteArray.empty := by
        have : k < ks.length := by rw [← HL.out]; exact hlt
        simp [rowS, List.getD_eq_getElem?_getD, this]
      rw [hgd] at q
      have HOK := hidP (offK_succ ks k (by rw [← HL.out]; exact hlt))
      have HT := hidP (take_map_snoc ks k (by rw [← HL.out]; exact hlt))
      have hol := offK_le ks (ks.length - (k + 1)) (k + 1) (by have := HL.out; omega)
      rw [show k + 1 + (ks.length - (k + 1)) = ks.length by have := HL.out; omega, offK_all, HOK.out, ← HR.out] at hol
      have HP := hidP (fun w' => partCartan_any (ks.getD k 0) hki _ rfl w')
      have HPL := hidP (pMat_length _ hki)
      have hrk := pRank_pos _ hki
      generalize ks.getD k 0 = kk at *
      have HPP : Hid (partP kk = ((pRank kk : Int), pMat kk)) := rfl
      generalize nameS.getD kk ByteArray.empty = s at *
      generalize offK ks k = ok at *
      generalize pRank kk = r at *
      clear hgd
      go_wp2_with fail
      refine (HP.out _).mono ?_
      rintro e w3 ⟨a3, rfl, ho3, hx3⟩
      have HO3 := hidP ho3
      have HXo := hidP hx3
      have HX3 := hidP (HX.out.trans hx3)
      clear ho3 hx3
      have hxa := Ext.alloc w3 (.cells #[.int .i64 r, .slice a3 (r * r) (r * r)] 31)
      have hxb := Ext.alloc (w3.alloc (.cells #[.int .i64 r, .slice a3 (r * r) (r * r)] 31)) (.cells #[.int .i64 r, .slice a3 (r * r) (r * r)] 31)
      have HX5 := hidP (HX3.out.trans (hxa.trans hxb))
      have HO5 := hidP (HO.out.below (HXo.out.trans (hxa.trans hxb)))
      have HI5 : Hid (OwnI ((w3.alloc (.cells #[.int .i64 r, .slice a3 (r * r) (r * r)] 31)).alloc (.cells #[.int .i64 r, .slice a3 (r * r) (r * r)] 31)) w1.heap.size a3 (carK.ints (partP kk)).length (r * r) (carK.ints (partP kk))) := by
        rw [HPP.out]
        show OwnI _ _ _ (pMat kk).length _ (pMat kk)
        rw [HPL.out]
        exact (HO3.out.below (hxa.trans hxb)).base HX.out.size
      have HCl : Hid (∀ j, j < carK.size → ((w3.alloc (.cells #[.int .i64 r, .slice a3 (r * r) (r * r)] 31)).alloc (.cells #[.int .i64 r, .slice a3 (r * r) (r * r)] 31)).cell? ⟨w3.heap.size + 1, j, none⟩ = (carK.cells a3 (r * r) (partP kk))[j]?) := fun j hj => by
        rw [cell_top _ _ _ _ _ (by simp), HPP.out]
        show _ = ([Value.int .i64 r, Value.slice a3 (pMat kk).length (r * r)])[j]?
        rw [HPL.out]
        simp
      have HAp : Hid (∀ q, q < k → Apart (hv.getD q (none, 0)).1 a3) := fun q hq b o b' o' e e' => by
        have := HO.out.lt q hq b o e
        have := (HO3.out.at_base b' o' e').1
        omega
      have HFr : Hid (Apart av a3) := fun b o b' o' e e' => by
        have := HO.out.olt b o e
        have := (HO3.out.at_base b' o' e').1
        omega
      clear hxa hxb HO3
      go_wp2_with (at_builtin; refine wpList_append_elem2 carK 150 (.agg #[.int .i64 0, .slice none 0 0]) 32 rfl (.tmp 32) (.tmp 34) rfl Tryz.underlying150 Tryz.info31 rfl (by omega) w1.heap.size _ av k cv hv _ rfl HO5.out (w3.heap.size + 1) 1 (a3, r * r) (partP kk) rfl HCl.out HI5.out HAp.out HFr.out (by omega) HX5.out.size ?_; intro a6 c6 w6 ho6 hg6 hn6)
      have HX6 := hidP (HO5.out.below_grown hg6 HX5.out HX5.out.size)
      rw [← HT.out] at ho6
      have HO6 := hidP ho6
      go_roundw
      case rel => exact ⟨k + 1, a6, c6, _, by omega, by go_num, rfl, by rw [HOK.out]; simp, HO6, HX6⟩
      case measure => simp [intOf]; omega
    · obtain rfl : k = n := by omega
      have hof : offK ks k = R := by rw [HR.out, HL.out, offK_all]
      rw [hof]
      have hot : (ks.take k) = ks := by rw [HL.out, List.take_length]
      rw [hot] at HO
      have HJw := hidP (HJ.out av k cv wo (HO.out.cars HK.out))
      have hrg : ¬ (4 < (R : Int)) := by omega
      clear hof hot
      go_wp2_with fail
      refine HJw.out.mono ?_
      rintro e w3 ⟨a3, rfl, ho3, hx3⟩
      have hxx := (HXr.out.trans HX.out).trans hx3
      obtain ⟨c0, f0⟩ := new_cell (w := w) (b := w.heap.size) rfl hxx 0
      obtain ⟨c1, f1⟩ := new_cell (w := w) (b := w.heap.size) rfl hxx 1
      have c0' : w3.cell? ⟨w.heap.size, 0, none⟩ = some (.int .i64 0) := c0
      have c1' : w3.cell? ⟨w.heap.size, 1, none⟩ = some (.slice none 0 0) := c1
      have hl3 : w.heap.size < w3.heap.size := by have := hxx.size; simp at this; omega
      have hne : ∀ g, a3 = some ⟨g, 0, none⟩ → g ≠ w.heap.size := fun g e => by have := (ho3.at_base g 0 e).1; have := HX.out.size; omega
      have HEnd : Hid (OwnI ((w3.setCell ⟨w.heap.size, 0, none⟩ (.int .i64 R)).setCell ⟨w.heap.size, 1, none⟩ (.slice a3 (R * R) (R * R))) w.heap.size a3 (R * R) (R * R) (blockL ks) ∧ Ext w ((w3.setCell ⟨w.heap.size, 0, none⟩ (.int .i64 R)).setCell ⟨w.heap.size, 1, none⟩ (.slice a3 (R * R) (R * R)))) := by
        refine ⟨?_, ?_⟩
        · have h1 := ho3.base (B' := wo.heap.size) (Nat.le_refl _)
          have h2 : OwnI ((w3.setCell ⟨w.heap.size, 0, none⟩ (.int .i64 R)).setCell ⟨w.heap.size, 1, none⟩ (.slice a3 (R * R) (R * R))) wo.heap.size a3 (R * R) (R * R) (blockL ks) := (h1.setBelow _ 0 (by have := HX.out.size; omega) _).setBelow _ 1 (by have := HX.out.size; omega) _
          exact h2.base (by have := HX.out.size; omega)
        · exact (((HX1.out.trans HX.out).trans hx3).setNew _ _ (Nat.le_refl _) _).setNew _ _ (Nat.le_refl _) _
      clear ho3 hx3 hxx c0 c1 hne
      go_wp2
      refine bodyPost_ret (v := .tuple #[carV R a3 (R * R) (R * R), .bool true]) (by simp [results, Tryz.results142, go_sem, c0', c1']) rfl ⟨a3, rfl, ?_, ?_⟩
      · exact HEnd.out.1
      · exact HEnd.out.2
end Go.Proofs.YtfikkfbnlegflaaGreatDoor

namespace Go.Proofs.YtfikkfbnlegflaaGreatDoor
open Go.RowKit

def memTB (r : Nat) : Bool := (typesL 5 r 0).all fun ks => allTypes.contains ks && decide (rankL ks = r) && decide (1 ≤ ks.length) && decide (ks.length ≤ 4)
theorem memTB_all : ∀ r, r < 5 → 1 ≤ r → memTB r = true := by decide +kernel
theorem types_mem (r : Nat) (h1 : r < 5) (h2 : 1 ≤ r) : ∀ ks ∈ typesL 5 r 0, ks ∈ allTypes ∧ rankL ks = r ∧ 1 ≤ ks.length ∧ ks.length ≤ 4 := by
  intro ks hk
  have := memTB_all r h1 h2
  simp only [memTB, List.all_eq_true, Bool.and_eq_true, decide_eq_true_eq, List.contains_iff_mem] at this
  obtain ⟨⟨⟨a, b⟩, c⟩, d⟩ := this ks hk
  exact ⟨a, b, c, d⟩
/-- a name if it is a type's matrix, else none -/
def NameIf (b : Bool) (s : ByteArray) : Prop := (b = true → s.toList.isEmpty = false) ∧ (b = false → s = ⟨#[]⟩)
theorem NameIf.no {b : Bool} (h : b = false) : NameIf b ⟨#[]⟩ := ⟨fun e => absurd (h.symm.trans e) (by simp), fun _ => rfl⟩
theorem NameIf.yes {b : Bool} {s : ByteArray} (h : b = true) (hs : s.toList.isEmpty = false) : NameIf b s := ⟨fun _ => hs, fun e => absurd (h.symm.trans e) (by simp)⟩
theorem name_ne : ∀ ks ∈ allTypes, (joinN ks).toList.isEmpty = false := by decide +kernel
theorem join_any (v : Value) (ks : List Nat) (hks : ks ∈ allTypes) (h1 : 1 ≤ ks.length) (h4 : ks.length ≤ 4) (w : World) (h : HdrS w v (rowS ks)) :
    Calls Tryz.prog 125 #[v, .string ⟨#[43]⟩] w fun e w' => e = .returned (.string (joinN ks)) ∧ Ext w w' := by
  obtain ⟨a, c, rfl, hcap, hs, _, ht⟩ := h
  obtain ⟨_, _, hz, _⟩ := split_all ks hks
  have hl := rowS_length ks
  obtain ⟨b, o, rfl, _⟩ := hs.get 0 (by omega)
  obtain ⟨cur, fr, hb⟩ := ht b o rfl
  have hsz : (Lib.join ((rowS ks).map (·.data.toList)) [43]).length ≤ 20 := by
    have : (joinN ks).size = (Lib.join ((rowS ks).map (·.data.toList)) [43]).length := str_size _
    omega
  have := Tryz.strings_Join b o c (rowS ks) ⟨#[43]⟩ w (fun j x hx => by
    have hj : j < (rowS ks).length := (List.getElem?_eq_some_iff.1 hx).1
    obtain ⟨b', o', e, hc⟩ := hs.get j hj
    simp only [Option.some.injEq, Addr.mk.injEq, and_true] at e
    obtain ⟨rfl, rfl⟩ := e
    rw [hc, List.getD_eq_getElem?_getD, hx]
    rfl) (Array.getElem?_eq_some_iff.1 hb).1 (by omega) (by omega) (by show (Lib.join _ [43]).length ≤ _; omega)
  refine this.mono fun e w' ⟨he, hw⟩ => ⟨he, hw⟩
set_option maxRecDepth 100000 in
set_option maxHeartbeats 4000000 in
theorem typeOf_any (r : Int) (a : Option Addr) (n c : Nat) (xs : List Int) (w : World) (h : IntsAt w a n xs) (hn : n ≤ 9223372036854775807) (hm : MaxL w) :
    Calls Tryz.prog 115 #[carV r a n c] w fun e w' => ∃ s : ByteArray, e = .returned (.string s) ∧ NameIf (typeB r xs) s ∧ Ext w w' := by
  have L := hidP h.len
  have hx0 := Ext.alloc w (.cells #[.int .i64 r, .slice a n c] 31)
  obtain ⟨f0, f1⟩ := CarAt.new w _ rfl r a n c 31
  cases hi : insB r 1 4
  · have HT : Hid (typeB r xs = false) := by
      show _ = _
      unfold typeB
      have : decide (1 ≤ r ∧ r ≤ 4) = false := hi
      rw [this]
      rfl
    have HI := hidP (fun w' => inside_any r 1 4 w')
    rw [hi] at HI
    have HX0 := hidP hx0
    clear h hi hx0
    go_enter Tryz.func115, Tryz.ntmps115
    go_wp2_with fail
    refine (HI.out _).mono ?_
    rintro e w' ⟨rfl, rfl⟩
    go_wp2
    go_ret
    exact ⟨_, rfl, NameIf.no HT.out, HX0.out⟩
  · obtain ⟨h1, h4⟩ := insB_true.1 hi
    have HI := hidP (fun w' => inside_any r 1 4 w')
    rw [hi] at HI
    have hdi : decide (1 ≤ r ∧ r ≤ 4) = true := hi
    have hr0 : 0 ≤ r * r := Int.mul_nonneg (by omega) (by omega)
    have hr16 : r * r ≤ 16 := by
      have := Int.mul_le_mul h4 h4 (by omega) (by omega : (0 : Int) ≤ 4)
      omega
    by_cases hl : (n : Int) = r * r
    · obtain ⟨R, rfl⟩ : ∃ R : Nat, r = R := ⟨r.toNat, by omega⟩
      have hR1 : 1 ≤ R := by omega
      have hR4 : R ≤ 4 := by omega
      have hnr : n = R * R := by rw [← Int.natCast_mul] at hl; omega
      subst hnr
      have HT : Hid (typeB (R : Int) xs = (typesL 5 R 0).any fun ks => reordB xs R (blockL ks)) := by
        show _ = _
        unfold typeB
        rw [hdi, Int.toNat_natCast, decide_eq_true (by rw [L.out]; exact hl), Bool.true_and, Bool.true_and]
      have hTM := types_mem R (by omega) hR1
      have HTM := hidP hTM
      have HTO := hidP (fun w' => typesOf_any 5 R 0 w' (by omega) hR4 (by omega))
      have hlb : ((((R * R : Nat) : Int)) != (R : Int) * R) = false := by
        rw [Int.natCast_mul]; simp
      have H := hidP (h.below hx0)
      have HMx := hidP (hm.below hx0)
      have HX0 := hidP hx0
      have hlen := typesL_len 5 R 0
      have h13 := pow13 hR4
      have HLn : Hid ((typesL 5 R 0).length ≤ 28561) := Nat.le_trans hlen h13
      generalize typesL 5 R 0 = T at *
      clear h hi hx0 hl hdi hTM hm hlen h13
      go_enter Tryz.func115, Tryz.ntmps115
      go_wp2_with fail
      refine (HI.out _).mono ?_
      rintro e w' ⟨rfl, rfl⟩
      obtain ⟨w0, hw0⟩ : ∃ w0, w0 = w.alloc (.cells #[.int .i64 R, .slice a (R * R) c] 31) := ⟨_, rfl⟩
      rw [← hw0] at f0 f1 H HMx HX0 ⊢
      obtain ⟨b1, hb1⟩ : ∃ b, b = w.heap.size := ⟨_, rfl⟩
      rw [← hb1] at f0 f1 ⊢
      have HC : Hid (CarAt w0 b1 R a (R * R) c) := ⟨f0, f1⟩
      clear hw0 hb1
      go_wp2_with fail
      refine (HTO.out _).mono ?_
      rintro e w1 ⟨a1, c1, rfl, hs1, hx1, _⟩
      have HS1 := hidP hs1
      have HX1 := hidP hx1
      clear hs1 hx1 f0 f1
      go_wp2
      go_loopw [27] (fun t wr => ∃ k : Nat, k ≤ T.length ∧ t = .int .i64 k ∧ Hid (∀ q, q < k → reordB xs R (blockL (T.getD q [])) = false) ∧ Hid (Ext w1 wr)) (fun t _ => T.length - (intOf t).toNat)
      case atStart => exact ⟨0, Nat.zero_le _, rfl, fun q hq => by omega, Ext.refl _⟩
      case round =>
        obtain ⟨k, hk, rfl, HJ, HX⟩ := hrel
        have hln := HLn.out
        by_cases hlt : k < T.length
        · obtain ⟨b, o, v, rfl, qv, hv⟩ := (HS1.out.below HX.out).get k hlt
          have hgd : (T.map rowS).getD k [] = rowS (T.getD k []) := by simp [List.getD_eq_getElem?_getD, hlt]
          rw [hgd] at hv
          have hmem : T.getD k [] ∈ T := by rw [List.getD_eq_getElem?_getD, List.getElem?_eq_getElem hlt]; exact List.getElem_mem hlt
          obtain ⟨t1, t2, t3, t4⟩ := HTM.out _ hmem
          have HMem := hidP hmem
          obtain ⟨ks, hks⟩ : ∃ ks, ks = T.getD k [] := ⟨_, rfl⟩
          rw [← hks] at hv t1 t2 t3 t4 HMem
          have HKS := hidP hks
          have HJo := hidP (join_any v ks t1 t3 t4 wr hv)
          have HCO := hidP (fun w' (hx : Ext wr w') => cartanOf_any ks t1 w' (HMx.out.below ((HX1.out.trans HX.out).trans hx)))
          rw [t2] at HCO
          have HNZ := hidP (name_ne ks t1)
          clear hks hgd hv hmem t1 t2 t3 t4
          generalize joinN ks = nm at *
          go_wp2_with fail
          refine HJo.out.mono ?_
          rintro e w2 ⟨rfl, hx2⟩
          have HX2 := hidP hx2
          clear hx2
          go_wp2_with fail
          refine (HCO.out _ HX2.out).mono ?_
          rintro e w3 ⟨a3, rfl, ho3, hx3⟩
          have hxa := Ext.alloc w3 (.cells #[.int .i64 R, .slice a3 (R * R) (R * R)] 31)
          have HX3 := hidP ((HX2.out.trans hx3).trans hxa)
          have HO3 := hidP (ho3.below hxa)
          have HXa := hidP (((HX1.out.trans HX.out).trans (HX2.out.trans hx3)).trans hxa)
          obtain ⟨f0, f1⟩ := HC.out.below HXa.out
          have HRE := hidP (fun w' (hx : Ext (w3.alloc (.cells #[.int .i64 R, .slice a3 (R * R) (R * R)] 31)) w') => reordered_any R hR4 xs (blockL ks) R [] a a3 none c (R * R) 0 0 w' ((H.out.below HXa.out).below hx) (HO3.out.below hx).ints (IntsAt.nil _ _) (fun _ => rfl) (by omega) (fun x hx => by simp at hx))
          have HRB : Hid (reordB xs R (blockL (T.getD k [])) = searchB (List.range R) R (rowChk xs R (blockL ks) R) R []) := by
            show _ = _
            rw [← HKS.out]
            rfl
          clear ho3 hx3 hxa
          generalize searchB (List.range R) R (rowChk xs R (blockL ks) R) R [] = sb at *
          go_wp2_with fail
          refine (HRE.out _ (Ext.refl _)).mono ?_
          rintro e w4 ⟨rfl, hx4⟩
          have HX4 := hidP (HX3.out.trans hx4)
          clear hx4 f0 f1
          cases sb
          · go_wp2
            go_roundw
            case rel =>
              refine ⟨k + 1, by omega, by go_num, fun q hq => ?_, HX.out.trans HX4.out⟩
              rcases Nat.lt_succ_iff_lt_or_eq.1 hq with h3 | rfl
              · exact HJ.out q h3
              · exact HRB.out
            case measure => simp [intOf]; omega
          · have HE : Hid (T.any (fun ks => reordB xs R (blockL ks)) = true) := by
              show _ = _
              rw [List.any_eq_true]
              refine ⟨ks, HMem.out, ?_⟩
              have := HRB.out
              rwa [← HKS.out] at this
            go_wp2
            go_ret
            exact ⟨_, rfl, NameIf.yes (HT.out.trans HE.out) HNZ.out, ((HX0.out.trans HX1.out).trans HX.out).trans HX4.out⟩
        · obtain rfl : k = T.length := by omega
          have HE : Hid (T.any (fun ks => reordB xs R (blockL ks)) = false) := by
            show _ = _
            rw [List.any_eq_false]
            intro ks hks
            obtain ⟨q, hq, rfl⟩ := List.mem_iff_getElem.1 hks
            have := HJ.out q hq
            rw [List.getD_eq_getElem?_getD, List.getElem?_eq_getElem hq] at this
            simpa using this
          go_wp2
          go_ret
          exact ⟨_, rfl, NameIf.no (HT.out.trans HE.out), (HX0.out.trans HX1.out).trans HX.out⟩
    · have HT : Hid (typeB r xs = false) := by
        show _ = _
        unfold typeB
        rw [decide_eq_false (p := (xs.length : Int) = r * r) (by rw [L.out]; exact hl)]
        simp
      have hlb : ((n : Int) != r * r) = true := by simpa using hl
      have HX0 := hidP hx0
      clear h hi hx0 hl hdi hm
      go_enter Tryz.func115, Tryz.ntmps115
      go_wp2_with fail
      refine (HI.out _).mono ?_
      rintro e w' ⟨rfl, rfl⟩
      go_wp2
      go_ret
      exact ⟨_, rfl, NameIf.no HT.out, HX0.out⟩
theorem isCartan_any (r : Int) (a : Option Addr) (n c : Nat) (xs : List Int) (w : World) (h : IntsAt w a n xs) (hn : n ≤ 9223372036854775807) (hm : MaxL w) :
    Calls Tryz.prog 77 #[carV r a n c] w fun e w' => e = .returned (.bool (typeB r xs)) ∧ Ext w w' := by
  have hx0 := Ext.alloc w (.cells #[.int .i64 r, .slice a n c] 31)
  have H := hidP (typeOf_any r a n c xs _ (h.below hx0) hn (hm.below hx0))
  obtain ⟨f0, f1⟩ := CarAt.new w _ rfl r a n c 31
  have HX0 := hidP hx0
  clear h hm hx0
  go_enter Tryz.func77, Tryz.ntmps77
  go_wp2_with fail
  refine H.out.mono ?_
  rintro e w1 ⟨s, rfl, hs, hx1⟩
  have HX1 := hidP (HX0.out.trans hx1)
  clear hx1 H
  cases hb : typeB r xs
  · obtain rfl := hs.2 hb
    have HB := hidP hb
    clear hs hb
    go_wp2
    go_ret
    exact ⟨ret_bool HB.out.symm, HX1.out⟩
  · have he := hs.1 hb
    have HB := hidP hb
    clear hs hb
    go_wp2
    go_ret
    exact ⟨ret_bool HB.out.symm, HX1.out⟩
end Go.Proofs.YtfikkfbnlegflaaGreatDoor

namespace Go.Proofs.YtfikkfbnlegflaaGreatDoor
open Go.RowKit

end Go.Proofs.YtfikkfbnlegflaaGreatDoor

namespace Go.Proofs.YtfikkfbnlegflaaGreatDoor
open Go.RowKit

theorem own_one (w : World) (B : Nat) (z : Int) (hB : B ≤ w.heap.size) : OwnI (w.alloc (.cells #[.int .i64 z] 3)) B (some ⟨w.heap.size, 0, none⟩) 1 1 [z] :=
  ⟨World.ownsRow_lit (e := 3) (size := 1) (base := B) w #[.int .i64 z] 1 hB (by unfold maxLen; omega) (by simp)⟩
theorem ints_one (w : World) (z : Int) (E : TypeId) : IntsAt (w.alloc (.cells #[.int .i64 z] E)) (some ⟨w.heap.size, 0, none⟩) 1 [z] := ⟨rfl, fun q hq => ⟨_, 0, rfl, by
  obtain rfl : q = 0 := by omega
  exact (cell_top _ _ _ _ _ rfl).trans rfl⟩⟩
/-- one number of a slice of integers, in later worlds, too -/
theorem IntsAt.one {w : World} {a : Option Addr} {n : Nat} {xs : List Int} (h : IntsAt w a n xs) (i : Nat) (hi : i < n) : ∃ b o, a = some ⟨b, o, none⟩ ∧ ∀ w', Ext w w' → w'.cell? ⟨b, o + i, none⟩ = some (.int .i64 (xs.getD i 0)) := by
  obtain ⟨b, o, rfl, hc⟩ := h.get i hi
  exact ⟨b, o, rfl, fun w' hx => (hx.cell (p := ⟨b, o + i, none⟩) (World.block_lt_of_cell? w _ hc)).trans hc⟩
/-- what a round of 'heights' does with numbers -/
structure HtStep (p : List Stp) (i k : Nat) (H L Z : Int) : Prop where
  now : htAt i p k = H
  next : htAt i p (k + 1) = H + L * Z
  mul : IntKind.i64.wrap (L * Z) = L * Z
  add : IntKind.i64.wrap (H + L * Z) = H + L * Z
theorem ht_step {r : Nat} {p : List Stp} (hp : PathP r p) {i k : Nat} (hi : i < r) (hk : k < p.length) : HtStep p i k (htAt i p k) (lenAt p k) ((wayAt p k).getD i 0) := by
  obtain ⟨hd1, hd2⟩ := hp.dur k hk
  obtain ⟨hw1, hw2⟩ := (hp.way k hk).2 i hi
  have h1 : lenAt p k * (wayAt p k).getD i 0 ≤ lenAt p k * 1000 := Int.mul_le_mul_of_nonneg_left hw2 (by omega)
  have h2 : lenAt p k * (-1000) ≤ lenAt p k * (wayAt p k).getD i 0 := Int.mul_le_mul_of_nonneg_left hw1 (by omega)
  have h3 := ht_small hp hi k (by omega)
  exact ⟨rfl, rfl, wrap_in (by omega) (by omega), wrap_in (by omega) (by omega)⟩

set_option maxHeartbeats 2000000 in
theorem heights_any (i r : Nat) (a : Option Addr) (n c : Nat) (xs : List Stp) (w : World) (h : TermsAt w a n xs) (hp : PathP r xs) (hi : i < r) :
    Calls Tryz.prog 83 #[.int .i64 i, .slice a n c] w fun e w' => ∃ g c', e = .returned (.slice (some ⟨g, 0, none⟩) (n + 1) c') ∧ OwnI w' w.heap.size (some ⟨g, 0, none⟩) (n + 1) c' (hts i xs n) ∧ Ext w w' := by
  have G := hidP h
  have HP := hidP hp
  have hl := hidP h.len
  have hn60 : n ≤ 60 := by have := hp.len; have := h.len; omega
  have HO0 := hidP (own_one w w.heap.size 0 (Nat.le_refl _))
  have HX0 := hidP (Ext.alloc w (.cells #[.int .i64 0] 3))
  clear h hp
  go_enter Tryz.func83, Tryz.ntmps83
  go_wp2
  go_loopw [5, 11] (fun out ii wr => ∃ (k g co : Nat), k ≤ n ∧ out = .slice (some ⟨g, 0, none⟩) (k + 1) co ∧ ii = .int .i64 k ∧ Hid (OwnI wr w.heap.size (some ⟨g, 0, none⟩) (k + 1) co (hts i xs k)) ∧ Hid (Ext w wr)) (fun _ ii _ => n - (intOf ii).toNat)
  case atStart => exact ⟨0, _, _, Nat.zero_le _, rfl, rfl, HO0, HX0⟩
  case round =>
    obtain ⟨k, g, co, hk, rfl, rfl, HO, HX⟩ := hrel
    by_cases hlt : k < n
    · obtain ⟨b, o, aw, cw, W, L, rfl, HW, HL, hwl, hq⟩ := (G.out.below HX.out).way k hlt
      have HQ := hidP hq
      have hst := ht_step HP.out hi (show k < xs.length by have := hl.out; omega)
      have hwr := (HP.out.way k (by have := hl.out; omega)).1
      rw [HW.out] at hst hwr
      rw [HL.out] at hst
      obtain ⟨q1, q2, qi⟩ := hq wr (Ext.refl wr)
      obtain ⟨bw, ow, rfl, hwi⟩ := qi.one i (by omega)
      have hiw : (i : Int) < (W.length : Int) := by omega
      have hi0 : (0 : Int) ≤ (i : Int) := by omega
      obtain ⟨Z, hZ⟩ : ∃ Z, Z = W.getD i 0 := ⟨_, rfl⟩
      obtain ⟨H, hH⟩ : ∃ H, H = htAt i xs k := ⟨_, rfl⟩
      rw [← hZ, ← hH] at hst
      rw [← hZ] at hwi
      have HWi := hidP hwi
      have HG : Hid (∀ w', Ext wr w' → w'.cell? ⟨g, k, none⟩ = some (.int .i64 H)) := by
        show ∀ w', _
        intro w' hx
        obtain ⟨g', e', _, _, hc, _⟩ := (HO.out.below hx).cell k (by omega)
        simp only [Option.some.injEq, Addr.mk.injEq, and_true] at e'
        rw [← e', hts_get _ _ _ _ (Nat.le_refl _), ← hH] at hc
        exact hc
      have HNx : Hid (hts i xs (k + 1) = hts i xs k ++ [H + L * Z]) := by
        show _ = _
        rw [hts_succ, hst.next]
      have hmul := hst.mul
      have hadd := hst.add
      have hk1 : (k : Int) < (k : Int) + 1 := by omega
      have hk0 : (0 : Int) ≤ (k : Int) := by omega
      clear hst hZ hH qi hwi hq hwr
      have HA2 := hidP (Ext.alloc wr (.cells #[.slice (some ⟨bw, ow, none⟩) W.length cw, .int .i64 L] 69))
      have HS := hidP (fun w' (hx : Ext (wr.alloc (.cells #[.slice (some ⟨bw, ow, none⟩) W.length cw, .int .i64 L] 69)) w') => (StpAt.new wr _ rfl (some ⟨bw, ow, none⟩) W.length cw L 69).below hx)
      obtain ⟨w2, hw2⟩ : ∃ w2, w2 = wr.alloc (.cells #[.slice (some ⟨bw, ow, none⟩) W.length cw, .int .i64 L] 69) := ⟨_, rfl⟩
      rw [← hw2] at HA2 HS
      go_wp2
      rw [← hw2]
      clear hw2 q1 q2
      have hE : Ext w2 w2.drew := Ext.drew w2
      (refine walkR_start (fun w' => Ext w2 w') 15 (by kernel_rfl) ?_; simp only [numbered, List.take_succ_cons, List.take_zero, Nat.zero_add, Nat.reduceAdd, List.length_cons, List.length_nil])
      (repeat (first | (refine walkR_still (v := ?_) rfl (by decide +kernel) rfl (fun _ _ _ h => h) hE ?_ ?_; rotate_left; (focus (intro w' hw'; obtain ⟨q1, q2⟩ := HS.out w' hw'; obtain c1 := HG.out w' (HA2.out.trans hw'); obtain c2 := HWi.out w' (HA2.out.trans hw'); go_simp; all_goals (with_reducible rfl))); simp only [Act.put, List.setIfInBounds_toArray, List.set_cons_zero, List.set_cons_succ]) | (refine walkR_skip rfl (by decide +kernel) rfl (fun _ _ _ h => h) hE ?_; simp only [Act.put, List.setIfInBounds_toArray, List.set_cons_zero, List.set_cons_succ])))
      (refine walkR_only (fun w' => Ext w2 w') rfl (by decide +kernel) rfl ?_ ?_)
      · exact fun _ h => h
      intro K hK
      go_simp
      refine hK _ _ (hE.trans (Ext.alloc _ (.cells #[.int .i64 (H + L * Z)] 3))) ?_
      clear hK K
      have hE3 := hidP (HA2.out.trans (hE.trans (Ext.alloc _ (.cells #[.int .i64 (H + L * Z)] 3))))
      have HO3 := hidP (HO.out.below hE3.out)
      have HI3 := hidP (ints_one w2.drew (H + L * Z) 3)
      have HX3 := hidP (HX.out.trans hE3.out)
      clear hE
      (try simp only [Act.put, List.setIfInBounds_toArray, List.set_cons_zero, List.set_cons_succ])
      (refine walkR_tail (by rfl) (by kernel_rfl) ?_; simp only [List.drop_succ_cons, List.drop_zero])
      go_wp2_with (at_builtin; refine wpList_append_ints rfl (.tmp 16) (.tmp 30) rfl w.heap.size (some ⟨g, 0, none⟩) (k + 1) co _ rfl HO3.out (some ⟨w2.heap.size, 0, none⟩) 1 1 [H + L * Z] rfl HI3.out (fun e => by cases e) (by omega) HX3.out.size ?_; intro a5 c5 w5 ho5 hg5; have HX5 := hidP (grown_ext hg5 HX3.out HX3.out.size HO3.out.addr_base); rw [← HNx.out] at ho5; have HO5 := hidP ho5; clear ho5 hg5)
      obtain ⟨g5, e5, _⟩ := HO5.out.cell 0 (by omega)
      subst e5
      go_roundw
      case rel => exact ⟨k + 1, g5, c5, by omega, rfl, by go_num, HO5, HX5⟩
      case measure => simp [intOf]; omega
    · obtain rfl : n = k := by omega
      go_wp2
      go_ret
      exact ⟨g, co, rfl, HO.out, HX.out⟩
set_option maxHeartbeats 2000000 in
theorem l9Heights_any (i r : Nat) (a : Option Addr) (n c : Nat) (xs : List Stp) (w : World) (h : TermsAt w a n xs) (hp : PathP r xs) (hi : i < r) :
    Calls Tryz.prog 94 #[.int .i64 i, .slice a n c] w fun e w' => ∃ g c', e = .returned (.slice (some ⟨g, 0, none⟩) (n + 1) c') ∧ OwnI w' w.heap.size (some ⟨g, 0, none⟩) (n + 1) c' (hts i xs n) ∧ Ext w w' := by
  have G := hidP h
  have HP := hidP hp
  have hl := hidP h.len
  have hn60 : n ≤ 60 := by have := hp.len; have := h.len; omega
  have HO0 := hidP (own_one w w.heap.size 0 (Nat.le_refl _))
  have HX0 := hidP (Ext.alloc w (.cells #[.int .i64 0] 3))
  clear h hp
  go_enter Tryz.func94, Tryz.ntmps94
  go_wp2
  go_loopw [5, 6] (fun out ii wr => ∃ (k g co : Nat), k ≤ n ∧ out = .slice (some ⟨g, 0, none⟩) (k + 1) co ∧ ii = .int .i64 k ∧ Hid (OwnI wr w.heap.size (some ⟨g, 0, none⟩) (k + 1) co (hts i xs k)) ∧ Hid (Ext w wr)) (fun _ ii _ => n - (intOf ii).toNat)
  case atStart => exact ⟨0, _, _, Nat.zero_le _, rfl, rfl, HO0, HX0⟩
  case round =>
    obtain ⟨k, g, co, hk, rfl, rfl, HO, HX⟩ := hrel
    by_cases hlt : k < n
    · obtain ⟨b, o, aw, cw, W, L, rfl, HW, HL, hwl, hq⟩ := (G.out.below HX.out).way k hlt
      have HQ := hidP hq
      have hst := ht_step HP.out hi (show k < xs.length by have := hl.out; omega)
      have hwr := (HP.out.way k (by have := hl.out; omega)).1
      rw [HW.out] at hst hwr
      rw [HL.out] at hst
      obtain ⟨q1, q2, qi⟩ := hq wr (Ext.refl wr)
      obtain ⟨bw, ow, rfl, hwi⟩ := qi.one i (by omega)
      have hiw : (i : Int) < (W.length : Int) := by omega
      have hi0 : (0 : Int) ≤ (i : Int) := by omega
      obtain ⟨Z, hZ⟩ : ∃ Z, Z = W.getD i 0 := ⟨_, rfl⟩
      obtain ⟨H, hH⟩ : ∃ H, H = htAt i xs k := ⟨_, rfl⟩
      rw [← hZ, ← hH] at hst
      rw [← hZ] at hwi
      have HWi := hidP hwi
      have HG : Hid (∀ w', Ext wr w' → w'.cell? ⟨g, k, none⟩ = some (.int .i64 H)) := by
        show ∀ w', _
        intro w' hx
        obtain ⟨g', e', _, _, hc, _⟩ := (HO.out.below hx).cell k (by omega)
        simp only [Option.some.injEq, Addr.mk.injEq, and_true] at e'
        rw [← e', hts_get _ _ _ _ (Nat.le_refl _), ← hH] at hc
        exact hc
      have HNx : Hid (hts i xs (k + 1) = hts i xs k ++ [H + L * Z]) := by
        show _ = _
        rw [hts_succ, hst.next]
      have hmul := hst.mul
      have hadd := hst.add
      have hk1 : (k : Int) < (k : Int) + 1 := by omega
      have hk0 : (0 : Int) ≤ (k : Int) := by omega
      clear hst hZ hH qi hwi hq hwr
      clear q1 q2
      obtain ⟨w2, hw2⟩ : ∃ w2, w2 = wr := ⟨_, rfl⟩
      have HA2 : Hid (Ext wr w2) := by rw [hw2]; exact Ext.refl _
      go_wp2
      rw [← hw2]
      clear hw2
      have hE : Ext w2 w2.drew := Ext.drew w2
      (refine walkR_start (fun w' => Ext w2 w') 21 (by kernel_rfl) ?_; simp only [numbered, List.take_succ_cons, List.take_zero, Nat.zero_add, Nat.reduceAdd, List.length_cons, List.length_nil])
      (repeat (first | (refine walkR_still (v := ?_) rfl (by decide +kernel) rfl (fun _ _ _ h => h) hE ?_ ?_; rotate_left; (focus (intro w' hw'; obtain ⟨q1, q2, _⟩ := HQ.out w' (HA2.out.trans hw'); obtain c1 := HG.out w' (HA2.out.trans hw'); obtain c2 := HWi.out w' (HA2.out.trans hw'); go_simp; all_goals (with_reducible rfl))); simp only [Act.put, List.setIfInBounds_toArray, List.set_cons_zero, List.set_cons_succ]) | (refine walkR_skip rfl (by decide +kernel) rfl (fun _ _ _ h => h) hE ?_; simp only [Act.put, List.setIfInBounds_toArray, List.set_cons_zero, List.set_cons_succ])))
      (refine walkR_only (fun w' => Ext w2 w') rfl (by decide +kernel) rfl ?_ ?_)
      · exact fun _ h => h
      intro K hK
      go_simp
      refine hK _ _ (hE.trans (Ext.alloc _ (.cells #[.int .i64 (H + L * Z)] 3))) ?_
      clear hK K
      have hE3 := hidP (HA2.out.trans (hE.trans (Ext.alloc _ (.cells #[.int .i64 (H + L * Z)] 3))))
      have HO3 := hidP (HO.out.below hE3.out)
      have HI3 := hidP (ints_one w2.drew (H + L * Z) 3)
      have HX3 := hidP (HX.out.trans hE3.out)
      clear hE
      (try simp only [Act.put, List.setIfInBounds_toArray, List.set_cons_zero, List.set_cons_succ])
      (refine walkR_tail (by rfl) (by kernel_rfl) ?_; simp only [List.drop_succ_cons, List.drop_zero])
      go_wp2_with (at_builtin; refine wpList_append_ints rfl (.tmp 14) (.tmp 34) rfl w.heap.size (some ⟨g, 0, none⟩) (k + 1) co _ rfl HO3.out (some ⟨w2.heap.size, 0, none⟩) 1 1 [H + L * Z] rfl HI3.out (fun e => by cases e) (by omega) HX3.out.size ?_; intro a5 c5 w5 ho5 hg5; have HX5 := hidP (grown_ext hg5 HX3.out HX3.out.size HO3.out.addr_base); rw [← HNx.out] at ho5; have HO5 := hidP ho5; clear ho5 hg5)
      obtain ⟨g5, e5, _⟩ := HO5.out.cell 0 (by omega)
      subst e5
      go_roundw
      case rel => exact ⟨k + 1, g5, c5, by omega, rfl, by go_num, HO5, HX5⟩
      case measure => simp [intOf]; omega
    · obtain rfl : n = k := by omega
      go_wp2
      go_ret
      exact ⟨g, co, rfl, HO.out, HX.out⟩
end Go.Proofs.YtfikkfbnlegflaaGreatDoor

namespace Go.Proofs.YtfikkfbnlegflaaGreatDoor
open Go.RowKit

theorem OwnI.stored {w : World} {B g n c : Nat} {xs : List Int} (h : OwnI w B (some ⟨g, 0, none⟩) n c xs) (k : Nat) (v : Int) : OwnI (w.setCell ⟨g, k, none⟩ (.int .i64 v)) B (some ⟨g, 0, none⟩) n c (xs.set k v) := by
  have := (h.row.stored k (.int .i64 v)).1
  rw [show (ivs xs).set k (.int .i64 v) = ivs (xs.set k v) by simp [ivs, List.map_set]] at this
  exact ⟨this⟩
theorem partly_at (xs ys : List Int) (k : Nat) (h1 : k ≤ ys.length) : (partly xs ys k).getD k 0 = xs.getD k 0 := by
  simp only [partly, List.getD_eq_getElem?_getD]
  rw [List.getElem?_append_right (by simp; omega)]
  simp [Nat.min_eq_left h1]
/-- what a round of a reflection does with numbers -/
structure RfStep (r : Nat) (ts W : List Int) (i k : Nat) (A Z T : Int) : Prop where
  a : W.getD k 0 = A
  z : W.getD i 0 = Z
  t : atM ts r k i = T
  res : (refl r ts i W).getD k 0 = A - Z * T
  mul : IntKind.i64.wrap (Z * T) = Z * T
  sub : IntKind.i64.wrap (A - Z * T) = A - Z * T
theorem rf_step {r : Nat} {ts W : List Int} (hT : typeB r ts = true) {i k : Nat} (hk : k < r) (hb : ∀ j, j < r → -1000 ≤ W.getD j 0 ∧ W.getD j 0 ≤ 1000) (hi : i < r) : RfStep r ts W i k (W.getD k 0) (W.getD i 0) (atM ts r k i) := by
  have h1 := hb k hk
  have h2 := hb i hi
  have h3 : -3 ≤ atM ts r k i ∧ atM ts r k i ≤ 2 := typeB_entry hT _
  have h4 : -3000 ≤ W.getD i 0 * atM ts r k i ∧ W.getD i 0 * atM ts r k i ≤ 3000 := by
    obtain ⟨h2a, h2b⟩ := h2
    obtain ⟨h3a, h3b⟩ := h3
    generalize W.getD i 0 = x at *
    generalize atM ts r k i = y at *
    rcases (by omega : y = -3 ∨ y = -2 ∨ y = -1 ∨ y = 0 ∨ y = 1 ∨ y = 2) with rfl | rfl | rfl | rfl | rfl | rfl <;> omega
  exact ⟨rfl, rfl, rfl, refl_get r ts i W k hk, wrap_in (by omega) (by omega), wrap_in (by omega) (by omega)⟩

set_option maxHeartbeats 2000000 in
theorem reflectWeight_any (R : Nat) (ta : Option Addr) (tn tc : Nat) (ts : List Int) (i : Nat) (a : Option Addr) (n c : Nat) (W : List Int) (w : World) (hc : IntsAt w ta tn ts) (hT : typeB R ts = true) (hi : i < R) (h : IntsAt w a n W) (hnil : a = none → c = 0) (hW : W.length = R)
    (hb : ∀ j, j < R → -1000 ≤ W.getD j 0 ∧ W.getD j 0 ≤ 1000) :
    Calls Tryz.prog 132 #[carV R ta tn tc, .int .i64 i, .slice a n c] w fun e w' => ∃ a' c', e = .returned (.slice a' n c') ∧ OwnI w' w.heap.size a' n c' (refl R ts i W) ∧ Ext w w' := by
  have hx1 := Ext.alloc w (.cells #[.int .i64 R, .slice ta tn tc] 31)
  have HC := hidP (fun w' (hx : Ext (w.alloc (.cells #[.int .i64 R, .slice ta tn tc] 31)) w') => (CarAt.new w _ rfl (R : Int) ta tn tc 31).below hx)
  have HX1 := hidP hx1
  have hnR : n = R := by have := h.len; omega
  subst hnR
  have hrk := typeB_rank hT
  have HAt := hidP (fun w' (hx : Ext w w') (k : Nat) (hk : k < n) => cartAt_any (n : Int) ta tn tc ts k i w' (hc.below hx) (by have := hc.len; omega) (by omega) (by omega) (by omega))
  have HCl := hidP (clone_any a n c W _ (h.below hx1) hnil (by omega))
  have HI := hidP h
  have HT := hidP hT
  have HB := hidP hb
  have HW := hidP hW
  have hs1 : w.heap.size ≤ (w.alloc (.cells #[.int .i64 n, .slice ta tn tc] 31)).heap.size := hx1.size
  have hn4 : n ≤ 4 := by omega
  clear hc h hnil hx1 hT hb hW hrk
  obtain ⟨w1, hw1⟩ : ∃ w1, w1 = w.alloc (.cells #[.int .i64 n, .slice ta tn tc] 31) := ⟨_, rfl⟩
  rw [← hw1] at HC HX1 HCl hs1
  have HS1 := hidP hs1
  clear hs1
  obtain ⟨b, o, rfl, hwi⟩ := HI.out.one i hi
  have HWi := hidP hwi
  have hi0 : (0 : Int) ≤ (i : Int) := by omega
  have hin : (i : Int) < (n : Int) := by omega
  have HL : Hid ((refl n ts i W).length = n) := refl_length _ _ _ _
  clear hwi
  go_enter Tryz.func132, Tryz.ntmps132
  go_wp2_with fail
  rw [← hw1]
  clear hw1
  refine HCl.out.mono ?_
  rintro e w2 ⟨a1, c1, rfl, ho, hx⟩
  obtain ⟨g, rfl, _⟩ := ho.cell i hi
  have HX2 := hidP hx
  have HG1 : Hid (w1.heap.size ≤ g) := (ho.at_base g 0 rfl).1
  have HO2 := hidP (ho.base (B' := w.heap.size) HS1.out)
  clear ho hx HCl
  go_wp2
  go_loopw [13] (fun ii wr => ∃ k : Nat, k ≤ n ∧ ii = .int .i64 k ∧ Hid (OwnI wr w.heap.size (some ⟨g, 0, none⟩) n c1 (partly W (refl n ts i W) k)) ∧ Hid (Ext w1 wr)) (fun ii _ => n - (intOf ii).toNat)
  case atStart => exact ⟨0, Nat.zero_le _, rfl, by rw [partly_zero]; exact HO2, HX2⟩
  case round =>
    obtain ⟨k, hk, rfl, HO, HX⟩ := hrel

    by_cases hlt : k < n
    · have hst := rf_step HT.out hlt HB.out hi
      obtain ⟨A, hA⟩ : ∃ A, A = W.getD k 0 := ⟨_, rfl⟩
      obtain ⟨Z, hZ⟩ : ∃ Z, Z = W.getD i 0 := ⟨_, rfl⟩
      obtain ⟨T, hT⟩ : ∃ T, T = atM ts n k i := ⟨_, rfl⟩
      rw [← hA, ← hZ, ← hT] at hst
      obtain ⟨b', o', e', hwk⟩ := HI.out.one k hlt
      simp only [Option.some.injEq, Addr.mk.injEq, and_true] at e'
      obtain ⟨rfl, rfl⟩ := e'
      have HF : Hid (∀ w', Ext wr w' → w'.cell? ⟨g, k, none⟩ = some (.int .i64 A) ∧ w'.frozen? ⟨g, k, none⟩ = false ∧ w'.cell? ⟨b, o + i, none⟩ = some (.int .i64 Z) ∧ w'.cell? ⟨b, o + k, none⟩ = some (.int .i64 A)) := by
        show ∀ w', _
        intro w' hx
        obtain ⟨g', e', _, _, q1, q2⟩ := (HO.out.below hx).cell k hlt
        simp only [Option.some.injEq, Addr.mk.injEq, and_true] at e'
        subst e'
        rw [partly_at _ _ _ (by rw [HL.out]; omega), ← hA] at q1
        have q3 := HWi.out w' ((HX1.out.trans HX.out).trans hx)
        have q4 := hwk w' ((HX1.out.trans HX.out).trans hx)
        rw [← hZ] at q3
        rw [← hA] at q4
        exact ⟨q1, q2, q3, q4⟩
      have HCk := hidP (fun w' (hx : Ext w1 w') => HAt.out w' (HX1.out.trans hx) k hlt)
      have HSt : Hid (∀ w', Ext wr w' → OwnI (w'.setCell ⟨g, k, none⟩ (.int .i64 (A - Z * T))) w.heap.size (some ⟨g, 0, none⟩) n c1 (partly W (refl n ts i W) (k + 1))) := by
        show ∀ w', _
        intro w' hx
        have h1 := (HO.out.below hx).stored k (A - Z * T)
        rw [← hst.res] at h1
        rw [partly_succ W (refl n ts i W) n k hlt HW.out HL.out] at h1
        rw [← hst.res]
        exact h1
      have HBg := hidP ((HO2.out.at_base g 0 rfl).1)
      have hmul := hst.mul
      have hsub := hst.sub
      simp only [Int.toNat_natCast, ← hT] at HCk
      have hk0 : (0 : Int) ≤ (k : Int) := by omega
      have hkn : (k : Int) < (n : Int) := by omega
      clear hst hA hZ hT hwk
      have hE : Ext wr wr.drew := Ext.drew wr
      go_wp2
      (refine walkR_start (fun w' => Ext wr w') 14 (by kernel_rfl) ?_; simp only [numbered, List.take_succ_cons, List.take_zero, Nat.zero_add, Nat.reduceAdd, List.length_cons, List.length_nil])
      (repeat (first | (refine walkR_still (v := ?_) rfl (by decide +kernel) rfl (fun _ _ _ h => h) hE ?_ ?_; rotate_left; (focus (intro w' hw'; obtain ⟨q1, q2, q3, q4⟩ := HF.out w' hw'; obtain ⟨f0, f1⟩ := HC.out w' (HX.out.trans hw'); go_simp; all_goals (with_reducible rfl))); simp only [Act.put, List.setIfInBounds_toArray, List.set_cons_zero, List.set_cons_succ]) | (refine walkR_skip rfl (by decide +kernel) rfl (fun _ _ _ h => h) hE ?_; simp only [Act.put, List.setIfInBounds_toArray, List.set_cons_zero, List.set_cons_succ])))
      (refine walkR_only (fun w' => Ext wr w') rfl (by decide +kernel) rfl (fun _ h => h) ?_; intro K hK; go_simp; refine (HCk.out _ (HX.out.trans hE)).mono ?_; rintro e w3 ⟨rfl, hx3⟩; refine hK _ _ (hE.trans hx3) ?_; clear hK K; (try simp only [Act.put, List.setIfInBounds_toArray, List.set_cons_zero, List.set_cons_succ]))
      have hE3 := hE.trans hx3
      clear hx3 hE
      (repeat (first | (refine walkR_still (v := ?_) rfl (by decide +kernel) rfl (fun _ _ _ h => h) hE3 ?_ ?_; rotate_left; (focus (intro w' hw'; obtain ⟨q1, q2, q3, q4⟩ := HF.out w' hw'; go_simp; all_goals (with_reducible rfl))); simp only [Act.put, List.setIfInBounds_toArray, List.set_cons_zero, List.set_cons_succ]) | (refine walkR_skip rfl (by decide +kernel) rfl (fun _ _ _ h => h) hE3 ?_; simp only [Act.put, List.setIfInBounds_toArray, List.set_cons_zero, List.set_cons_succ])))
      (refine walkR_tail (by rfl) (by kernel_rfl) ?_; simp only [List.drop_succ_cons, List.drop_zero])
      obtain ⟨q1, q2, q3, q4⟩ := HF.out w3 hE3
      have HO3 := hidP (HSt.out w3 hE3)
      have HX3 : Hid (Ext w1 (w3.setCell ⟨g, k, none⟩ (.int .i64 (A - Z * T)))) := Ext.setNew (HX.out.trans hE3) _ _ (by have := HG1.out; exact this) _
      clear q3 q4 hE3
      go_wp2
      go_roundw
      case rel => exact ⟨k + 1, by omega, by go_num, HO3, HX3⟩
      case measure => simp [intOf]; omega
    · obtain rfl : n = k := by omega
      have HD : Hid (partly W (refl n ts i W) n = refl n ts i W) := partly_all _ _ _ HW.out HL.out
      rw [HD.out] at HO
      go_wp2
      go_ret
      exact ⟨_, _, rfl, HO.out, HX1.out.trans HX.out⟩
set_option maxHeartbeats 2000000 in
theorem l6Reflect_any (R : Nat) (ta : Option Addr) (tn tc : Nat) (ts : List Int) (i : Nat) (a : Option Addr) (n c : Nat) (W : List Int) (w : World) (hc : IntsAt w ta tn ts) (hT : typeB R ts = true) (hi : i < R) (h : IntsAt w a n W) (hnil : a = none → c = 0) (hW : W.length = R)
    (hb : ∀ j, j < R → -1000 ≤ W.getD j 0 ∧ W.getD j 0 ≤ 1000) :
    Calls Tryz.prog 114 #[carV R ta tn tc, .int .i64 i, .slice a n c] w fun e w' => ∃ a' c', e = .returned (.slice a' n c') ∧ OwnI w' w.heap.size a' n c' (refl R ts i W) ∧ Ext w w' := by
  have hx1 := Ext.alloc w (.cells #[.int .i64 R, .slice ta tn tc] 31)
  have HC := hidP (fun w' (hx : Ext (w.alloc (.cells #[.int .i64 R, .slice ta tn tc] 31)) w') => (CarAt.new w _ rfl (R : Int) ta tn tc 31).below hx)
  have HX1 := hidP hx1
  have hnR : n = R := by have := h.len; omega
  subst hnR
  have hrk := typeB_rank hT
  have HAt := hidP (fun w' (hx : Ext w w') (k : Nat) (hk : k < n) => l5At_any (n : Int) ta tn tc ts k i w' (hc.below hx) (by have := hc.len; omega) (by omega) (by omega) (by omega))
  have HCl := hidP (l1Ints_any a n c W _ (h.below hx1) hnil (by omega))
  have HI := hidP h
  have HT := hidP hT
  have HB := hidP hb
  have HW := hidP hW
  have hs1 : w.heap.size ≤ (w.alloc (.cells #[.int .i64 n, .slice ta tn tc] 31)).heap.size := hx1.size
  have hn4 : n ≤ 4 := by omega
  clear hc h hnil hx1 hT hb hW hrk
  obtain ⟨w1, hw1⟩ : ∃ w1, w1 = w.alloc (.cells #[.int .i64 n, .slice ta tn tc] 31) := ⟨_, rfl⟩
  rw [← hw1] at HC HX1 HCl hs1
  have HS1 := hidP hs1
  clear hs1
  obtain ⟨b, o, rfl, hwi⟩ := HI.out.one i hi
  have HWi := hidP hwi
  have hi0 : (0 : Int) ≤ (i : Int) := by omega
  have hin : (i : Int) < (n : Int) := by omega
  have HL : Hid ((refl n ts i W).length = n) := refl_length _ _ _ _
  clear hwi
  go_enter Tryz.func114, Tryz.ntmps114
  go_wp2_with fail
  rw [← hw1]
  clear hw1
  refine HCl.out.mono ?_
  rintro e w2 ⟨a1, c1, rfl, ho, hx⟩
  obtain ⟨g, rfl, _⟩ := ho.cell i hi
  have HX2 := hidP hx
  have HG1 : Hid (w1.heap.size ≤ g) := (ho.at_base g 0 rfl).1
  have HO2 := hidP (ho.base (B' := w.heap.size) HS1.out)
  clear ho hx HCl
  go_wp2
  go_loopw [8] (fun ii wr => ∃ k : Nat, k ≤ n ∧ ii = .int .i64 k ∧ Hid (OwnI wr w.heap.size (some ⟨g, 0, none⟩) n c1 (partly W (refl n ts i W) k)) ∧ Hid (Ext w1 wr)) (fun ii _ => n - (intOf ii).toNat)
  case atStart => exact ⟨0, Nat.zero_le _, rfl, by rw [partly_zero]; exact HO2, HX2⟩
  case round =>
    obtain ⟨k, hk, rfl, HO, HX⟩ := hrel
    obtain ⟨y0, y1⟩ := HC.out wr HX.out
    by_cases hlt : k < n
    · have hst := rf_step HT.out hlt HB.out hi
      obtain ⟨A, hA⟩ : ∃ A, A = W.getD k 0 := ⟨_, rfl⟩
      obtain ⟨Z, hZ⟩ : ∃ Z, Z = W.getD i 0 := ⟨_, rfl⟩
      obtain ⟨T, hT⟩ : ∃ T, T = atM ts n k i := ⟨_, rfl⟩
      rw [← hA, ← hZ, ← hT] at hst
      obtain ⟨b', o', e', hwk⟩ := HI.out.one k hlt
      simp only [Option.some.injEq, Addr.mk.injEq, and_true] at e'
      obtain ⟨rfl, rfl⟩ := e'
      have HF : Hid (∀ w', Ext wr w' → w'.cell? ⟨g, k, none⟩ = some (.int .i64 A) ∧ w'.frozen? ⟨g, k, none⟩ = false ∧ w'.cell? ⟨b, o + i, none⟩ = some (.int .i64 Z) ∧ w'.cell? ⟨b, o + k, none⟩ = some (.int .i64 A)) := by
        show ∀ w', _
        intro w' hx
        obtain ⟨g', e', _, _, q1, q2⟩ := (HO.out.below hx).cell k hlt
        simp only [Option.some.injEq, Addr.mk.injEq, and_true] at e'
        subst e'
        rw [partly_at _ _ _ (by rw [HL.out]; omega), ← hA] at q1
        have q3 := HWi.out w' ((HX1.out.trans HX.out).trans hx)
        have q4 := hwk w' ((HX1.out.trans HX.out).trans hx)
        rw [← hZ] at q3
        rw [← hA] at q4
        exact ⟨q1, q2, q3, q4⟩
      have HCk := hidP (fun w' (hx : Ext w1 w') => HAt.out w' (HX1.out.trans hx) k hlt)
      have HSt : Hid (∀ w', Ext wr w' → OwnI (w'.setCell ⟨g, k, none⟩ (.int .i64 (A - Z * T))) w.heap.size (some ⟨g, 0, none⟩) n c1 (partly W (refl n ts i W) (k + 1))) := by
        show ∀ w', _
        intro w' hx
        have h1 := (HO.out.below hx).stored k (A - Z * T)
        rw [← hst.res] at h1
        rw [partly_succ W (refl n ts i W) n k hlt HW.out HL.out] at h1
        rw [← hst.res]
        exact h1
      have HBg := hidP ((HO2.out.at_base g 0 rfl).1)
      have hmul := hst.mul
      have hsub := hst.sub
      simp only [Int.toNat_natCast, ← hT] at HCk
      have hk0 : (0 : Int) ≤ (k : Int) := by omega
      have hkn : (k : Int) < (n : Int) := by omega
      clear hst hA hZ hT hwk
      have hE : Ext wr wr.drew := Ext.drew wr
      go_wp2
      (refine walkR_start (fun w' => Ext wr w') 16 (by kernel_rfl) ?_; simp only [numbered, List.take_succ_cons, List.take_zero, Nat.zero_add, Nat.reduceAdd, List.length_cons, List.length_nil])
      (repeat (first | (refine walkR_still (v := ?_) rfl (by decide +kernel) rfl (fun _ _ _ h => h) hE ?_ ?_; rotate_left; (focus (intro w' hw'; obtain ⟨q1, q2, q3, q4⟩ := HF.out w' hw'; obtain ⟨f0, f1⟩ := HC.out w' (HX.out.trans hw'); go_simp; all_goals (with_reducible rfl))); simp only [Act.put, List.setIfInBounds_toArray, List.set_cons_zero, List.set_cons_succ]) | (refine walkR_skip rfl (by decide +kernel) rfl (fun _ _ _ h => h) hE ?_; simp only [Act.put, List.setIfInBounds_toArray, List.set_cons_zero, List.set_cons_succ])))
      (refine walkR_only (fun w' => Ext wr w') rfl (by decide +kernel) rfl (fun _ h => h) ?_; intro K hK; go_simp; refine (HCk.out _ (HX.out.trans hE)).mono ?_; rintro e w3 ⟨rfl, hx3⟩; refine hK _ _ (hE.trans hx3) ?_; clear hK K; (try simp only [Act.put, List.setIfInBounds_toArray, List.set_cons_zero, List.set_cons_succ]))
      have hE3 := hE.trans hx3
      clear hx3 hE
      (repeat (first | (refine walkR_still (v := ?_) rfl (by decide +kernel) rfl (fun _ _ _ h => h) hE3 ?_ ?_; rotate_left; (focus (intro w' hw'; obtain ⟨q1, q2, q3, q4⟩ := HF.out w' hw'; go_simp; all_goals (with_reducible rfl))); simp only [Act.put, List.setIfInBounds_toArray, List.set_cons_zero, List.set_cons_succ]) | (refine walkR_skip rfl (by decide +kernel) rfl (fun _ _ _ h => h) hE3 ?_; simp only [Act.put, List.setIfInBounds_toArray, List.set_cons_zero, List.set_cons_succ])))
      (refine walkR_tail (by rfl) (by kernel_rfl) ?_; simp only [List.drop_succ_cons, List.drop_zero])
      obtain ⟨q1, q2, q3, q4⟩ := HF.out w3 hE3
      have HO3 := hidP (HSt.out w3 hE3)
      have HX3 : Hid (Ext w1 (w3.setCell ⟨g, k, none⟩ (.int .i64 (A - Z * T)))) := Ext.setNew (HX.out.trans hE3) _ _ (by have := HG1.out; exact this) _
      clear q3 q4 hE3
      go_wp2
      go_roundw
      case rel => exact ⟨k + 1, by omega, by go_num, HO3, HX3⟩
      case measure => simp [intOf]; omega
    · obtain rfl : n = k := by omega
      have HD : Hid (partly W (refl n ts i W) n = refl n ts i W) := partly_all _ _ _ HW.out HL.out
      rw [HD.out] at HO
      go_wp2
      go_ret
      exact ⟨_, _, rfl, HO.out, HX1.out.trans HX.out⟩
end Go.Proofs.YtfikkfbnlegflaaGreatDoor

namespace Go.Proofs.YtfikkfbnlegflaaGreatDoor
open Go.RowKit

theorem tdiv_bound (a b : Int) : -(a.natAbs : Int) ≤ a.tdiv b ∧ a.tdiv b ≤ a.natAbs := by
  have h : (a.tdiv b).natAbs ≤ a.natAbs := by
    rw [Int.natAbs_tdiv]
    exact Nat.div_le_self _ _
  omega
/-- the time within a step at which a height is met, and whether it is an integer -/
def crossV (f s t : Int) : Int × Bool := if f = t then (0, true) else ((t - f).tdiv s, (t - f).tmod s == 0)

set_option maxHeartbeats 1000000 in
theorem crossing_any (f s t : Int) (w : World) (hf : -1000000000 ≤ f ∧ f ≤ 1000000000) (ht : -1000000000 ≤ t ∧ t ≤ 1000000000) (hs : f ≠ t → s ≠ 0) :
    Calls Tryz.prog 98 #[.int .i64 f, .int .i64 s, .int .i64 t] w fun e w' => e = .returned (.tuple #[.int .i64 (crossV f s t).1, .bool (crossV f s t).2]) ∧ Ext w w' := by
  by_cases h : f = t
  · have HV : Hid (crossV f s t = (0, true)) := if_pos h
    rw [HV.out]
    have hb : (f == t) = true := by simp [h]
    clear h hs
    go_enter Tryz.func98, Tryz.ntmps98
    go_wp2
    refine bodyPost_ret (v := .tuple #[.int .i64 0, .bool true]) (by simp [results, Tryz.results98, go_sem]) rfl ⟨rfl, Ext.refl _⟩
  · have HV : Hid (crossV f s t = ((t - f).tdiv s, (t - f).tmod s == 0)) := if_neg h
    rw [HV.out]
    have hb : (f == t) = false := by simp [h]
    have hs0 : ¬ (s = 0) := hs h
    have hd := tdiv_bound (t - f) s
    have h1 : IntKind.i64.wrap (t - f) = t - f := wrap_in (by omega) (by omega)
    have h2 : IntKind.i64.wrap ((t - f).tdiv s) = (t - f).tdiv s := wrap_in (by omega) (by omega)
    have hE : Ext w w.drew := Ext.drew w
    clear h hs hd
    go_enter Tryz.func98, Tryz.ntmps98
    go_wp2
    (refine walkR_start (fun w' => Ext w w') 12 (by kernel_rfl) ?_; simp only [numbered, List.take_succ_cons, List.take_zero, Nat.zero_add, Nat.reduceAdd, List.length_cons, List.length_nil])
    (repeat (first | (refine walkR_still (v := ?_) rfl (by decide +kernel) rfl (fun _ _ _ h => h) hE ?_ ?_; rotate_left; (focus (intro w' hw'; skip; go_simp; all_goals (with_reducible rfl))); simp only [Act.put, List.setIfInBounds_toArray, List.set_cons_zero, List.set_cons_succ]) | (refine walkR_skip rfl (by decide +kernel) rfl (fun _ _ _ h => h) hE ?_; simp only [Act.put, List.setIfInBounds_toArray, List.set_cons_zero, List.set_cons_succ])))
    (refine walkR_tail (by rfl) (by kernel_rfl) ?_; simp only [List.drop_succ_cons, List.drop_zero])
    go_wp2
    refine bodyPost_ret (v := .tuple #[.int .i64 ((t - f).tdiv s), .bool ((t - f).tmod s == 0)]) (by simp [results, Tryz.results98, go_sem]) rfl ⟨rfl, hE⟩
def l9CrossV (f h s t : Int) : Int := if (t - h).tmod s = 0 then f + (t - h).tdiv s else -1
set_option maxHeartbeats 1000000 in
theorem l9Cross_any (f h s t : Int) (w : World) (hf : 0 ≤ f ∧ f ≤ 1000000000) (hh : -1000000000 ≤ h ∧ h ≤ 1000000000) (ht : -1000000000 ≤ t ∧ t ≤ 1000000000) (hs : s ≠ 0) :
    Calls Tryz.prog 130 #[.int .i64 f, .int .i64 h, .int .i64 s, .int .i64 t] w fun e w' => e = .returned (.int .i64 (l9CrossV f h s t)) ∧ w = w' := by
  have hd := tdiv_bound (t - h) s
  have h1 : IntKind.i64.wrap (t - h) = t - h := wrap_in (by omega) (by omega)
  have h2 : IntKind.i64.wrap ((t - h).tdiv s) = (t - h).tdiv s := wrap_in (by omega) (by omega)
  have h3 : IntKind.i64.wrap (f + (t - h).tdiv s) = f + (t - h).tdiv s := wrap_in (by omega) (by omega)
  have hs0 : ¬ (s = 0) := hs
  by_cases hm : (t - h).tmod s = 0
  · have HV : Hid (l9CrossV f h s t = f + (t - h).tdiv s) := if_pos hm
    rw [HV.out]
    have hb : ((t - h).tmod s != 0) = false := by simp [hm]
    clear hm hd hs
    go_enter Tryz.func130, Tryz.ntmps130
    go_wp2
    go_ret
    exact ⟨rfl, rfl⟩
  · have HV : Hid (l9CrossV f h s t = -1) := if_neg hm
    rw [HV.out]
    have hb : ((t - h).tmod s != 0) = true := by simp [hm]
    clear hm hd hs
    go_enter Tryz.func130, Tryz.ntmps130
    go_wp2
    go_ret
    exact ⟨rfl, rfl⟩
theorem l9Within_any (n lo hi : Int) (w : World) :
    Calls Tryz.prog 131 #[.int .i64 n, .int .i64 lo, .int .i64 hi] w fun e w' => e = .returned (.int .i64 (within n lo hi)) ∧ w = w' := by
  by_cases h1 : n < lo
  · have HV : Hid (within n lo hi = lo) := if_pos h1
    rw [HV.out]
    go_enter Tryz.func131, Tryz.ntmps131
    go_wp2
    go_ret
    exact ⟨rfl, rfl⟩
  · by_cases h2 : n > hi
    · have HV : Hid (within n lo hi = hi) := by
        show _ = _
        unfold within
        rw [if_neg h1, if_pos h2]
      rw [HV.out]
      go_enter Tryz.func131, Tryz.ntmps131
      go_wp2
      go_ret
      exact ⟨rfl, rfl⟩
    · have HV : Hid (within n lo hi = n) := by
        show _ = _
        unfold within
        rw [if_neg h1, if_neg h2]
      rw [HV.out]
      go_enter Tryz.func131, Tryz.ntmps131
      go_wp2
      go_ret
      exact ⟨rfl, rfl⟩
end Go.Proofs.YtfikkfbnlegflaaGreatDoor

namespace Go.Proofs.YtfikkfbnlegflaaGreatDoor
open Go.RowKit

end Go.Proofs.YtfikkfbnlegflaaGreatDoor

namespace Go.Proofs.YtfikkfbnlegflaaGreatDoor
open Go.RowKit

set_option maxHeartbeats 1000000 in
theorem eqCartan_any (r1 r2 : Int) (a1 a2 : Option Addr) (n1 n2 c1 c2 : Nat) (xs ys : List Int) (w : World) (h1 : IntsAt w a1 n1 xs) (h2 : IntsAt w a2 n2 ys) (hm1 : n1 ≤ 9223372036854775807) (hm2 : n2 ≤ 9223372036854775807) :
    Calls Tryz.prog 18 #[carV r1 a1 n1 c1, carV r2 a2 n2 c2] w fun e w' => e = .returned (.bool (decide (r1 = r2 ∧ xs = ys))) ∧ Ext w w' := by
  by_cases hd : r1 = r2
  · have hd' : (r1 != r2) = false := by simp [hd]
    have HR : Hid (decide (r1 = r2 ∧ xs = ys) = (xs == ys)) := by
      show _ = _
      by_cases h : xs = ys <;> simp [hd, h]
    have HQ := hidP (fun w' (hx : Ext w w') => eqIntS_any a1 a2 n1 n2 c1 c2 xs ys w' (h1.below hx) (h2.below hx) hm1 hm2)
    clear hd h1 h2
    cases hb : (xs == ys)
    all_goals
      rw [hb] at HR
      go_enter Tryz.func18, Tryz.ntmps18
      go_wp2_with (go_at_call 44; refine (HQ.out _ ((Ext.alloc w _).trans (Ext.alloc _ _))).mono ?_; rintro e w' ⟨rfl, m, rfl⟩)
      go_ret
      exact ⟨ret_bool HR.out.symm, ((Ext.alloc w _).trans (Ext.alloc _ _)).trans (Ext.drewN _ _)⟩
  · have hd' : (r1 != r2) = true := by simp [hd]
    have HR : Hid (decide (r1 = r2 ∧ xs = ys) = false) := by
      show _ = _
      simp [hd]
    clear hd
    go_enter Tryz.func18, Tryz.ntmps18
    go_wp2
    go_ret
    exact ⟨ret_bool HR.out.symm, (Ext.alloc w _).trans (Ext.alloc _ _)⟩
theorem markCartan_any (r : Int) (B : Nat) (a : Option Addr) (n c : Nat) (k0 : Int) (xs : List Int) (w : World) (h : OwnI w B a n c xs)
    (hn : n ≤ 1000000000000) (hk0 : -1000000000000 ≤ k0) (hk1 : k0 ≤ 1000000000000) :
    Calls Tryz.prog 19 #[carV r a n c, .int .i64 k0] w fun e w' => e = .returned (.int .i64 (k0 + n)) ∧ UpdI w w' a n (upFrom k0 n) := by
  have HQ := hidP (fun w' (hx : Ext w w') => markIntS_any a n c k0 xs w' (h.below hx).ints (h.below hx).unfrozen hn hk0 hk1)
  have H := hidP h
  clear h
  go_enter Tryz.func19, Tryz.ntmps19
  go_wp2_with (go_at_call 45; refine (HQ.out _ (Ext.alloc w _)).mono ?_; rintro e w' ⟨rfl, hu⟩)
  go_ret
  exact ⟨rfl, (Ext.alloc w _).upd H.out.ints hu⟩

end Go.Proofs.YtfikkfbnlegflaaGreatDoor

namespace Go.Proofs.YtfikkfbnlegflaaGreatDoor
open Go.RowKit

variable {α : Type}
theorem getD_mapped {β γ : Type} (f : β → γ) (l : List β) (i : Nat) (d : β) (e : γ) (hi : i < l.length) : (l.map f).getD i e = f (l.getD i d) := by
  simp [List.getD_eq_getElem?_getD, hi]
theorem getD_within {β : Type} (l : List β) (i : Nat) (d : β) (hi : i < l.length) : l.getD i d ∈ l := by
  simp [List.getD_eq_getElem?_getD, hi]
/-- the facts of an owned slice's elements, as a list -/
structure ElemK (K : Knd α) (w : World) (B U : Nat) (l : List (Hdr × α)) : Prop where
  each : ∀ z ∈ l, OwnI w B z.1.1 (K.ints z.2).length z.1.2 (K.ints z.2)
  apart : l.Pairwise fun z z' => Apart z.1.1 z'.1.1
  lt : ∀ z ∈ l, ∀ b o, z.1.1 = some ⟨b, o, none⟩ → b < U
theorem ElemK.sub {K : Knd α} {w : World} {B U : Nat} {l l' : List (Hdr × α)} (h : ElemK K w B U l) (hs : l'.Sublist l) : ElemK K w B U l' :=
  ⟨fun z hz => h.each z (hs.subset hz), h.apart.sublist hs, fun z hz => h.lt z (hs.subset hz)⟩
theorem OwnK.list {K : Knd α} {w : World} {B U : Nat} {a : Option Addr} {n c : Nat} {hs : List Hdr} {xs : List α} (h : OwnK K w B U a n c hs xs) :
    ElemK K w B U (hs.zip xs) ∧ (hs.zip xs).map (·.1) = hs ∧ (hs.zip xs).map (·.2) = xs ∧ (hs.zip xs).length = n := by
  have hl := h.hl
  have xl := h.xl
  have hz : (hs.zip xs).length = n := by rw [List.length_zip]; omega
  have hg : ∀ k, (hk : k < (hs.zip xs).length) → (hs.zip xs)[k] = (hs.getD k (none, 0), xs.getD k K.dft) := fun k hk => by
    rw [List.getElem_zip]
    simp [List.getD_eq_getElem?_getD, show k < hs.length by omega, show k < xs.length by omega]
  refine ⟨⟨fun z hz' => ?_, ?_, fun z hz' => ?_⟩, List.map_fst_zip (by omega), List.map_snd_zip (by omega), hz⟩
  · obtain ⟨k, hk, rfl⟩ := List.mem_iff_getElem.1 hz'
    rw [hg k hk]
    exact h.each k (by omega)
  · rw [List.pairwise_iff_getElem]
    intro i j hi hj hij
    rw [hg i hi, hg j hj]
    exact h.apart i j (by omega) (by omega) (by omega)
  · obtain ⟨k, hk, rfl⟩ := List.mem_iff_getElem.1 hz'
    rw [hg k hk]
    exact h.lt k (by omega)
theorem ElemK.own {K : Knd α} {w : World} {B U : Nat} {a : Option Addr} {n c : Nat} {l : List (Hdr × α)} (h : ElemK K w B U l) (hr : w.ownsRow B K.E K.size (.slice a n c) n (K.all (l.map (·.1)) (l.map (·.2)))) (hl : l.length = n) (olt : ∀ b o, a = some ⟨b, o, none⟩ → b < U) :
    OwnK K w B U a n c (l.map (·.1)) (l.map (·.2)) := by
  have g1 : ∀ i, i < n → (l.map (·.1)).getD i (none, 0) = (l.getD i ((none, 0), K.dft)).1 := fun i hi => getD_mapped _ _ _ _ _ (by omega)
  have g2 : ∀ i, i < n → (l.map (·.2)).getD i K.dft = (l.getD i ((none, 0), K.dft)).2 := fun i hi => getD_mapped _ _ _ _ _ (by omega)
  have gm : ∀ i, i < n → l.getD i ((none, 0), K.dft) ∈ l := fun i hi => getD_within _ _ _ (by omega)
  refine ⟨hr, by simpa using hl, by simpa using hl, fun i hi => ?_, fun i j hi hj hne => ?_, fun i hi b o e => ?_, olt⟩
  · rw [g1 i hi, g2 i hi]
    exact h.each _ (gm i hi)
  · rw [g1 i hi, g1 j hj]
    have hp := h.apart
    rw [List.pairwise_iff_getElem] at hp
    have e : ∀ k, (hk : k < l.length) → l.getD k ((none, 0), K.dft) = l[k] := fun k hk => by simp [List.getD_eq_getElem?_getD, hk]
    rw [e i (by omega), e j (by omega)]
    rcases Nat.lt_or_gt_of_ne hne with h3 | h3
    · exact hp i j (by omega) (by omega) h3
    · exact (hp j i (by omega) (by omega) h3).symm
  · rw [g1 i hi] at e
    exact h.lt _ (gm i hi) b o e
/-- what lies elsewhere stays -/
theorem ElemK.kept {K : Knd α} {w w' : World} {B U g : Nat} {l : List (Hdr × α)} (h : ElemK K w B U l) (hg : w.grownBy w' (some g)) (hf : ∀ z ∈ l, ∀ b o, z.1.1 = some ⟨b, o, none⟩ → b ≠ g) : ElemK K w' B U l :=
  ⟨fun z hz => (h.each z hz).grown hg fun b o e => by have := hf z hz b o e; simp only [ne_eq, Option.some.injEq]; exact this, h.apart, h.lt⟩

/-! ### a row of steps, whatever its addresses -/
structure RawS (w : World) (B g n c : Nat) (l : List (Hdr × Stp)) : Prop where
  row : w.ownsRow B stepK.E stepK.size (.slice (some ⟨g, 0, none⟩) n c) n (stepK.all (l.map (·.1)) (l.map (·.2)))
  len : l.length = n
theorem RawS.cells {w : World} {B g n c : Nat} {l : List (Hdr × Stp)} (h : RawS w B g n c l) (k : Nat) (hk : k < n) :
    w.cell? ⟨g, k * 2, none⟩ = some (.slice (l.getD k ((none, 0), ([], 0))).1.1 (l.getD k ((none, 0), ([], 0))).2.1.length (l.getD k ((none, 0), ([], 0))).1.2) ∧ w.cell? ⟨g, k * 2 + 1, none⟩ = some (.int .i64 (l.getD k ((none, 0), ([], 0))).2.2) ∧
    w.frozen? ⟨g, k * 2, none⟩ = false ∧ w.frozen? ⟨g, k * 2 + 1, none⟩ = false := by
  have hl := h.len
  have hml : (l.map (·.1)).length = (l.map (·.2)).length := by simp
  have h0 := h.row.cellAt (k * stepK.size + 0) (by show k * 2 + 0 < n * 2; omega)
  have h1 := h.row.cellAt (k * stepK.size + 1) (by show k * 2 + 1 < n * 2; omega)
  rw [stepK.all_get _ _ hml k 0 (by simp; omega) (by decide), getD_mapped _ _ _ ((none, 0), ([], 0)) _ (by omega), getD_mapped _ _ _ ((none, 0), ([], 0)) _ (by omega)] at h0
  rw [stepK.all_get _ _ hml k 1 (by simp; omega) (by decide), getD_mapped _ _ _ ((none, 0), ([], 0)) _ (by omega), getD_mapped _ _ _ ((none, 0), ([], 0)) _ (by omega)] at h1
  exact ⟨h0, h1, h.row.frozenAt _, h.row.frozenAt _⟩
theorem RawS.placed {w : World} {B g n c : Nat} {l : List (Hdr × Stp)} (h : RawS w B g n c l) (i : Nat) (hi : i < n) (z : Hdr × Stp) :
    RawS ((w.setCell ⟨g, i * 2, none⟩ (.slice z.1.1 z.2.1.length z.1.2)).setCell ⟨g, i * 2 + 1, none⟩ (.int .i64 z.2.2)) B g n c (l.set i z) := by
  have hl := h.len
  have hml : (l.map (·.1)).length = (l.map (·.2)).length := by simp
  have hr1 := (h.row.stored (i * stepK.size + 0) (.slice z.1.1 z.2.1.length z.1.2)).1
  rw [stepK.all_set _ _ hml i 0 (by simp; omega) (by decide) _ z.1 (z.2.1, ((l.map (·.2)).getD i stepK.dft).2) rfl] at hr1
  have hl2 : ((l.map (·.1)).set i z.1).length = ((l.map (·.2)).set i (z.2.1, ((l.map (·.2)).getD i stepK.dft).2)).length := by simp
  have hr2 := (World.ownsRow.stored hr1 (i * stepK.size + 1) (.int .i64 z.2.2)).1
  rw [stepK.all_set _ _ hl2 i 1 (by simp; omega) (by decide) _ z.1 z.2 (by
    rw [OwnK.getD_set _ _ _ _ _ (by simp; omega), OwnK.getD_set _ _ _ _ _ (by simp; omega), if_pos rfl, if_pos rfl]
    rfl)] at hr2
  simp only [List.set_set] at hr2
  refine ⟨?_, by simpa using hl⟩
  rw [List.map_set, List.map_set]
  exact hr2
theorem OwnK.raw {w : World} {B U g n c : Nat} {hs : List Hdr} {xs : List Stp} (h : OwnK stepK w B U (some ⟨g, 0, none⟩) n c hs xs) : RawS w B g n c (hs.zip xs) := by
  obtain ⟨_, h1, h2, h3⟩ := h.list
  exact ⟨by rw [h1, h2]; exact h.row, h3⟩
/-- cells written from a place on: those ahead of it stay -/
theorem row_setCells {B g n c e size : Nat} : ∀ (vs : List Value) (o : Nat) (w : World) (ys : List Value), w.ownsRow B e size (.slice (some ⟨g, 0, none⟩) n c) n ys →
    ∃ zs, (w.setCells g o vs).ownsRow B e size (.slice (some ⟨g, 0, none⟩) n c) n zs ∧ zs.take o = ys.take o ∧ w.grownBy (w.setCells g o vs) (some g)
  | [], o, w, ys, h => ⟨ys, h, rfl, ⟨rfl, rfl, rfl, Nat.le_refl _, fun _ _ _ => rfl⟩⟩
  | v :: vs, o, w, ys, h => by
    obtain ⟨h1, h2⟩ := h.stored o v
    obtain ⟨zs, h3, h4, h5⟩ := row_setCells vs (o + 1) _ _ h1
    refine ⟨zs, h3, ?_, ⟨h5.os.trans h2.os, h5.tape.trans h2.tape, h5.output.trans h2.output, Nat.le_trans h2.size h5.size, fun k hk hne => (h5.block k (Nat.lt_of_lt_of_le hk h2.size) hne).trans (h2.block k hk hne)⟩⟩
    have h6 : (zs.take (o + 1)).take o = ((ys.set o v).take (o + 1)).take o := by rw [h4]
    rw [List.take_take, List.take_take, Nat.min_eq_left (by omega)] at h6
    rw [h6, List.take_set_of_le (Nat.le_refl _)]
end Go.Proofs.YtfikkfbnlegflaaGreatDoor

namespace Go.Proofs.YtfikkfbnlegflaaGreatDoor
open Go.RowKit

theorem run_clear_steps (b off m cc : Nat) (ty : TypeId) (w : World) (hm : 0 < m) (hc : ∀ j, j < m * 2 → (w.cell? ⟨b, off + j, none⟩).isSome = true) (hf : ∀ j, j < m * 2 → w.frozen? ⟨b, off + j, none⟩ = false) :
    ∃ vs, Sem.run Tryz.prog (Builtin.clear_ #[28] ty #[.slice (some ⟨b, off, none⟩) m cc]) w = .ok (.tuple #[]) (w.setCells b off vs) := by
  have hz := Tryz.zeroValue69
  have hl : (Builtin.zeroCells (Value.agg #[.slice none 0 0, .int .i64 0]).cells m).toList.length = m * 2 := by simp [Builtin.zeroCells, Value.cells]
  have h1 : ∀ v ∈ (Builtin.zeroCells (Value.agg #[.slice none 0 0, .int .i64 0]).cells m).toList, v.oneCell' = true := by
    intro v hv
    simp only [Builtin.zeroCells, Array.toList_map, List.mem_map, Value.cells] at hv
    obtain ⟨i, _, rfl⟩ := hv
    have h2 : i % 2 = 0 ∨ i % 2 = 1 := by omega
    rcases h2 with h2 | h2
    · rw [show (#[Value.slice none 0 0, Value.int .i64 0]).size = 2 from rfl, h2]; rfl
    · rw [show (#[Value.slice none 0 0, Value.int .i64 0]).size = 2 from rfl, h2]; rfl
  have hst := run_storeCells_cells (P := Tryz.prog) b off _ 0 w (by rw [hl]; simpa using hc) (by rw [hl]; simpa using hf) h1
  simp only [Nat.add_zero] at hst
  obtain ⟨m', rfl⟩ : ∃ m', m = m' + 1 := ⟨m - 1, by omega⟩
  refine ⟨(Builtin.zeroCells (Value.agg #[.slice none 0 0, .int .i64 0]).cells (m' + 1)).toList, ?_⟩
  simp [Builtin.clear_, run_underlying Tryz.underlying28, hz, hst]
theorem row_take {w : World} {B g n c e size : Nat} {ys : List Value} (h : w.ownsRow B e size (.slice (some ⟨g, 0, none⟩) n c) n ys) (m : Nat) (hm : m ≤ n) : w.ownsRow B e size (.slice (some ⟨g, 0, none⟩) m c) m (ys.take (m * size)) := by
  refine ⟨by rw [List.length_take, h.1]; exact Nat.min_eq_left (Nat.mul_le_mul_right _ hm), ?_⟩
  rcases h.2 with ⟨he, _⟩ | ⟨g', cap, cur, he, hB, hg, hnc, hcm, hcs, ht⟩
  · simp at he
  · simp only [Value.slice.injEq, true_and] at he
    obtain ⟨he, rfl⟩ := he
    refine .inr ⟨g', c, cur, by rw [he], hB, hg, by omega, hcm, hcs, ?_⟩
    rw [← ht, List.take_take, Nat.min_eq_left (Nat.mul_le_mul_right _ hm)]

theorem turned1_any (a : Option Addr) (n c : Nat) (L : Int) (w : World) : Calls Tryz.prog 134 #[.agg #[.slice a n c, .int .i64 L]] w fun e w' => e = .returned (.bool (L == 0)) ∧ Ext w w' := by
  have hx := Ext.alloc w (.cells #[.slice a n c, .int .i64 L] 69)
  have HX := hidP hx
  clear hx
  go_enter Tryz.func134, Tryz.ntmps134
  go_wp2
  go_ret
  exact ⟨rfl, HX.out⟩
theorem callFunc_turned1 (args : Array Value) (w : World) : Sem.run Tryz.prog (callFunc 134 args) w = .ok (.enter 134 args) w := by
  kernel_rfl
def zeroLen (x : Int) : Bool := x == 0
def durs (xs : List Stp) : List Int := xs.map (·.2)
theorem durs_get (xs : List Stp) (k : Nat) : (durs xs).getD k 0 = lenAt xs k := by
  unfold durs lenAt
  simp only [List.getD_eq_getElem?_getD, List.getElem?_map]
  cases xs[k]? <;> rfl
set_option maxHeartbeats 1000000 in
theorem indexStep_any (a : Option Addr) (n c : Nat) (xs : List Stp) (w : World) (h : TermsAt w a n xs) (hn : n ≤ 9223372036854775807) :
    Calls Tryz.prog 155 #[.slice a n c, .func (.func 134) #[] #[]] w fun e w' => e = .returned (.int .i64 (idxL zeroLen (durs xs))) ∧ Ext w w' := by
  have G := hidP h
  have L0 := hidP h.len
  clear h
  have hcf := callFunc_turned1
  go_enter Tryz.func155, Tryz.ntmps155
  go_wp2
  go_loopw [8] (fun i wr => ∃ k : Nat, k ≤ n ∧ Hid (∀ j, j < k → zeroLen ((durs xs).getD j 0) = false) ∧ i = .int .i64 k ∧ Hid (Ext w wr)) (fun i _ => n - (intOf i).toNat)
  case atStart => exact ⟨0, Nat.zero_le _, fun j h => absurd h (Nat.not_lt_zero _), rfl, Ext.refl _⟩
  case round =>
    obtain ⟨k, hk, HJ, rfl, HX⟩ := hrel
    by_cases hlt : k < n
    · obtain ⟨b, o, aw, cw, W, L, rfl, HW, HL, hwl, hq⟩ := (G.out.below HX.out).way k hlt
      obtain ⟨q1, q2, _⟩ := hq wr (Ext.refl wr)
      have HT := hidP (turned1_any aw W.length cw L wr)
      have HZ : Hid (zeroLen ((durs xs).getD k 0) = (L == 0)) := by
        show _ = _
        rw [durs_get, HL.out]
        rfl
      clear hq
      cases hb : (L == 0)
      · rw [hb] at HT HZ
        clear hb
        go_wp2_with fail
        refine HT.out.mono ?_
        rintro e w1 ⟨rfl, hx⟩
        have HX1 := hidP (HX.out.trans hx)
        clear hx q1 q2
        go_wp2
        go_roundw
        case rel =>
          refine ⟨k + 1, by omega, fun j hj => ?_, by go_num, HX1.out⟩
          rcases Nat.lt_succ_iff_lt_or_eq.1 hj with h3 | rfl
          · exact HJ.out j h3
          · exact HZ.out
        case measure => simp [intOf]; omega
      · rw [hb] at HT HZ
        clear hb
        have HI : Hid (idxL zeroLen (durs xs) = (k : Int)) := idxL_at (by unfold durs; rw [List.length_map, L0.out]; exact hlt) HJ.out HZ.out
        go_wp2_with fail
        refine HT.out.mono ?_
        rintro e w1 ⟨rfl, hx⟩
        have HX1 := hidP (HX.out.trans hx)
        clear hx q1 q2
        go_wp2
        go_ret
        exact ⟨ret_int HI.out.symm, HX1.out⟩
    · have HI : Hid (idxL zeroLen (durs xs) = -1) := idxL_none fun j hj => HJ.out j (by unfold durs at hj; rw [List.length_map, L0.out] at hj; omega)
      go_wp2
      go_ret
      exact ⟨ret_int HI.out.symm, HX.out⟩
def keepZ (z : Hdr × Stp) : Bool := z.2.2 != 0
set_option maxRecDepth 100000 in
set_option maxHeartbeats 4000000 in
theorem deleteStep_any (B U g n c : Nat) (hs : List Hdr) (xs : List Stp) (w : World) (h : OwnK stepK w B U (some ⟨g, 0, none⟩) n c hs xs) :
    Calls Tryz.prog 133 #[.slice (some ⟨g, 0, none⟩) n c, .func (.func 134) #[] #[]] w fun e w' => ∃ n' hs', e = .returned (.slice (some ⟨g, 0, none⟩) n' c) ∧
      OwnK stepK w' B U (some ⟨g, 0, none⟩) n' c hs' (xs.filter fun s => s.2 != 0) ∧ w.grownBy w' (some g) := by
  have hnm : n ≤ 9223372036854775807 := by
    rcases h.form with ⟨_, h0, _⟩ | ⟨_, _, _, _, _, _, h1, h2⟩
    · omega
    · unfold maxLen at h2; omega
  have hcn : n ≤ c := by
    rcases h.form with ⟨_, h0, _⟩ | ⟨_, _, _, _, _, _, h1, h2⟩
    · omega
    · exact h1
  have hcm : c ≤ 9223372036854775807 := by
    rcases h.form with ⟨_, h0, h1⟩ | ⟨_, _, _, _, _, _, h1, h2⟩
    · omega
    · unfold maxLen at h2; omega
  have HI := hidP (indexStep_any (some ⟨g, 0, none⟩) n c xs w h.termsAt hnm)
  obtain ⟨hE0, hm1, hm2, hzl⟩ := h.list
  have hfar : ∀ z ∈ hs.zip xs, ∀ b o, z.1.1 = some ⟨b, o, none⟩ → b ≠ g := fun z hz b o e hb => by
    obtain ⟨k, hk, rfl⟩ := List.mem_iff_getElem.1 hz
    rw [List.getElem_zip] at e
    have h1 : hs[k]'(by rw [List.length_zip] at hk; omega) = hs.getD k (none, 0) := by
      have : k < hs.length := by rw [List.length_zip] at hk; omega
      simp [List.getD_eq_getElem?_getD, this]
    rw [h1] at e
    exact h.far k (by omega) g 0 b o rfl e hb.symm
  have hfil : ((hs.zip xs).filter keepZ).map (·.2) = xs.filter fun s => s.2 != 0 := by
    have : (hs.zip xs).filter keepZ = (hs.zip xs).filter ((fun s : Stp => s.2 != 0) ∘ (fun z : Hdr × Stp => z.2)) := rfl
    rw [this, ← List.filter_map, hm2]
  have hlen : ∀ k, k < n → lenAt xs k = ((hs.zip xs).getD k ((none, 0), ([], 0))).2.2 := fun k hk => by
    conv => lhs; rw [← hm2]
    unfold lenAt
    rw [getD_mapped _ _ _ ((none, 0), ([], 0)) _ (by omega)]
  have hgw : g < w.heap.size := (h.base_lt g 0 rfl).2
  have hraw := h.raw
  have hxl := h.xl
  obtain ⟨zs, hzs⟩ : ∃ zs, zs = hs.zip xs := ⟨_, rfl⟩
  rw [← hzs] at hE0 hfar hfil hlen hraw hzl
  have HE := hidP hE0
  have HFar := hidP hfar
  have HFil := hidP hfil
  have HLen := hidP hlen
  have HRaw := hidP hraw
  have HZl := hidP hzl
  have HOl := hidP h.olt
  have H0 := hidP h
  have HXl := hidP hxl
  clear h hE0 hm1 hm2 hzl hfar hfil hlen hraw hzs hxl
  -- what comes out, once the row is cut
  have HOut : Hid (∀ (w' : World) (i : Nat) (l : List (Hdr × Stp)) (ys : List Value), w'.ownsRow B stepK.E stepK.size (.slice (some ⟨g, 0, none⟩) n c) n ys → ys.take (i * 2) = (stepK.all (l.map (·.1)) (l.map (·.2))).take (i * 2) → i ≤ n → l.length = n → l.take i = zs.filter keepZ → w.grownBy w' (some g) →
      OwnK stepK w' B U (some ⟨g, 0, none⟩) i c ((l.take i).map (·.1)) (xs.filter fun s => s.2 != 0)) := by
    intro w' i l ys hr ht hi hl hli hg
    have h1 := row_take hr i hi
    rw [show i * stepK.size = i * 2 from rfl, ht] at h1
    have h2 : (stepK.all (l.map (·.1)) (l.map (·.2))).take (i * 2) = stepK.all ((l.take i).map (·.1)) ((l.take i).map (·.2)) := by
      rw [List.map_take, List.map_take, stepK.all_take _ _ (by simp)]
      rfl
    rw [h2] at h1
    have h3 : ElemK stepK w' B U (l.take i) := by
      rw [hli]
      exact (HE.out.kept hg HFar.out).sub List.filter_sublist
    have h4 := h3.own h1 (by simp; omega) HOl.out
    have h5 : (l.take i).map (·.2) = xs.filter fun s => s.2 != 0 := by rw [hli]; exact HFil.out
    rw [h5] at h4
    exact h4
  by_cases hall : ∀ k, k < n → lenAt xs k ≠ 0
  · have HIx : Hid (idxL zeroLen (durs xs) = -1) := idxL_none fun j hj => by
      rw [durs_get]
      have := hall j (by unfold durs at hj; rw [List.length_map, HXl.out] at hj; exact hj)
      simpa [zeroLen] using this
    have HXs : Hid (xs.filter (fun s => s.2 != 0) = xs) := by
      show _ = _
      rw [List.filter_eq_self]
      intro s hs'
      obtain ⟨k, hk, rfl⟩ := List.mem_iff_getElem.1 hs'
      have := hall k (by have := HXl.out; omega)
      unfold lenAt at this
      rw [List.getD_eq_getElem?_getD, List.getElem?_eq_getElem hk, Option.getD_some] at this
      simpa using this
    rw [HIx.out] at HI
    rw [HXs.out]
    clear hall
    go_enter Tryz.func133, Tryz.ntmps133
    go_wp2_with fail
    refine HI.out.mono ?_
    rintro e w1 ⟨rfl, hx⟩
    have HX := hidP hx
    clear hx
    go_wp2
    go_ret
    exact ⟨n, hs, rfl, H0.out.below HX.out, ⟨HX.out.os, HX.out.tape, HX.out.output, HX.out.size, fun k hk _ => HX.out.block k hk⟩⟩
  · obtain ⟨i0, hi0, hz0, hbef⟩ : ∃ i0, i0 < n ∧ lenAt xs i0 = 0 ∧ ∀ j, j < i0 → lenAt xs j ≠ 0 := by
      have hex : ∃ k, k < n ∧ lenAt xs k = 0 := by
        apply Classical.byContradiction
        intro hno
        exact hall fun k hk e => hno ⟨k, hk, e⟩
      have : ∀ m, (∃ k, k < m ∧ k < n ∧ lenAt xs k = 0) → ∃ i0, i0 < n ∧ lenAt xs i0 = 0 ∧ ∀ j, j < i0 → lenAt xs j ≠ 0 := by
        intro m
        induction m with
        | zero => rintro ⟨k, hk, _⟩; omega
        | succ m ih =>
          rintro ⟨k, hk, hkn, hk0⟩
          by_cases hb : ∃ k', k' < m ∧ k' < n ∧ lenAt xs k' = 0
          · exact ih hb
          · refine ⟨k, hkn, hk0, fun j hj e => hb ⟨j, by omega, by omega, e⟩⟩
      obtain ⟨k, hk, hk0⟩ := hex
      exact this (k + 1) ⟨k, by omega, hk, hk0⟩
    have HIx : Hid (idxL zeroLen (durs xs) = (i0 : Int)) := idxL_at (by unfold durs; rw [List.length_map, HXl.out]; exact hi0) (fun j hj => by
      rw [durs_get]
      have := hbef j hj
      simpa [zeroLen] using this) (by rw [durs_get, hz0]; rfl)
    rw [HIx.out] at HI
    -- the first places are kept, the next one is not
    have HSt : Hid (zs.take i0 = (zs.take (i0 + 1)).filter keepZ) := by
      show _ = _
      have hzl := HZl.out
      rw [List.take_succ_eq_append_getElem (by omega), List.filter_append]
      have e1 : (zs.take i0).filter keepZ = zs.take i0 := by
        rw [List.filter_eq_self]
        intro z hz
        obtain ⟨k, hk, rfl⟩ := List.mem_iff_getElem.1 hz
        rw [List.length_take] at hk
        have h1 := hbef k (by omega)
        rw [HLen.out k (by omega)] at h1
        rw [List.getElem_take]
        simp only [keepZ, List.getD_eq_getElem?_getD, List.getElem?_eq_getElem (show k < zs.length by omega), Option.getD_some] at h1 ⊢
        simpa using h1
      have e2 : keepZ (zs[i0]'(by omega)) = false := by
        have h1 := hz0
        rw [HLen.out i0 hi0] at h1
        simp only [keepZ, List.getD_eq_getElem?_getD, List.getElem?_eq_getElem (show i0 < zs.length by omega), Option.getD_some] at h1 ⊢
        simpa using h1
      rw [e1, List.filter_cons, e2]
      simp
    clear hall hz0 hbef
    have hne1 : ((i0 : Int) == -1) = false := beq_eq_false_iff_ne.2 (by omega)
    have hcf := callFunc_turned1
    go_enter Tryz.func133, Tryz.ntmps133
    go_wp2_with fail
    refine HI.out.mono ?_
    rintro e w1 ⟨rfl, hx⟩
    have HG1 : Hid (w.grownBy w1 (some g)) := ⟨hx.os, hx.tape, hx.output, hx.size, fun k hk _ => hx.block k hk⟩
    have HR1 : Hid (RawS w1 B g n c zs) := by
      have := H0.out.below hx
      exact ⟨HRaw.out.row.kept (row := none) ⟨hx.os, hx.tape, hx.output, hx.size, fun k hk _ => hx.block k hk⟩ (.inr (by simp [Value.ownBlock])), HRaw.out.len⟩
    clear hx HI
    go_wp2
    go_loopw [5, 6] (fun ii jj wr => ∃ (i j : Nat) (l : List (Hdr × Stp)), i < j ∧ j ≤ n ∧ ii = .int .i64 i ∧ jj = .int .i64 j ∧ Hid (RawS wr B g n c l) ∧ Hid (l.take i = (zs.take j).filter keepZ) ∧ Hid (l.drop j = zs.drop j) ∧ Hid (w.grownBy wr (some g))) (fun _ jj _ => n - (intOf jj).toNat)
    case atStart => exact ⟨i0, i0 + 1, zs, Nat.lt_succ_self _, by omega, rfl, by go_num, HR1, HSt, rfl, HG1⟩
    case round =>
      obtain ⟨i, j, l, hij, hjn, rfl, rfl, HR, HT, HD, HG⟩ := hrel
      by_cases hlt : j < n
      · obtain ⟨q1, q2, r1, r2⟩ := HR.out.cells j hlt
        obtain ⟨⟨⟨aw, cw⟩, ⟨W, L⟩⟩, hz⟩ : ∃ z, z = l.getD j ((none, 0), ([], 0)) := ⟨_, rfl⟩
        rw [← hz] at q1 q2
        dsimp only at q1 q2
        have HZ : Hid (zs.getD j ((none, 0), ([], 0)) = ((aw, cw), (W, L))) := by
          show _ = _
          have h1 : (l.drop j)[0]? = (zs.drop j)[0]? := by rw [HD.out]
          simp only [List.getElem?_drop, Nat.add_zero] at h1
          rw [hz, List.getD_eq_getElem?_getD, List.getD_eq_getElem?_getD, h1]
        have hll := HR.out.len
        have HTs : Hid (zs.take (j + 1) = zs.take j ++ [((aw, cw), (W, L))]) := by
          show _ = _
          have hzl := HZl.out
          rw [List.take_succ_eq_append_getElem (by omega), ← HZ.out, List.getD_eq_getElem?_getD, List.getElem?_eq_getElem (by omega), Option.getD_some]
        have HDs : Hid (∀ l' : List (Hdr × Stp), l'.drop j = zs.drop j → l'.drop (j + 1) = zs.drop (j + 1)) := fun l' hl' => by
          rw [← List.drop_drop, ← List.drop_drop, hl']
        have HTn := hidP (fun w' => turned1_any aw W.length cw L w')
        obtain ⟨g0, g1, g2, g3⟩ := HR.out.cells i (by omega)
        have HPl := hidP (fun w' (h' : RawS w' B g n c l) => h'.placed i (by omega) ((aw, cw), (W, L)))
        have HX2 := hidP (Ext.alloc wr (.cells #[.slice aw W.length cw, .int .i64 L] 69))
        have HS := hidP (fun w' (hx : Ext (wr.alloc (.cells #[.slice aw W.length cw, .int .i64 L] 69)) w') => (StpAt.new wr _ rfl aw W.length cw L 69).below hx)
        have hgr : g < wr.heap.size := World.block_lt_of_cell? wr _ q1
        have HRE : Hid (∀ w', Ext wr w' → RawS w' B g n c l) := fun w' hx => ⟨HR.out.row.kept (row := none) ⟨hx.os, hx.tape, hx.output, hx.size, fun k hk _ => hx.block k hk⟩ (.inr (by simp [Value.ownBlock])), HR.out.len⟩
        obtain ⟨w2, hw2⟩ : ∃ w2, w2 = wr.alloc (.cells #[.slice aw W.length cw, .int .i64 L] 69) := ⟨_, rfl⟩
        rw [← hw2] at HX2 HS
        have hi1 : (i : Int) < (n : Int) := by omega
        have hi2 : (0 : Int) ≤ (i : Int) := by omega
        clear hz g0 g1 g2 g3
        obtain ⟨s1, s2⟩ := HS.out w2 (Ext.refl _)
        cases hb : (L == 0)
        · have hkeep : keepZ ((aw, cw), (W, L)) = true := by simpa [keepZ] using hb
          rw [hb] at HTn
          clear hb
          have HT2 : Hid ((l.set i ((aw, cw), (W, L))).take (i + 1) = (zs.take (j + 1)).filter keepZ) := by
            show _ = _
            rw [HTs.out, List.filter_append, ← HT.out, List.take_succ_eq_append_getElem (by simp; omega), List.getElem_set_self, List.take_set_of_le (Nat.le_refl _), List.filter_cons, hkeep]
            simp
          have HD2 : Hid ((l.set i ((aw, cw), (W, L))).drop (j + 1) = zs.drop (j + 1)) := by
            show _ = _
            rw [List.drop_set_of_lt (by omega)]
            exact HDs.out l HD.out
          clear hkeep
          go_wp2_with fail
          rw [← hw2]
          clear hw2 q1 q2 r1 r2
          refine (HTn.out w2).mono ?_
          rintro e w3 ⟨rfl, hx⟩
          obtain ⟨t1, t2⟩ := HS.out w3 hx
          have HR3 := hidP (HRE.out w3 (HX2.out.trans hx))
          obtain ⟨g0, g1, g2, g3⟩ := HR3.out.cells i (by omega)
          have HP3 := hidP (HPl.out w3 HR3.out)
          have hx3 := HX2.out.trans hx
          have HG3 : Hid (w.grownBy ((w3.setCell ⟨g, i * 2, none⟩ (.slice aw W.length cw)).setCell ⟨g, i * 2 + 1, none⟩ (.int .i64 L)) (some g)) :=
            ⟨hx3.os.trans HG.out.os, hx3.tape.trans HG.out.tape, hx3.output.trans HG.out.output, by have := HG.out.size; have := hx3.size; simp [World.setCell]; omega, fun k hk hne => by
              have hkg : k ≠ g := fun e => hne (by rw [e])
              rw [Below.heap_setCell _ _ _ _ hkg, Below.heap_setCell _ _ _ _ hkg, hx3.block k (Nat.lt_of_lt_of_le hk HG.out.size)]
              exact HG.out.block k hk hne⟩
          clear hx hx3 s1 s2
          go_wp2
          go_roundw
          case rel => exact ⟨i + 1, j + 1, _, by omega, by omega, by go_num, by go_num, HP3, HT2, HD2, HG3⟩
          case measure => simp [intOf]; omega
        · have hkeep : keepZ ((aw, cw), (W, L)) = false := by simpa [keepZ] using hb
          rw [hb] at HTn
          clear hb
          have HT2 : Hid (l.take i = (zs.take (j + 1)).filter keepZ) := by
            show _ = _
            rw [HTs.out, List.filter_append, ← HT.out, List.filter_cons, hkeep]
            simp
          have HD2 : Hid (l.drop (j + 1) = zs.drop (j + 1)) := HDs.out l HD.out
          clear hkeep
          go_wp2_with fail
          rw [← hw2]
          clear hw2 q1 q2 r1 r2
          refine (HTn.out w2).mono ?_
          rintro e w3 ⟨rfl, hx⟩
          have HR3 := hidP (HRE.out w3 (HX2.out.trans hx))
          have hx3 := HX2.out.trans hx
          have HG3 : Hid (w.grownBy w3 (some g)) :=
            ⟨hx3.os.trans HG.out.os, hx3.tape.trans HG.out.tape, hx3.output.trans HG.out.output, Nat.le_trans HG.out.size hx3.size, fun k hk hne => by
              rw [hx3.block k (Nat.lt_of_lt_of_le hk HG.out.size)]
              exact HG.out.block k hk hne⟩
          clear hx hx3 s1 s2
          go_wp2
          go_roundw
          case rel => exact ⟨i, j + 1, l, by omega, by omega, rfl, by go_num, HR3, HT2, HD2, HG3⟩
          case measure => simp [intOf]; omega
      · obtain rfl : n = j := by omega
        have hll := HR.out.len
        have HTf : Hid (l.take i = zs.filter keepZ) := by
          show _ = _
          rw [HT.out, List.take_of_length_le (by have := HZl.out; omega)]
        have hci : ¬ (c = i) := by omega
        have hi1 : (i : Int) ≤ (c : Int) := by omega
        have hi2 : (0 : Int) ≤ (i : Int) := by omega
        have hi3 : (i : Int) ≤ (n : Int) := by omega
        have hi4 : (n : Int) ≤ (c : Int) := by omega
        have HCell : Hid (∀ q, q < (n - i) * 2 → (wr.cell? ⟨g, i * 2 + q, none⟩).isSome = true ∧ wr.frozen? ⟨g, i * 2 + q, none⟩ = false) := by
          intro q hq
          obtain ⟨k1, k2, k3, k4⟩ := HR.out.cells (i + q / 2) (by omega)
          rcases (by omega : q % 2 = 0 ∨ q % 2 = 1) with h2 | h2
          · rw [show i * 2 + q = (i + q / 2) * 2 by omega, k1, k3]; simp
          · rw [show i * 2 + q = (i + q / 2) * 2 + 1 by omega, k2, k4]; simp
        have HFin : Hid (∀ vs, OwnK stepK (wr.setCells g (i * 2) vs) B U (some ⟨g, 0, none⟩) i c ((l.take i).map (·.1)) (xs.filter fun s => s.2 != 0) ∧ w.grownBy (wr.setCells g (i * 2) vs) (some g)) := by
          intro vs
          obtain ⟨ys, h1, h2, h3⟩ := row_setCells vs (i * 2) wr _ HR.out.row
          have hg : w.grownBy (wr.setCells g (i * 2) vs) (some g) := ⟨h3.os.trans HG.out.os, h3.tape.trans HG.out.tape, h3.output.trans HG.out.output, Nat.le_trans HG.out.size h3.size, fun k hk hne => (h3.block k (Nat.lt_of_lt_of_le hk HG.out.size) hne).trans (HG.out.block k hk hne)⟩
          exact ⟨HOut.out _ i l ys h1 h2 (by omega) hll HTf.out hg, hg⟩
        obtain ⟨vs, hrun⟩ := run_clear_steps g (i * 2) (n - i) (c - i) 0 wr (by omega) (fun q hq => (HCell.out q hq).1) (fun q hq => (HCell.out q hq).2)
        obtain ⟨hk1, hk2⟩ := HFin.out vs
        have HK1 := hidP hk1
        have HK2 := hidP hk2
        clear hk1 hk2 hll
        go_wp2
        go_ret
        exact ⟨i, _, rfl, HK1.out, HK2.out⟩
end Go.Proofs.YtfikkfbnlegflaaGreatDoor
