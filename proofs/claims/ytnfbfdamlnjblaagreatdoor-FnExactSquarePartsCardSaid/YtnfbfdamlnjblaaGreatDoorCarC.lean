/-
  Matrices put one after the other, by the program.
-/
import Derived.Test.YtnfbfdamlnjblaaGreatDoorCarE
import Derived.Test.YtnfbfdamlnjblaaGreatDoorOwnB
namespace Go.Proofs.YtnfbfdamlnjblaaGreatDoor
open Go.RowKit

/-- matrices of types of one part, as elements of a slice -/
def carK : Knd (Int × List Int) where
  E := 55
  size := 2
  dft := (0, [])
  ints := fun x => x.2
  put := fun x ys => (x.1, ys)
  cells := fun a c x => [.int .i64 x.1, .slice a x.2.length c]
  len := fun _ _ _ => rfl
  pos := by decide
  ne := by decide
  put_ints := fun _ _ => rfl
  put_cells := fun a c x ys h => by simp only [h]
  one := fun a c x u hu => by simp only [List.mem_cons, List.not_mem_nil, or_false] at hu; rcases hu with rfl | rfl <;> rfl
def partP (k : Nat) : Int × List Int := (pRank k, pMat k)
theorem pMat_length : ∀ k, k < 12 → (pMat k).length = pRank k * pRank k := by decide
/-- a slice of matrices of types, read -/
structure CarsAt (w : World) (a : Option Addr) (n : Nat) (ks : List Nat) : Prop where
  len : ks.length = n
  get : ∀ i, i < n → ∃ b o a' c', a = some ⟨b, o, none⟩ ∧ w.cell? ⟨b, o + i * 2, none⟩ = some (.int .i64 (pRank (ks.getD i 0))) ∧ w.cell? ⟨b, o + i * 2 + 1, none⟩ = some (.slice a' (pRank (ks.getD i 0) * pRank (ks.getD i 0)) c') ∧
    IntsAt w a' (pRank (ks.getD i 0) * pRank (ks.getD i 0)) (pMat (ks.getD i 0))
theorem CarsAt.below {w w' : World} {a : Option Addr} {n : Nat} {ks : List Nat} (h : CarsAt w a n ks) (hb : Ext w w') : CarsAt w' a n ks := by
  refine ⟨h.len, fun i hi => ?_⟩
  obtain ⟨b, o, a', c', rfl, h0, h1, h2⟩ := h.get i hi
  exact ⟨b, o, a', c', rfl, (hb.cell (p := ⟨b, o + i * 2, none⟩) (World.block_lt_of_cell? w _ h0)).trans h0, (hb.cell (p := ⟨b, o + i * 2 + 1, none⟩) (World.block_lt_of_cell? w _ h1)).trans h1, h2.below hb⟩
theorem OwnK.cars {w : World} {B U : Nat} {a : Option Addr} {n c : Nat} {hs : List Hdr} {ks : List Nat} (h : OwnK carK w B U a n c hs (ks.map partP)) (hk : ∀ k ∈ ks, k < 12) : CarsAt w a n ks := by
  have hl : ks.length = n := by simpa using h.xl
  refine ⟨hl, fun i hi => ?_⟩
  have e : (ks.map partP).getD i carK.dft = partP (ks.getD i 0) := by simp [List.getD_eq_getElem?_getD, show i < ks.length by omega]
  have hki : ks.getD i 0 < 12 := hk _ (getD_mem (by omega))
  have hlen := pMat_length _ hki
  obtain ⟨g, rfl, hc0, _⟩ := h.cell i 0 hi (by decide)
  obtain ⟨g', e', hc1, _⟩ := h.cell i 1 hi (by decide)
  simp only [Option.some.injEq, Addr.mk.injEq, and_true] at e'
  subst e'
  have he := h.each i hi
  rw [e] at hc0 hc1 he
  refine ⟨g, 0, (hs.getD i (none, 0)).1, (hs.getD i (none, 0)).2, rfl, ?_, ?_, ?_⟩
  · rw [Nat.zero_add]
    exact hc0
  · rw [Nat.zero_add, ← hlen]
    exact hc1
  · rw [← hlen]
    exact he.ints

/-! ### the writes -/
def applyW (ws : List (Nat × Int)) (l : List Int) : List Int := ws.foldl (fun l p => l.set p.1 p.2) l
theorem applyW_length (ws : List (Nat × Int)) : ∀ l : List Int, (applyW ws l).length = l.length := by
  induction ws with
  | nil => intro l; rfl
  | cons p ws ih => intro l; show (applyW ws (l.set p.1 p.2)).length = _; rw [ih, List.length_set]
theorem applyW_snoc (ws : List (Nat × Int)) (p : Nat × Int) (l : List Int) : applyW (ws ++ [p]) l = (applyW ws l).set p.1 p.2 := by simp [applyW]
theorem applyW_append (a b : List (Nat × Int)) (l : List Int) : applyW (a ++ b) l = applyW b (applyW a l) := by simp [applyW]
def wRow (R o k i j : Nat) : List (Nat × Int) := (List.range j).map fun q => ((o + i) * R + o + q, atM (pMat k) (pRank k) i q)
def wBlk (R o k i : Nat) : List (Nat × Int) := (List.range i).flatMap fun p => wRow R o k p (pRank k)
def offK (ks : List Nat) (k : Nat) : Nat := rankL (ks.take k)
def wTo (R : Nat) (ks : List Nat) (k : Nat) : List (Nat × Int) := (List.range k).flatMap fun q => wBlk R (offK ks q) (ks.getD q 0) (pRank (ks.getD q 0))
theorem wRow_succ (R o k i j : Nat) : wRow R o k i (j + 1) = wRow R o k i j ++ [((o + i) * R + o + j, atM (pMat k) (pRank k) i j)] := by simp [wRow, List.range_succ]
theorem wBlk_succ (R o k i : Nat) : wBlk R o k (i + 1) = wBlk R o k i ++ wRow R o k i (pRank k) := by simp [wBlk, List.range_succ]
theorem wTo_succ (R : Nat) (ks : List Nat) (k : Nat) : wTo R ks (k + 1) = wTo R ks k ++ wBlk R (offK ks k) (ks.getD k 0) (pRank (ks.getD k 0)) := by simp [wTo, List.range_succ]
theorem offK_succ (ks : List Nat) : ∀ (k : Nat), k < ks.length → offK ks (k + 1) = offK ks k + pRank (ks.getD k 0) := by
  induction ks with
  | nil => intro k h; simp at h
  | cons x xs ih =>
    intro k h
    cases k with
    | zero => simp [offK, rankL_cons]; simp [rankL]
    | succ k =>
      have := ih k (by simpa using h)
      unfold offK at this ⊢
      rw [List.take_succ_cons, List.take_succ_cons, rankL_cons, rankL_cons, this]
      simp
      omega
theorem offK_all (ks : List Nat) : offK ks ks.length = rankL ks := by unfold offK; rw [List.take_length]
theorem offK_le (ks : List Nat) : ∀ (d k : Nat), k + d ≤ ks.length → offK ks k ≤ offK ks (k + d)
  | 0, k, _ => Nat.le_refl _
  | d + 1, k, h => by
    have := offK_le ks d k (by omega)
    have h2 := offK_succ ks (k + d) (by omega)
    rw [Nat.add_assoc] at h2
    omega
def allTypes : List (List Nat) := typesL 5 1 0 ++ typesL 5 2 0 ++ typesL 5 3 0 ++ typesL 5 4 0
theorem joined_eq : ∀ ks ∈ allTypes, applyW (wTo (rankL ks) ks ks.length) (List.replicate (rankL ks * rankL ks) 0) = blockL ks := by decide +kernel
theorem types_all : ∀ ks ∈ allTypes, (∀ k ∈ ks, k < 12) ∧ 1 ≤ rankL ks ∧ rankL ks ≤ 4 ∧ ks.length ≤ 4 := by decide +kernel

/-- sums for the place of a block's entry -/
structure PlaceG (o i j R : Nat) : Prop where
  w0 : IntKind.i64.wrap ((o : Int) + i) = (o : Int) + i
  w1 : IntKind.i64.wrap (((o : Int) + i) * R) = ((o : Int) + i) * R
  w2 : IntKind.i64.wrap (((o : Int) + i) * R + o) = ((o : Int) + i) * R + o
  w3 : IntKind.i64.wrap (((o : Int) + i) * R + o + j) = ((o : Int) + i) * R + o + j
  p0 : 0 ≤ ((o : Int) + i) * R + o + j
  p1 : ((o : Int) + i) * R + o + j < (R : Int) * R
  pn : (((o : Int) + i) * R + o + j).toNat = (o + i) * R + o + j
theorem placeG {o i j R : Nat} (hr : R ≤ 4) (hi : o + i < R) (hj : o + j < R) : PlaceG o i j R := by
  obtain ⟨h0, h1, h2, h3⟩ := idx4 (r := (R : Int)) (i := (o : Int) + i) (j := (o : Int) + j) (by omega) (by omega) (by omega) (by omega) (by omega)
  refine ⟨wrap_in (by omega) (by omega), wrap_in (by omega) (by omega), wrap_in (by omega) (by omega), wrap_in (by omega) (by omega), by omega, by omega, ?_⟩
  have : ((o : Int) + i) * R + o + j = (((o + i) * R + o + j : Nat) : Int) := by
    rw [Int.natCast_add, Int.natCast_add, Int.natCast_mul, Int.natCast_add]
  rw [this]
  rfl
/-- the two variables that hold the result -/
structure JAt (w : World) (b2 b3 : Nat) (r : Int) (a : Option Addr) (n c : Nat) : Prop where
  o0 : w.cell? ⟨b2, 0, none⟩ = some (.int .i64 0)
  o1 : w.cell? ⟨b2, 1, none⟩ = some (.slice none 0 0)
  of0 : w.frozen? ⟨b2, 0, none⟩ = false
  of1 : w.frozen? ⟨b2, 1, none⟩ = false
  r0 : w.cell? ⟨b3, 0, none⟩ = some (.int .i64 r)
  r1 : w.cell? ⟨b3, 1, none⟩ = some (.slice a n c)
  rf0 : w.frozen? ⟨b3, 0, none⟩ = false
  rf1 : w.frozen? ⟨b3, 1, none⟩ = false
  ne : b2 ≠ b3
theorem JAt.below {w w' : World} {b2 b3 : Nat} {r : Int} {a : Option Addr} {n c : Nat} (h : JAt w b2 b3 r a n c) (hb : Ext w w') : JAt w' b2 b3 r a n c := by
  have l2 : b2 < w.heap.size := World.block_lt_of_cell? w _ h.o0
  have l3 : b3 < w.heap.size := World.block_lt_of_cell? w _ h.r0
  exact ⟨(hb.cell (p := ⟨b2, 0, none⟩) l2).trans h.o0, (hb.cell (p := ⟨b2, 1, none⟩) l2).trans h.o1, (hb.frozen (p := ⟨b2, 0, none⟩) l2).trans h.of0, (hb.frozen (p := ⟨b2, 1, none⟩) l2).trans h.of1,
    (hb.cell (p := ⟨b3, 0, none⟩) l3).trans h.r0, (hb.cell (p := ⟨b3, 1, none⟩) l3).trans h.r1, (hb.frozen (p := ⟨b3, 0, none⟩) l3).trans h.rf0, (hb.frozen (p := ⟨b3, 1, none⟩) l3).trans h.rf1, h.ne⟩
theorem frozen_setCell (w : World) (b i : Nat) (v : Value) (c j : Nat) : (w.setCell ⟨b, i, none⟩ v).frozen? ⟨c, j, none⟩ = w.frozen? ⟨c, j, none⟩ := by
  by_cases h : c = b
  · subst h
    simp only [World.frozen?, World.setCell, Array.getElem?_modify, if_true]
    cases w.heap[c]? with
    | none => rfl
    | some o => cases o <;> rfl
  · have := Below.heap_setCell w ⟨b, i, none⟩ v c h
    simp only [World.frozen?, this]
theorem JAt.setR {w : World} {b2 b3 : Nat} {r : Int} {a : Option Addr} {n c : Nat} (h : JAt w b2 b3 r a n c) (r' : Int) : JAt (w.setCell ⟨b3, 0, none⟩ (.int .i64 r')) b2 b3 r' a n c := by
  have hn : ∀ i, (⟨b3, 0, none⟩ : Addr) ≠ ⟨b2, i, none⟩ := fun i e => h.ne (by cases e; rfl)
  refine ⟨(World.cell?_setCell_other _ _ _ _ (hn 0)).trans h.o0, (World.cell?_setCell_other _ _ _ _ (hn 1)).trans h.o1, (frozen_setCell ..).trans h.of0, (frozen_setCell ..).trans h.of1,
    World.cell?_setCell_same _ _ _ h.r0, (World.cell?_setCell_other _ _ _ _ (by simp)).trans h.r1, (frozen_setCell ..).trans h.rf0, (frozen_setCell ..).trans h.rf1, h.ne⟩
theorem JAt.setD {w : World} {b2 b3 : Nat} {r : Int} {a : Option Addr} {n c : Nat} (h : JAt w b2 b3 r a n c) (a' : Option Addr) (n' c' : Nat) : JAt (w.setCell ⟨b3, 1, none⟩ (.slice a' n' c')) b2 b3 r a' n' c' := by
  have hn : ∀ i, (⟨b3, 1, none⟩ : Addr) ≠ ⟨b2, i, none⟩ := fun i e => h.ne (by cases e; rfl)
  refine ⟨(World.cell?_setCell_other _ _ _ _ (hn 0)).trans h.o0, (World.cell?_setCell_other _ _ _ _ (hn 1)).trans h.o1, (frozen_setCell ..).trans h.of0, (frozen_setCell ..).trans h.of1,
    (World.cell?_setCell_other _ _ _ _ (by simp)).trans h.r0, World.cell?_setCell_same _ _ _ h.r1, (frozen_setCell ..).trans h.rf0, (frozen_setCell ..).trans h.rf1, h.ne⟩
theorem JAt.upd {w w' : World} {b2 b3 : Nat} {r : Int} {a : Option Addr} {n c : Nat} (h : JAt w b2 b3 r a n c) {g o m : Nat} {ys : List Int} (hu : UpdI w w' (some ⟨g, o, none⟩) m ys) (h2 : b2 ≠ g) (h3 : b3 ≠ g) : JAt w' b2 b3 r a n c := by
  have l2 : b2 < w.heap.size := World.block_lt_of_cell? w _ h.o0
  have l3 : b3 < w.heap.size := World.block_lt_of_cell? w _ h.r0
  have e2 := hu.other b2 l2 fun b' o' e _ => by cases e; exact h2
  have e3 := hu.other b3 l3 fun b' o' e _ => by cases e; exact h3
  exact ⟨(World.cell?_of_block (a := ⟨b2, 0, none⟩) e2).trans h.o0, (World.cell?_of_block (a := ⟨b2, 1, none⟩) e2).trans h.o1, by simp only [World.frozen?, e2]; exact h.of0, by simp only [World.frozen?, e2]; exact h.of1,
    (World.cell?_of_block (a := ⟨b3, 0, none⟩) e3).trans h.r0, (World.cell?_of_block (a := ⟨b3, 1, none⟩) e3).trans h.r1, by simp only [World.frozen?, e3]; exact h.rf0, by simp only [World.frozen?, e3]; exact h.rf1, h.ne⟩
set_option maxRecDepth 100000 in
set_option maxHeartbeats 4000000 in
theorem joined_any (ks : List Nat) (hks : ks ∈ allTypes) (a : Option Addr) (n c : Nat) (w : World) (h : CarsAt w a n ks) :
    Calls Tryz.prog 207 #[.slice a n c] w fun e w' => ∃ a', e = .returned (carV (rankL ks) a' (rankL ks * rankL ks) (rankL ks * rankL ks)) ∧ OwnI w' w.heap.size a' (rankL ks * rankL ks) (rankL ks * rankL ks) (blockL ks) ∧ Ext w w' := by
  obtain ⟨t1, t2, t3, t4⟩ := types_all ks hks
  have HJE := hidP (joined_eq ks hks)
  have H := hidP h
  have L := hidP h.len
  have HK := hidP t1
  have hn4 : n ≤ 4 := by rw [← h.len]; exact t4
  have hx0 := hidP ((Ext.alloc w (.cells #[.int .i64 0, .slice none 0 0] 55)).trans (Ext.alloc _ (.cells #[.int .i64 0, .slice none 0 0] 55)))
  clear h t1 t4
  obtain ⟨R, hR⟩ : ∃ R, R = rankL ks := ⟨_, rfl⟩
  rw [← hR] at t2 t3 HJE ⊢
  have HRR := hidP hR
  clear hR
  go_enter Tryz.func207, Tryz.ntmps207
  go_wp2
  obtain ⟨w0, hw0⟩ : ∃ w0, w0 = (w.alloc (.cells #[.int .i64 0, .slice none 0 0] 55)).alloc (.cells #[.int .i64 0, .slice none 0 0] 55) := ⟨_, rfl⟩
  have HJ0 : Hid (JAt w0 w.heap.size (w.heap.size + 1) 0 none 0 0) := by
    have n0 := new_cell (w := w) (cs := #[.int .i64 0, .slice none 0 0]) (E := 55) (b := w.heap.size) rfl (Ext.alloc _ (.cells #[.int .i64 0, .slice none 0 0] 55))
    have n1 := new_cell (w := w.alloc (.cells #[.int .i64 0, .slice none 0 0] 55)) (cs := #[.int .i64 0, .slice none 0 0]) (E := 55) (b := w.heap.size + 1) (by simp) (Ext.refl _)
    rw [hw0]
    exact ⟨(n0 0).1.trans rfl, (n0 1).1.trans rfl, (n0 0).2, (n0 1).2, (n1 0).1.trans rfl, (n1 1).1.trans rfl, (n1 0).2, (n1 1).2, by omega⟩
  rw [← hw0] at hx0 ⊢
  have hb2 : w.heap.size + 1 < w0.heap.size := World.block_lt_of_cell? w0 _ HJ0.out.r0
  obtain ⟨b2, hb2e⟩ : ∃ b, b = w.heap.size := ⟨_, rfl⟩
  obtain ⟨b3, hb3e⟩ : ∃ b, b = b2 + 1 := ⟨_, rfl⟩
  rw [← hb2e] at HJ0 hb2 ⊢
  rw [← hb3e] at HJ0 hb2 ⊢
  have HB2 := hidP hb2e
  have hb23 : b2 ≤ b3 := by omega
  clear hw0 hb2e hb3e
  go_loopw [14] (fun t wr => ∃ k : Nat, k ≤ n ∧ t = .int .i64 k ∧ Hid (Ext w wr) ∧ Hid (JAt wr b2 b3 (offK ks k) none 0 0)) (fun t _ => n - (intOf t).toNat)
  case atStart => exact ⟨0, Nat.zero_le _, rfl, hx0, HJ0⟩
  case round =>
    clear HJ0 hx0
    obtain ⟨k, hk, rfl, HX, HJ⟩ := hrel
    by_cases hlt : k < n
    · obtain ⟨b, o, a', c', rfl, q0, q1, _⟩ := (H.out.below HX.out).get k hlt
      have HO := hidP (offK_succ ks k (by rw [L.out]; exact hlt))
      have ho := offK_le ks (ks.length - (k + 1)) (k + 1) (by have := L.out; omega)
      rw [show k + 1 + (ks.length - (k + 1)) = ks.length by have := L.out; omega, offK_all, HO.out, ← HRR.out] at ho
      generalize ks.getD k 0 = kk at *
      generalize offK ks k = ok at *
      have hxa := Ext.alloc (wr.setCell ⟨b3, 0, none⟩ (.int .i64 ((ok : Int) + (pRank kk : Nat)))) (.cells #[.int .i64 (pRank kk), .slice a' (pRank kk * pRank kk) c'] 55)
      have HXb : Hid (Ext w (wr.setCell ⟨b3, 0, none⟩ (.int .i64 ((ok : Int) + (pRank kk : Nat))))) := HX.out.setNew _ _ (by have := HB2.out; omega) _
      have HXa := hidP (HXb.out.trans hxa)
      have HJb := hidP ((HJ.out.setR ((ok : Int) + (pRank kk : Nat))).below hxa)
      obtain ⟨o0, o1, of0, of1, r0, r1, rf0, rf1, hne⟩ := HJ.out
      have l3 : b3 < wr.heap.size := World.block_lt_of_cell? wr _ r0
      clear hxa o0 o1 of0 of1 r1 rf1
      generalize pRank kk = rk at *
      go_wp2
      go_roundw
      case rel => exact ⟨k + 1, by omega, by go_num, HXa, by rw [HO.out]; have := HJb.out; show JAt _ _ _ _ _ _ _; simpa using this⟩
      case measure => simp [intOf]; omega
    · obtain rfl : k = n := by omega
      have hof : offK ks k = R := by rw [HRR.out, ← L.out, offK_all]
      rw [hof] at HJ
      have hrr : (R : Int) * R ≤ 16 := by
        have := Nat.mul_le_mul t3 t3
        have h : ((R * R : Nat) : Int) ≤ ((4 * 4 : Nat) : Int) := by exact_mod_cast this
        rw [Int.natCast_mul] at h
        exact h
      have hrr0 : 0 ≤ (R : Int) * R := Int.mul_nonneg (by omega) (by omega)
      have hmk := make_ints ((R : Int) * R) hrr0 (by omega)
      have hmn : ((R : Int) * R).toNat = R * R := by rw [← Int.natCast_mul]; rfl
      rw [hmn] at hmk
      obtain ⟨o0, o1, of0, of1, r0, r1, rf0, rf1, hne⟩ := HJ.out
      have l3 : b3 < wr.heap.size := World.block_lt_of_cell? wr _ r0
      clear o0 o1 of0 of1 hof hmn
      go_wp2
      have hza := Ext.alloc (wr.setCell ⟨b3, 1, none⟩ (.slice (some ⟨wr.heap.size, 0, none⟩) (R * R) (R * R))) (.cells (Array.replicate (R * R) (.int .i64 0)) 3)
      have hzs : (wr.setCell ⟨b3, 1, none⟩ (.slice (some ⟨wr.heap.size, 0, none⟩) (R * R) (R * R))).heap.size = wr.heap.size := by simp [World.setCell]
      have hzm := OwnI.made (wr.setCell ⟨b3, 1, none⟩ (.slice (some ⟨wr.heap.size, 0, none⟩) (R * R) (R * R))) w.heap.size (R * R) (by rw [hzs]; exact HX.out.size) (by unfold maxLen; omega)
      rw [hzs] at hzm
      have hx1 : Ext w ((wr.setCell ⟨b3, 1, none⟩ (.slice (some ⟨wr.heap.size, 0, none⟩) (R * R) (R * R))).alloc (.cells (Array.replicate (R * R) (.int .i64 0)) 3)) := (HX.out.setNew _ _ (by have := HB2.out; omega) _).trans hza
      have hj1 := (HJ.out.setD (some ⟨wr.heap.size, 0, none⟩) (R * R) (R * R)).below hza
      obtain ⟨g, hg⟩ : ∃ g, g = wr.heap.size := ⟨_, rfl⟩
      rw [← hg] at hx1 hj1 hzm l3 ⊢
      obtain ⟨w1, hw1⟩ : ∃ w1, w1 = (wr.setCell ⟨b3, 1, none⟩ (.slice (some ⟨g, 0, none⟩) (R * R) (R * R))).alloc (.cells (Array.replicate (R * R) (.int .i64 0)) 3) := ⟨_, rfl⟩
      rw [← hw1] at hx1 hj1 hzm ⊢
      have n2 : b2 ≠ g := by omega
      have n3 : b3 ≠ g := by omega
      have HX1 := hidP hx1
      have HJ1 := hidP hj1
      have HZ1 := hidP hzm
      have HU0 := hidP (UpdI.start HZ1.out.ints)
      have HG1 : Hid (w.heap.size ≤ g) := by show _ ≤ _; have := HX.out.size; omega
      clear hw1 hx1 hj1 hzm hza hzs hg hmk r0 r1 rf0 rf1 HX HJ
      go_loopw [34, 6] (fun t u wr => ∃ q : Nat, q ≤ k ∧ t = .int .i64 q ∧ u = .int .i64 (offK ks q) ∧ Hid (UpdI w1 wr (some ⟨g, 0, none⟩) (R * R) (applyW (wTo R ks q) (List.replicate (R * R) 0)))) (fun t _ _ => k - (intOf t).toNat)
      case atStart => exact ⟨0, Nat.zero_le _, rfl, rfl, HU0⟩
      case round =>
        clear HU0
        obtain ⟨q, hq, rfl, rfl, HU⟩ := hrel
        by_cases hltq : q < k
        · obtain ⟨ba, oa, a', c', rfl, q0, q1, hI⟩ := H.out.get q hltq
          have hxr : Ext w wr := HU.out.below HX1.out HX1.out.size fun b o e _ => by cases e; exact HG1.out
          have hki : ks.getD q 0 < 12 := HK.out _ (getD_mem (by rw [L.out]; exact hltq))
          have hrk := pRank_pos _ hki
          have HO := hidP (offK_succ ks q (by rw [L.out]; exact hltq))
          have HWS := hidP (wTo_succ R ks q)
          have ho := offK_le ks (ks.length - (q + 1)) (q + 1) (by have := L.out; omega)
          rw [show q + 1 + (ks.length - (q + 1)) = ks.length by have := L.out; omega, offK_all, HO.out, ← HRR.out] at ho
          generalize ks.getD q 0 = kk at *
          generalize offK ks q = ok at *
          have hab : ∀ b o, a' = some ⟨b, o, none⟩ → b < w.heap.size := fun b o e => by
            subst e
            exact hI.block_lt (Nat.mul_pos (by omega) (by omega))
          have HI := hidP (hI.below hxr)
          have hq0 := (hxr.cell (p := ⟨ba, oa + q * 2, none⟩) (World.block_lt_of_cell? w _ q0)).trans q0
          have hq1 := (hxr.cell (p := ⟨ba, oa + q * 2 + 1, none⟩) (World.block_lt_of_cell? w _ q1)).trans q1
          obtain ⟨rk, hrkk⟩ : ∃ r, r = pRank kk := ⟨_, rfl⟩
          rw [← hrkk] at hq0 hq1 HI hrk HO HWS ho
          have HRK := hidP hrkk
          clear q0 q1 hI hrkk
          go_wp2
          have hca := CarAt.new wr _ rfl rk a' (rk * rk) c' 55
          have hxa := Ext.alloc wr (.cells #[.int .i64 rk, .slice a' (rk * rk) c'] 55)
          have hgr : g < wr.heap.size := Nat.lt_of_lt_of_le (HZ1.out.at_base g 0 rfl).2 HU.out.size
          obtain ⟨b8, hb8⟩ : ∃ b, b = wr.heap.size := ⟨_, rfl⟩
          obtain ⟨w2, hw2⟩ : ∃ w, w = wr.alloc (.cells #[.int .i64 rk, .slice a' (rk * rk) c'] 55) := ⟨_, rfl⟩
          rw [← hb8] at hca ⊢
          rw [← hw2] at hca hxa ⊢
          have n8 : b8 ≠ g := by omega
          have HC2 := hidP hca
          have HU2 := hidP (HU.out.ext hxa)
          have HI2 := hidP (HI.out.below hxa)
          have HS2 := hidP (UpdI.start (HU2.out.ints HZ1.out.ints))
          have HUs := hidP hxa.size
          obtain ⟨D, hD⟩ : ∃ D, D = applyW (wTo R ks q) (List.replicate (R * R) 0) := ⟨_, rfl⟩
          rw [← hD] at HU2 HS2
          have HD := hidP hD
          clear hw2 hb8 hca hxa hq0 hq1 hxr HI HU hD
          go_loopw [40] (fun t wr => ∃ i : Nat, i ≤ rk ∧ t = .int .i64 i ∧ Hid (UpdI w2 wr (some ⟨g, 0, none⟩) (R * R) (applyW (wBlk R ok kk i) D))) (fun t _ => rk - (intOf t).toNat)
          case atStart => exact ⟨0, Nat.zero_le _, rfl, HS2⟩
          case round =>
            obtain ⟨i, hi, rfl, HUi⟩ := hrel
            by_cases hlti : i < rk
            · have HBS := hidP (wBlk_succ R ok kk i)
              rw [← HRK.out] at HBS
              obtain ⟨c0, c1⟩ := HC2.out
              have d0 := HUi.out.far c0 n8
              clear c0 c1
              go_wp2
              go_loopw [45] (fun t wr => ∃ j : Nat, j ≤ rk ∧ t = .int .i64 j ∧ Hid (UpdI w2 wr (some ⟨g, 0, none⟩) (R * R) (applyW (wBlk R ok kk i ++ wRow R ok kk i j) D))) (fun t _ => rk - (intOf t).toNat)
              case atStart => exact ⟨0, Nat.zero_le _, rfl, by show UpdI _ _ _ _ _; simpa [wRow] using HUi.out⟩
              case round =>
                obtain ⟨j, hj, rfl, HUj⟩ := hrel
                obtain ⟨c0, c1⟩ := HC2.out
                have d0 := HUj.out.far c0 n8
                have d1 := HUj.out.far c1 n8
                clear c0 c1
                by_cases hltj : j < rk
                · obtain ⟨_, _, _, _, r0, r1, _, _, _⟩ := HJ1.out.upd (HU2.out.trans HUj.out) n2 n3
                  have hIj := HUj.out.others HI2.out (fun b o b' o' e e' => by have := hab b' o' e'; cases e; have := HG1.out; omega)
                  obtain ⟨bx, ox, rfl, qx, lx⟩ := hIj.entry hlti hltj
                  have hpl : (ok + i) * R + ok + j < R * R := by
                    have : (ok + i + 1) * R ≤ R * R := Nat.mul_le_mul_right _ (by omega)
                    rw [Nat.add_mul, Nat.one_mul] at this
                    omega
                  obtain ⟨y0, y1⟩ := HUj.out.cellInt _ hpl
                  rw [Nat.zero_add] at y0 y1
                  have hz : wr.frozen? ⟨g, (ok + i) * R + ok + j, none⟩ = false := by
                    have h1 := (HU2.out.cellInt _ hpl).2
                    have h2 := HZ1.out.unfrozen _ g 0 hpl rfl
                    rw [Nat.zero_add] at h1 h2
                    rw [y1, h1, h2]
                  have hst := HUj.out.store _ hpl (atM (pMat kk) rk i j)
                  rw [Nat.zero_add] at hst
                  have hsn := applyW_snoc (wBlk R ok kk i ++ wRow R ok kk i j) ((ok + i) * R + ok + j, atM (pMat kk) rk i j) D
                  simp only [] at hsn
                  rw [← hsn] at hst
                  clear hsn
                  have HST : Hid (UpdI w2 (wr.setCell ⟨g, (ok + i) * R + ok + j, none⟩ (.int .i64 (atM (pMat kk) rk i j))) (some ⟨g, 0, none⟩) (R * R) (applyW (wBlk R ok kk i ++ wRow R ok kk i (j + 1)) D)) := by
                    show UpdI _ _ _ _ _
                    rw [wRow_succ, ← List.append_assoc, ← HRK.out]
                    exact hst
                  have HP := hidP (placeF (r := rk) (by omega) hlti hltj)
                  have HQ := hidP (placeG (R := R) (o := ok) (i := i) (j := j) t3 (by omega) (by omega))
                  clear hst y1 lx hpl
                  generalize atM (pMat kk) rk i j = x at *
                  go_wp2
                  obtain ⟨k1, k2, k3, k4, k5⟩ := HP.out
                  obtain ⟨l0, l1, l2, l3', l4, l5, l6⟩ := HQ.out
                  (refine walkR_start (fun w' => w' = wr.drew) 23 (by kernel_rfl) ?_; simp only [numbered, List.take_succ_cons, List.take_zero, Nat.zero_add, Nat.reduceAdd, List.length_cons, List.length_nil])
                  (repeat (first | (refine walkR_still (v := ?_) rfl (by decide +kernel) rfl (fun _ _ _ h => h) rfl ?_ ?_; rotate_left; (focus (intro w' hw'; subst hw'; go_simp; all_goals (with_reducible rfl))); simp only [Act.put, List.setIfInBounds_toArray, List.set_cons_zero, List.set_cons_succ]) | (refine walkR_skip rfl (by decide +kernel) rfl (fun _ _ _ h => h) rfl ?_; simp only [Act.put, List.setIfInBounds_toArray, List.set_cons_zero, List.set_cons_succ])))
                  (refine walkR_tail (by rfl) (by kernel_rfl) ?_; simp only [List.drop_succ_cons, List.drop_zero])
                  clear k1 k2 k3 k4 k5 l0 l1 l2 l3' l4 l5
                  go_wp2
                  go_roundw
                  case rel => exact ⟨j + 1, by omega, by go_num, HST.drew⟩
                  case measure => simp [intOf]; omega
                · obtain rfl : j = rk := by omega
                  rw [← HBS.out] at HUj
                  go_wp2
                  go_roundw
                  case rel => exact ⟨i + 1, by omega, by go_num, HUj⟩
                  case measure => simp [intOf]; omega
            · obtain rfl : i = rk := by omega
              obtain ⟨c0, c1⟩ := HC2.out
              have d0 := HUi.out.far c0 n8
              clear c0 c1
              go_wp2
              go_roundw
              case rel =>
                refine ⟨q + 1, by omega, by go_num, by rw [HO.out]; simp, ?_⟩
                have := HU2.out.trans HUi.out
                rw [HWS.out]
                show UpdI _ _ _ _ _
                rw [applyW_append, ← HD.out]
                exact this
              case measure => simp [intOf]; omega
        · obtain rfl : q = k := by omega
          have HFin : Hid (applyW (wTo R ks q) (List.replicate (R * R) 0) = blockL ks) := by show _ = _; rw [← L.out]; exact HJE.out
          rw [HFin.out] at HU
          obtain ⟨o0, o1, of0, of1, r0, r1, rf0, rf1, hne⟩ := HJ1.out.upd HU.out n2 n3
          have l2 : b2 < wr.heap.size := World.block_lt_of_cell? wr _ o0
          have HEnd : Hid (OwnI ((wr.setCell ⟨b2, 0, none⟩ (.int .i64 R)).setCell ⟨b2, 1, none⟩ (.slice (some ⟨g, 0, none⟩) (R * R) (R * R))) w.heap.size (some ⟨g, 0, none⟩) (R * R) (R * R) (blockL ks) ∧ Ext w ((wr.setCell ⟨b2, 0, none⟩ (.int .i64 R)).setCell ⟨b2, 1, none⟩ (.slice (some ⟨g, 0, none⟩) (R * R) (R * R)))) := by
            refine ⟨?_, ?_⟩
            · exact ((HU.out.own HZ1.out).setFar _ 0 _ (Ne.symm n2)).setFar _ 1 _ (Ne.symm n2)
            · have h : Ext w wr := HU.out.below HX1.out HX1.out.size fun b o e _ => by cases e; exact HG1.out
              exact (h.setNew _ _ (by have := HB2.out; omega) _).setNew _ _ (by have := HB2.out; omega) _
          go_wp2
          refine bodyPost_ret (v := carV R (some ⟨g, 0, none⟩) (R * R) (R * R)) (by simp [results, Tryz.results207, go_sem, o0, o1]) rfl ⟨some ⟨g, 0, none⟩, rfl, ?_, ?_⟩
          · exact HEnd.out.1
          · exact HEnd.out.2
end Go.Proofs.YtnfbfdamlnjblaaGreatDoor
