/-
  Sums of positive numbers are positive, plain. No program in sight.
  Characters restricted to some rows, plain. No program in sight.
  The program's parts of Cartan matrices; BranchTo. Printed by gen/brn.py.
  The reference's parts of Cartan matrices; BranchTo. Printed by gen/brn.py.
  The reference's BranchTo. Printed by gen/brn.py.
-/
import Derived.Test.YtnfbfdamlnjblaaGreatDoorJoinZ
import Derived.Test.YtnfbfdamlnjblaaGreatDoorSubZ
import Derived.Test.YtnfbfdamlnjblaaGreatDoorCarA
import Derived.Test.YtnfbfdamlnjblaaGreatDoorCarT
namespace Go.Proofs.YtnfbfdamlnjblaaGreatDoor
open Go.RowKit

theorem mem_put2 {l : List Tm} {w : List Int} {n : Int} {p : Tm} (h : p ∈ putT l w n) : p ∈ l ∨ p = (w, n) ∨ ∃ t ∈ l, p = (w, t.2 + n) := by
  induction l with
  | nil =>
    simp only [putT, List.mem_singleton] at h
    exact .inr (.inl h)
  | cons t l ih =>
    unfold putT at h
    split at h
    · rcases List.mem_cons.1 h with rfl | h
      · exact .inl (by simp)
      · rcases ih h with h | h | ⟨t', ht', h⟩
        · exact .inl (by simp [h])
        · exact .inr (.inl h)
        · exact .inr (.inr ⟨t', by simp [ht'], h⟩)
    · split at h
      · rcases List.mem_cons.1 h with rfl | h
        · exact .inr (.inr ⟨t, by simp, rfl⟩)
        · exact .inl (by simp [h])
      · rcases List.mem_cons.1 h with rfl | h
        · exact .inr (.inl rfl)
        · exact .inl h
theorem puts_pos : ∀ (b : List Tm) {o : List Tm}, (∀ p ∈ o, 0 < p.2) → (∀ p ∈ b, 0 < p.2) → ∀ p ∈ putsT o 1 b, 0 < p.2
  | [], _, ho, _, p, hp => ho p hp
  | t :: b, o, ho, hb, p, hp => by
    refine puts_pos b (o := putT o t.1 (1 * t.2)) (fun q hq => ?_) (fun q hq => hb q (by simp [hq])) p hp
    have ht := hb t (by simp)
    rcases mem_put2 hq with h | h | ⟨t', ht', h⟩
    · exact ho q h
    · rw [h]; show 0 < 1 * t.2; omega
    · rw [h]; have := ho t' ht'; show 0 < t'.2 + 1 * t.2; omega
end Go.Proofs.YtnfbfdamlnjblaaGreatDoor

namespace Go.Proofs.YtnfbfdamlnjblaaGreatDoor
open Go.RowKit

/-! ### a grid, row by row -/
def gridK {β : Type} (f : Nat → Nat → β) (q : List Nat) (i j : Nat) : List β := (q.take i).flatMap (fun x => q.map (f x)) ++ (q.take j).map (f (q.getD i 0))
theorem gridK_start {β : Type} (f : Nat → Nat → β) (q : List Nat) : gridK f q 0 0 = [] := by simp [gridK]
theorem getN {q : List Nat} {i : Nat} (h : i < q.length) : q.getD i 0 = q[i] := by simp [h]
theorem gridK_row {β : Type} (f : Nat → Nat → β) {q : List Nat} {i : Nat} (hi : i < q.length) : gridK f q i q.length = gridK f q (i + 1) 0 := by
  unfold gridK
  rw [List.take_succ_eq_append_getElem hi, List.flatMap_append, List.take_length, getN hi]
  simp
theorem gridK_succ {β : Type} (f : Nat → Nat → β) {q : List Nat} {i j : Nat} (hj : j < q.length) : gridK f q i (j + 1) = gridK f q i j ++ [f (q.getD i 0) (q.getD j 0)] := by
  unfold gridK
  rw [List.take_succ_eq_append_getElem hj, List.map_append, ← List.append_assoc, getN hj]
  rfl
theorem gridK_end {β : Type} (f : Nat → Nat → β) (q : List Nat) : gridK f q q.length 0 = q.flatMap fun x => q.map (f x) := by
  simp [gridK]
theorem gridK_length {β : Type} (f : Nat → Nat → β) {q : List Nat} (hq : q.length ≤ 4) {i j : Nat} (hi : i ≤ 4) (hj : j ≤ 4) : (gridK f q i j).length ≤ 20 := by
  unfold gridK
  rw [List.length_append, List.length_map, List.length_take]
  have : ∀ l : List Nat, (l.flatMap fun x => q.map (f x)).length = l.length * q.length := fun l => by
    induction l with
    | nil => simp
    | cons a l ih => rw [List.flatMap_cons, List.length_append, ih, List.length_map, List.length_cons, Nat.succ_mul]; omega
  rw [this, List.length_take]
  have := Nat.mul_le_mul (show min i q.length ≤ 4 by omega) hq
  omega

/-! ### rows that rise -/
def rowT (r : Int) (rows : List Int) (k : Nat) : Bool := insB (rows.getD k 0) 0 (r - 1) && (decide (k = 0) || decide (rows.getD (k - 1) 0 < rows.getD k 0))
def rowsB (r : Int) (rows : List Int) : Bool := (List.range rows.length).all (rowT r rows)
def subB (r : Int) (ts rows : List Int) : Bool := typeB r ts && (decide (rows.length ≠ 0) && rowsB r rows)
def rowsN (rows : List Int) : List Nat := rows.map Int.toNat
theorem rowsB_bad {r : Int} {rows : List Int} (k : Nat) (hk : k < rows.length) (h : rowT r rows k = false) : rowsB r rows = false := by
  rw [← Bool.not_eq_true]
  intro h2
  have := List.all_eq_true.1 h2 k (List.mem_range.2 hk)
  rw [h] at this
  cases this
theorem rowsB_good {r : Int} {rows : List Int} (h : ∀ k, k < rows.length → rowT r rows k = true) : rowsB r rows = true :=
  List.all_eq_true.2 fun k hk => h k (List.mem_range.1 hk)
structure RowsP (r : Int) (rows : List Int) : Prop where
  ins : ∀ k, k < rows.length → 0 ≤ rows.getD k 0 ∧ rows.getD k 0 < r
  up : ∀ k, k + 1 < rows.length → rows.getD k 0 < rows.getD (k + 1) 0
theorem rowsP_of {r : Int} {rows : List Int} (h : rowsB r rows = true) : RowsP r rows := by
  have h1 : ∀ k, k < rows.length → rowT r rows k = true := fun k hk => List.all_eq_true.1 h k (List.mem_range.2 hk)
  refine ⟨fun k hk => ?_, fun k hk => ?_⟩
  · have := h1 k hk
    simp only [rowT, Bool.and_eq_true] at this
    have := insB_true.1 this.1
    omega
  · have := h1 (k + 1) hk
    simp only [rowT, Bool.and_eq_true, Bool.or_eq_true, decide_eq_true_eq] at this
    rcases this.2 with h | h
    · omega
    · simpa using h
theorem RowsP.mono {r : Int} {rows : List Int} (h : RowsP r rows) : ∀ (d k : Nat), k + d + 1 < rows.length → rows.getD k 0 < rows.getD (k + d + 1) 0
  | 0, k, hk => h.up k hk
  | d + 1, k, hk => by
    have h1 := h.mono d k (by omega)
    have h2 := h.up (k + d + 1) (by omega)
    have e : k + (d + 1) + 1 = k + d + 1 + 1 := by omega
    rw [e]
    omega
theorem getI {q : List Int} {i : Nat} (h : i < q.length) : q.getD i 0 = q[i] := by simp [h]
theorem rowsN_length (rows : List Int) : (rowsN rows).length = rows.length := by simp [rowsN]
theorem rowsN_get {r : Int} {rows : List Int} (h : RowsP r rows) {k : Nat} (hk : k < rows.length) : (((rowsN rows).getD k 0 : Nat) : Int) = rows.getD k 0 := by
  have := h.ins k hk
  rw [getN (by rw [rowsN_length]; exact hk), getI hk] at *
  simp only [rowsN, List.getElem_map]
  omega
theorem rowsN_nodup {r : Int} {rows : List Int} (h : RowsP r rows) : (rowsN rows).Nodup := by
  rw [List.Nodup, List.pairwise_iff_getElem]
  intro i j hi hj hij
  rw [rowsN_length] at hi hj
  have h1 := h.mono (j - i - 1) i (by omega)
  rw [show i + (j - i - 1) + 1 = j by omega] at h1
  have h2 := rowsN_get h hi
  have h3 := rowsN_get h hj
  rw [getN (by rw [rowsN_length]; omega)] at h2 h3
  omega
theorem rowsN_lt {r : Int} {rows : List Int} (h : RowsP r rows) : ∀ i ∈ rowsN rows, i < r.toNat := fun i hi => by
  obtain ⟨k, hk, rfl⟩ := List.getElem_of_mem hi
  rw [rowsN_length] at hk
  have h1 := h.ins k hk
  have h2 := rowsN_get h hk
  rw [getN (by rw [rowsN_length]; omega)] at h2
  omega
theorem RowsP.len {r : Int} {rows : List Int} (h : RowsP r rows) : rows.length ≤ r.toNat := by
  have := nodup_le _ _ (rowsN_nodup h) (rowsN_lt h)
  rwa [rowsN_length] at this
def subM (r : Int) (ts rows : List Int) : List Int := subL ts r.toNat (rowsN rows)
theorem subB_parts {r : Int} {ts rows : List Int} (h : subB r ts rows = true) : typeB r ts = true ∧ rows.length ≠ 0 ∧ RowsP r rows := by
  simp only [subB, Bool.and_eq_true, decide_eq_true_eq] at h
  exact ⟨h.1, h.2.1, rowsP_of h.2.2⟩
theorem subB_type {r : Int} {ts rows : List Int} (h : subB r ts rows = true) : typeB rows.length (subM r ts rows) = true := by
  obtain ⟨h1, h2, h3⟩ := subB_parts h
  have := sub_type h1 (rowsN_nodup h3) (rowsN_lt h3) (by
    intro e
    have := rowsN_length rows
    rw [e] at this
    simp at this
    omega)
  rwa [rowsN_length] at this

/-! ### characters -/
def pickL (W rows : List Int) : List Int := (rowsN rows).map fun i => W.getD i 0
theorem pickL_length (W rows : List Int) : (pickL W rows).length = rows.length := by simp [pickL, rowsN]
theorem pickL_get {W rows : List Int} {k : Nat} (hk : k < rows.length) : (pickL W rows).getD k 0 = W.getD ((rowsN rows).getD k 0) 0 := by
  have h1 : k < (pickL W rows).length := by rw [pickL_length]; exact hk
  rw [getI h1, getN (by rw [rowsN_length]; exact hk)]
  simp [pickL]
def pickP (rows : List Int) (p : Tm) : Tm := (pickL p.1 rows, p.2)
def pickT (rows : List Int) (us : List Tm) : List Tm := us.map (pickP rows)
def brnT (rows : List Int) (us : List Tm) : List Tm := joinT [] 1 (pickT rows us)
theorem brnT_tells (rows : List Int) (us : List Tm) : Ordered Above (brnT rows us) ∧ Tells (cntSum (pickT rows us)) (brnT rows us) := by
  have := joinT_tells (a := []) (b := pickT rows us) 1 List.Pairwise.nil
  rwa [List.nil_append, timesT_one] at this
theorem brnT_eq {r : Nat} {rows : List Int} {us : List Tm} (hu : ChrP r us) : brnT rows us = putsT [] 1 (pickT rows us) := by
  unfold brnT joinT
  refine clean_self fun p hp => ?_
  have := puts_pos (pickT rows us) (o := cleanT []) (fun q hq => by simp [cleanT] at hq) (fun q hq => by
    obtain ⟨s, hs, rfl⟩ := List.mem_map.1 hq
    have := hu.each s hs
    show 0 < s.2
    omega) p hp
  omega
theorem brnT_length (rows : List Int) (us : List Tm) : (brnT rows us).length ≤ us.length := by
  have h1 := joinT_length [] 1 (pickT rows us)
  unfold brnT
  simpa [pickT] using h1
def brnR (r : Int) (ts rows : List Int) (us : List Tm) : Bool × List Tm := if subB r ts rows && chrB r.toNat us then chrR rows.length (brnT rows us) else (false, [])
theorem brnR_small (r : Int) (ts rows : List Int) (us : List Tm) : SmallL (brnR r ts rows us).2 := by
  unfold brnR
  split
  · rename_i h
    simp only [Bool.and_eq_true] at h
    have h1 := subB_parts h.1
    have h2 := h1.2.2.len
    have := typeB_rank h1.1
    exact chrR_small (by omega) _
  · exact SmallL.nil
end Go.Proofs.YtnfbfdamlnjblaaGreatDoor

namespace Go.Proofs.YtnfbfdamlnjblaaGreatDoor
open Go.RowKit

/-! ### a cell that holds a Cartan matrix under way -/
structure BoxAt (w : World) (b : Nat) (r : Int) (a : Option Addr) (n c : Nat) : Prop where
  blk : w.heap[b]? = some (.cells #[.int .i64 r, .slice a n c] 55 (0, 0))
theorem BoxAt.below {w w' : World} {b : Nat} {r : Int} {a : Option Addr} {n c : Nat} (h : BoxAt w b r a n c) (hx : Ext w w') : BoxAt w' b r a n c := by
  obtain ⟨hlt, _⟩ := Array.getElem?_eq_some_iff.1 h.blk
  exact ⟨(hx.block b hlt).trans h.blk⟩
theorem BoxAt.car {w : World} {b : Nat} {r : Int} {a : Option Addr} {n c : Nat} (h : BoxAt w b r a n c) : CarAt w b r a n c :=
  ⟨by simp [World.cell?, h.blk], by simp [World.cell?, h.blk]⟩
theorem BoxAt.frz {w : World} {b : Nat} {r : Int} {a : Option Addr} {n c : Nat} (h : BoxAt w b r a n c) (j : Nat) : w.frozen? ⟨b, j, none⟩ = false := by
  simp only [World.frozen?, h.blk]
  simp
theorem BoxAt.ne {w : World} {b : Nat} {r : Int} {a : Option Addr} {n c : Nat} (h : BoxAt w b r a n c) {B : Nat} {a' : Option Addr} {n' c' : Nat} {xs : List Int} (ho : OwnI w B a' n' c' xs) : ∀ g o, a' = some ⟨g, o, none⟩ → g ≠ b := by
  rintro g o e rfl
  obtain ⟨cur, hb⟩ := ho.block e
  rw [h.blk] at hb
  simp only [Option.some.injEq, Obj.cells.injEq] at hb
  exact absurd hb.2.1 (by decide)
theorem BoxAt.grown {w w' : World} {b : Nat} {r : Int} {a : Option Addr} {n c : Nat} (h : BoxAt w b r a n c) {B : Nat} {a' : Option Addr} {n' c' : Nat} {xs : List Int} (ho : OwnI w B a' n' c' xs) (hg : w.grownBy w' (Value.slice a' n' c').ownBlock) : BoxAt w' b r a n c := by
  obtain ⟨hlt, _⟩ := Array.getElem?_eq_some_iff.1 h.blk
  refine ⟨(hg.block b hlt ?_).trans h.blk⟩
  intro e
  cases a' with
  | none => simp [Value.ownBlock] at e
  | some ad =>
    rcases ho.row.2 with ⟨he, _⟩ | ⟨g', cap, cur, he, hB, hg', _⟩
    · simp at he
    · simp only [Value.slice.injEq, Option.some.injEq] at he
      obtain ⟨rfl, _⟩ := he
      simp only [Value.ownBlock, Option.some.injEq] at e
      exact h.ne ho _ _ rfl e.symm
theorem BoxAt.put {w : World} {b : Nat} {r : Int} {a : Option Addr} {n c : Nat} (h : BoxAt w b r a n c) (a' : Option Addr) (n' c' : Nat) : BoxAt (w.setCell ⟨b, 1, none⟩ (.slice a' n' c')) b r a' n' c' :=
  ⟨by simp [World.setCell, Array.getElem?_modify, h.blk]⟩
theorem BoxAt.other {w : World} {b : Nat} {r : Int} {a : Option Addr} {n c : Nat} (h : BoxAt w b r a n c) {b' : Nat} (hne : b ≠ b') (j : Nat) (v : Value) : BoxAt (w.setCell ⟨b', j, none⟩ v) b r a n c :=
  ⟨by simp [World.setCell, Array.getElem?_modify, hne.symm, h.blk]⟩
theorem BoxAt.new (w : World) (r : Int) (a : Option Addr) (n c : Nat) : BoxAt (w.alloc (.cells #[.int .i64 r, .slice a n c] 55)) w.heap.size r a n c :=
  ⟨heap_alloc_new _ _⟩
theorem BoxAt.put2 {w : World} {b : Nat} {r : Int} {a : Option Addr} {n c : Nat} (h : BoxAt w b r a n c) (r' : Int) (a' : Option Addr) (n' c' : Nat) : BoxAt ((w.setCell ⟨b, 0, none⟩ (.int .i64 r')).setCell ⟨b, 1, none⟩ (.slice a' n' c')) b r' a' n' c' :=
  ⟨by simp [World.setCell, Array.getElem?_modify, h.blk]⟩
theorem rows_natI {r : Int} {rows : List Int} (h : RowsP r rows) : natI (rowsN rows) = rows := by
  refine List.ext_getElem (by simp [natI, rowsN]) fun k h1 h2 => ?_
  have := h.ins k h2
  rw [getI h2] at this
  simp only [natI, rowsN, List.getElem_map]
  omega
set_option maxRecDepth 100000 in
set_option maxHeartbeats 4000000 in
theorem subCartan_any (r : Int) (ta : Option Addr) (tn tc : Nat) (ts : List Int) (a : Option Addr) (n c : Nat) (rows : List Int) (w : World) (hc : IntsAt w ta tn ts) (h : IntsAt w a n rows) (hn : n ≤ 9223372036854775807)
    (HIs : ∀ w', Ext w w' → Calls Tryz.prog 134 #[carV r ta tn tc] w' fun e w'' => e = .returned (.bool (typeB r ts)) ∧ Ext w' w'') :
    Calls Tryz.prog 105 #[carV r ta tn tc, .slice a n c] w fun e w' => ∃ v, e = .returned (.tuple #[v, .bool (subB r ts rows)]) ∧ (subB r ts rows = false → v = carV 0 none 0 0) ∧ (subB r ts rows = true → ∃ a' m c', v = carV n a' m c' ∧ OwnI w' w.heap.size a' m c' (subM r ts rows)) ∧ Ext w w' := by
  have hx1 := Ext.alloc w (.cells #[.int .i64 r, .slice ta tn tc] 55)
  have hx2 := Ext.alloc (w.alloc (.cells #[.int .i64 r, .slice ta tn tc] 55)) (.cells #[.int .i64 0, .slice none 0 0] 55)
  have HC := hidP ((BoxAt.new w r ta tn tc).below hx2)
  have HR := hidP (BoxAt.new (w.alloc (.cells #[.int .i64 r, .slice ta tn tc] 55)) 0 none 0 0)
  have hs1 : (w.alloc (.cells #[.int .i64 r, .slice ta tn tc] 55)).heap.size = w.heap.size + 1 := by simp
  rw [hs1] at HR
  have HX1 := hidP (hx1.trans hx2)
  have H0 := hidP h
  have HT0' := hidP hc
  have HIs1 := hidP (HIs _ (hx1.trans hx2))
  have HLn := hidP h.len
  clear h hc hx1 hx2 HIs hs1
  obtain ⟨wA, hwA⟩ : ∃ wA, wA = (w.alloc (.cells #[.int .i64 r, .slice ta tn tc] 55)).alloc (.cells #[.int .i64 0, .slice none 0 0] 55) := ⟨_, rfl⟩
  rw [← hwA] at HC HR HX1 HIs1
  obtain ⟨f0, f1⟩ := HC.out.car
  cases hT : typeB r ts
  · have HS : Hid (subB r ts rows = false) := by show _ = _; unfold subB; rw [hT]; rfl
    rw [hT] at HIs1
    clear hT
    go_enter Tryz.func105, Tryz.ntmps105
    go_wp2_with fail
    rw [← hwA]
    clear hwA
    refine HIs1.out.mono ?_
    rintro e w1 ⟨rfl, hx⟩
    have HX := hidP (HX1.out.trans hx)
    have HR1 := hidP (HR.out.below hx)
    clear hx f0 f1
    obtain ⟨f0, f1⟩ := HR1.out.car
    have z0 := HR1.out.frz 0
    have z1 := HR1.out.frz 1
    have HX9 : Hid (Ext w ((w1.setCell ⟨w.heap.size + 1, 0, none⟩ (.int .i64 0)).setCell ⟨w.heap.size + 1, 1, none⟩ (.slice none 0 0))) := (HX.out.setNew _ _ (by omega) _).setNew _ _ (by omega) _
    obtain ⟨y0, y1⟩ := (HR1.out.put2 0 none 0 0).car
    go_wp2
    refine bodyPost_ret (v := .tuple #[carV 0 none 0 0, .bool false]) (by simp [results, Tryz.results105, go_sem, y0, y1]) rfl ?_
    exact ⟨_, by rw [HS.out], fun _ => rfl, fun h => absurd h (by rw [HS.out]; exact Bool.false_ne_true), HX9.out⟩
  · obtain ⟨hr1, hr4, hrl⟩ := typeB_rank hT
    rw [hT] at HIs1
    obtain ⟨R, rfl⟩ : ∃ R : Nat, r = R := ⟨r.toNat, by omega⟩
    have HT := hidP hT
    clear hT
    have HRl := hidP hrl
    have hR4 : R ≤ 4 := by omega
    clear hr4 hrl
    go_enter Tryz.func105, Tryz.ntmps105
    go_wp2_with fail
    rw [← hwA]
    clear hwA
    refine HIs1.out.mono ?_
    rintro e w1 ⟨rfl, hx⟩
    have HX := hidP (HX1.out.trans hx)
    have HR1 := hidP (HR.out.below hx)
    have HC1 := hidP (HC.out.below hx)
    clear hx f0 f1 HIs1 HX1 HR HC
    by_cases hz : n = 0
    · have HS : Hid (subB R ts rows = false) := by
        show _ = _
        unfold subB
        rw [show rows.length = 0 by have := HLn.out; omega]
        simp
      subst hz
      obtain ⟨f0, f1⟩ := HR1.out.car
      have z0 := HR1.out.frz 0
      have z1 := HR1.out.frz 1
      have HX9 : Hid (Ext w ((w1.setCell ⟨w.heap.size + 1, 0, none⟩ (.int .i64 0)).setCell ⟨w.heap.size + 1, 1, none⟩ (.slice none 0 0))) := (HX.out.setNew _ _ (by omega) _).setNew _ _ (by omega) _
      obtain ⟨y0, y1⟩ := (HR1.out.put2 0 none 0 0).car
      go_wp2
      refine bodyPost_ret (v := .tuple #[carV 0 none 0 0, .bool false]) (by simp [results, Tryz.results105, go_sem, y0, y1]) rfl ?_
      exact ⟨_, by rw [HS.out], fun _ => rfl, fun h => absurd h (by rw [HS.out]; exact Bool.false_ne_true), HX9.out⟩
    · have hz' : ((n : Int) == 0) = false := by simpa using hz
      go_wp2
      go_loopw [24] (fun i wr => ∃ k : Nat, k ≤ n ∧ i = .int .i64 k ∧ Hid (∀ j, j < k → rowT R rows j = true) ∧ Hid (Ext w1 wr)) (fun i _ => n - (intOf i).toNat)
      case atStart => exact ⟨0, Nat.zero_le _, rfl, fun j h => by omega, Ext.refl _⟩
      case round =>
        obtain ⟨k, hk, rfl, HJ, HX2⟩ := hrel
        by_cases hlt : k < n
        · obtain ⟨b0, o0, ea, q0⟩ := (H0.out.below (HX.out.trans HX2.out)).get k hlt
          have HCr := HC1.out.below HX2.out
          obtain ⟨f0, f1⟩ := HCr.car
          clear HCr
          have hRw : IntKind.i64.wrap ((R : Int) - 1) = R - 1 := wrap_in (by omega) (by omega)
          have HSB : Hid (rowT R rows k = (insB (rows.getD k 0) 0 (R - 1) && (decide (k = 0) || decide (rows.getD (k - 1) 0 < rows.getD k 0)))) := rfl
          cases hI : insB (rows.getD k 0) 0 (R - 1)
          · rw [hI, Bool.false_and] at HSB
            have HS : Hid (subB R ts rows = false) := by
              show _ = _
              unfold subB
              rw [rowsB_bad k (by have := HLn.out; omega) HSB.out]
              simp
            have HIn := hidP (inside_any (rows.getD k 0) 0 ((R : Int) - 1) wr)
            rw [hI] at HIn
            obtain ⟨x, hx⟩ : ∃ x, x = rows.getD k 0 := ⟨_, rfl⟩
            rw [← hx] at q0 HIn
            clear hI hx
            subst ea
            go_wp2_with fail
            refine HIn.out.mono ?_
            rintro e w2 ⟨rfl, rfl⟩
            have HR2 := hidP (HR1.out.below HX2.out)
            have HX3 := hidP (HX.out.trans HX2.out)
            clear f0 f1 q0
            obtain ⟨f0, f1⟩ := HR2.out.car
            have z0 := HR2.out.frz 0
            have z1 := HR2.out.frz 1
            have HX9 : Hid (Ext w ((wr.setCell ⟨w.heap.size + 1, 0, none⟩ (.int .i64 0)).setCell ⟨w.heap.size + 1, 1, none⟩ (.slice none 0 0))) := (HX3.out.setNew _ _ (by omega) _).setNew _ _ (by omega) _
            obtain ⟨y0, y1⟩ := (HR2.out.put2 0 none 0 0).car
            go_wp2
            refine bodyPost_ret (v := .tuple #[carV 0 none 0 0, .bool false]) (by simp [results, Tryz.results105, go_sem, y0, y1]) rfl ?_
            exact ⟨_, by rw [HS.out], fun _ => rfl, fun h => absurd h (by rw [HS.out]; exact Bool.false_ne_true), HX9.out⟩
          · rw [hI, Bool.true_and] at HSB
            have hIb := insB_true.1 hI
            have HIn := hidP (inside_any (rows.getD k 0) 0 ((R : Int) - 1) wr)
            rw [hI] at HIn
            cases k with
            | zero =>
              have HT0 : Hid (rowT R rows 0 = true) := HSB.out
              obtain ⟨x, hx⟩ : ∃ x, x = rows.getD 0 0 := ⟨_, rfl⟩
              rw [← hx] at q0 HIn
              clear hI hx hIb
              subst ea
              simp only [Nat.add_zero] at q0
              go_wp2_with fail
              refine HIn.out.mono ?_
              rintro e w2 ⟨rfl, rfl⟩
              go_wp2
              go_roundw
              case rel =>
                refine ⟨1, by omega, by go_num, fun j hj => ?_, HX2⟩
                obtain rfl : j = 0 := by omega
                exact HT0.out
              case measure => simp [intOf]; omega
            | succ k =>
              have hk0 : (0 : Int) ≤ (k : Int) + 1 := by omega
              have hk1 : (0 : Int) < (k : Int) + 1 := by omega
              have hk2 : (k : Int) + 1 < n := by omega
              have hk3 : (k : Int) < n := by omega
              have hk4 : IntKind.i64.wrap (k : Int) = k := wrap_in (by omega) (by omega)
              obtain ⟨b1, o1, ea1, q1⟩ := (H0.out.below (HX.out.trans HX2.out)).get k (by omega)
              rw [ea] at ea1
              simp only [Option.some.injEq, Addr.mk.injEq, and_true] at ea1
              obtain ⟨rfl, rfl⟩ := ea1
              rw [show k + 1 - 1 = k from rfl] at HSB
              by_cases hup : rows.getD k 0 < rows.getD (k + 1) 0
              · have HT0 : Hid (rowT R rows (k + 1) = true) := by
                  show _ = _
                  rw [HSB.out, decide_eq_true hup, Bool.or_true]
                obtain ⟨x, hx⟩ : ∃ x, x = rows.getD (k + 1) 0 := ⟨_, rfl⟩
                obtain ⟨y, hy⟩ : ∃ y, y = rows.getD k 0 := ⟨_, rfl⟩
                rw [← hx] at q0 HIn hup
                rw [← hy] at q1 hup
                have hup' : ¬ (x ≤ y) := by omega
                clear hI hx hIb hy
                subst ea
                go_wp2_with fail
                refine HIn.out.mono ?_
                rintro e w2 ⟨rfl, rfl⟩
                go_wp2
                go_roundw
                case rel =>
                  refine ⟨k + 2, by omega, by go_num, fun j hj => ?_, HX2⟩
                  rcases Nat.lt_succ_iff_lt_or_eq.1 hj with h3 | rfl
                  · exact HJ.out j h3
                  · exact HT0.out
                case measure => simp [intOf]; omega
              · have HS : Hid (subB R ts rows = false) := by
                  show _ = _
                  unfold subB
                  rw [rowsB_bad (k + 1) (by have := HLn.out; omega) (by rw [HSB.out, decide_eq_false hup, decide_eq_false (Nat.succ_ne_zero k)]; rfl)]
                  simp
                obtain ⟨x, hx⟩ : ∃ x, x = rows.getD (k + 1) 0 := ⟨_, rfl⟩
                obtain ⟨y, hy⟩ : ∃ y, y = rows.getD k 0 := ⟨_, rfl⟩
                rw [← hx] at q0 HIn hup
                rw [← hy] at q1 hup
                have hup' : x ≤ y := by omega
                have HR2 := hidP (HR1.out.below HX2.out)
                have HX3 := hidP (HX.out.trans HX2.out)
                clear hI hx hIb hy
                subst ea
                go_wp2_with fail
                refine HIn.out.mono ?_
                rintro e w2 ⟨rfl, rfl⟩
                clear f0 f1
                obtain ⟨f0, f1⟩ := HR2.out.car
                have z0 := HR2.out.frz 0
                have z1 := HR2.out.frz 1
                have HX9 : Hid (Ext w ((wr.setCell ⟨w.heap.size + 1, 0, none⟩ (.int .i64 0)).setCell ⟨w.heap.size + 1, 1, none⟩ (.slice none 0 0))) := (HX3.out.setNew _ _ (by omega) _).setNew _ _ (by omega) _
                obtain ⟨y0, y1⟩ := (HR2.out.put2 0 none 0 0).car
                go_wp2
                refine bodyPost_ret (v := .tuple #[carV 0 none 0 0, .bool false]) (by simp [results, Tryz.results105, go_sem, y0, y1]) rfl ?_
                exact ⟨_, by rw [HS.out], fun _ => rfl, fun h => absurd h (by rw [HS.out]; exact Bool.false_ne_true), HX9.out⟩
        · obtain rfl : n = k := by omega
          have hln := HLn.out
          have HRP := hidP (rowsP_of (rowsB_good fun j hj => HJ.out j (by omega)))
          have HS : Hid (subB R ts rows = true) := by
            show _ = _
            unfold subB
            rw [HT.out, rowsB_good fun j hj => HJ.out j (by omega)]
            simp only [Bool.true_and, Bool.and_true, decide_eq_true_eq]
            omega
          have HX3 := hidP (HX.out.trans HX2.out)
          have HR3 := hidP (HR1.out.below HX2.out)
          have HC3 := hidP (HC1.out.below HX2.out)
          have H3 : Hid (IntsAt w a n (natI (rowsN rows))) := by
            show IntsAt _ _ _ _
            rw [rows_natI HRP.out]
            exact H0.out
          have hq1 := rowsN_length rows
          have hq2 := HRP.out.len
          rw [Int.toNat_natCast] at hq2
          have HQlt := hidP (fun i (hi : i < n) => by
            have h := rowsN_lt HRP.out ((rowsN rows).getD i 0) (getD_mem (by omega))
            rwa [Int.toNat_natCast] at h)
          have HSM : Hid (subM R ts rows = gridK (atM ts R) (rowsN rows) n 0) := by
            show _ = _
            unfold subM
            rw [Int.toNat_natCast, show n = (rowsN rows).length by omega, gridK_end]
            rfl
          obtain ⟨q, hqq⟩ : ∃ q, q = rowsN rows := ⟨_, rfl⟩
          rw [← hqq] at H3 hq1 HQlt HSM
          have hn4 : n ≤ 4 := by omega
          have HQl := hidP (hq1.trans hln)
          clear hqq hln hq1 HJ HX HR1 HC1 HX2 hk hq2 hlt
          have hxb := Ext.alloc wr (.cells #[.int .i64 n, .slice none 0 0] 55)
          have HB0 := hidP (BoxAt.new wr n none 0 0)
          have HX4 := hidP (HX3.out.trans hxb)
          have HR4 := hidP (HR3.out.below hxb)
          have HC4 := hidP (HC3.out.below hxb)
          have HRb := hidP (Array.getElem?_eq_some_iff.1 HR3.out.blk).1
          clear hxb HX3 HR3 HC3
          go_wp2
          obtain ⟨w4, hw4⟩ : ∃ w4, w4 = wr.alloc (.cells #[.int .i64 n, .slice none 0 0] 55) := ⟨_, rfl⟩
          obtain ⟨bx, hbx⟩ : ∃ bx, bx = wr.heap.size := ⟨_, rfl⟩
          rw [← hw4] at HB0 HX4 HR4 HC4 ⊢
          simp only [← hbx]
          rw [← hbx] at HB0 HRb
          have hw4' : w4.heap.size = bx + 1 := by rw [hw4, hbx]; simp
          have HBx := hidP (show bx < w4.heap.size by omega)
          clear hw4 hbx hw4'
          have HI0 : Hid (∃ a' m c', BoxAt w4 bx n a' m c' ∧ OwnI w4 w4.heap.size a' m c' (gridK (atM ts R) q 0 0)) := ⟨none, 0, 0, HB0.out, by rw [gridK_start]; exact OwnI.nil _ _⟩
          clear HB0
          go_loopw [55] (fun i wr => ∃ k : Nat, k ≤ n ∧ i = .int .i64 k ∧ Hid (∃ a' m c', BoxAt wr bx n a' m c' ∧ OwnI wr w4.heap.size a' m c' (gridK (atM ts R) q k 0)) ∧ Hid (BoxAt wr (w.heap.size + 1) 0 none 0 0 ∧ BoxAt wr w.heap.size R ta tn tc ∧ Ext w wr ∧ w4.heap.size ≤ wr.heap.size)) (fun i _ => n - (intOf i).toNat)
          case atStart => exact ⟨0, Nat.zero_le _, rfl, HI0, HR4.out, HC4.out, HX4.out, Nat.le_refl _⟩
          case round =>
            have HW4 := hidP (HX4.out.size)
            clear HI0 HR4 HC4 HX4
            obtain ⟨k, hk, rfl, HG, HF⟩ := hrel
            by_cases hlt : k < n
            · obtain ⟨b0, o0, ea, q0⟩ := (H3.out.below HF.out.2.2.1).get k hlt
              rw [natI_getD] at q0
              have hi1 := HQlt.out k hlt
              obtain ⟨x, hx⟩ : ∃ x, x = q.getD k 0 := ⟨_, rfl⟩
              rw [← hx] at q0 hi1
              have HXq := hidP hx
              clear hx
              subst ea
              go_wp2
              go_loopw [61] (fun i wr => ∃ j : Nat, j ≤ n ∧ i = .int .i64 j ∧ Hid (∃ a' m c', BoxAt wr bx n a' m c' ∧ OwnI wr w4.heap.size a' m c' (gridK (atM ts R) q k j)) ∧ Hid (BoxAt wr (w.heap.size + 1) 0 none 0 0 ∧ BoxAt wr w.heap.size R ta tn tc ∧ Ext w wr ∧ w4.heap.size ≤ wr.heap.size)) (fun i _ => n - (intOf i).toNat)
              case atStart => exact ⟨0, Nat.zero_le _, rfl, HG, HF⟩
              case round =>
                clear HG HF q0
                obtain ⟨j, hj, rfl, HG, HF⟩ := hrel
                by_cases hlt' : j < n
                · obtain ⟨b1, o1, ea, q0⟩ := (H3.out.below HF.out.2.2.1).get j hlt'
                  rw [natI_getD] at q0
                  simp only [Option.some.injEq, Addr.mk.injEq, and_true] at ea
                  obtain ⟨rfl, rfl⟩ := ea
                  have hi2 := HQlt.out j hlt'
                  obtain ⟨y, hy⟩ : ∃ y, y = q.getD j 0 := ⟨_, rfl⟩
                  rw [← hy] at q0 hi2
                  obtain ⟨a', m, c', hB, hO⟩ := HG.out
                  have hm := hO.len
                  have hgl := gridK_length (atM ts R) (q := q) (by have := HQl.out; omega) (i := k) (j := j) (by omega) (by omega)
                  have hm20 : m ≤ 20 := by omega
                  have HGs : Hid (gridK (atM ts R) q k j ++ [atM ts R x y] = gridK (atM ts R) q k (j + 1)) := by
                    show _ = _
                    rw [gridK_succ _ (by have := HQl.out; omega), HXq.out, hy]
                  have HB1 := hidP hB
                  have HO1 := hidP hO
                  have HCr := hidP (fun w' (hx : Ext wr w') => (HF.out.2.1.below hx).car)
                  have HBr := hidP (fun w' (hx : Ext wr w') => (HB1.out.below hx).car)
                  have hTs := HT0'.out.below HF.out.2.2.1
                  have htl := hTs.len
                  have HAt := hidP (fun w' (hx : Ext wr w') => cartAt_any R ta tn tc ts x y w' (hTs.below hx) (by have := HRl.out; rw [htl] at this; exact this) (by omega) (by omega) (by omega))
                  rw [Int.toNat_natCast] at HAt
                  obtain ⟨V, hV⟩ : ∃ V, V = atM ts R x y := ⟨_, rfl⟩
                  rw [← hV] at HAt HGs
                  have hE : Ext wr wr.drew := Ext.drew wr
                  clear hB hO hm hgl hy hTs htl hV HG
                  go_wp2
                  clear q0
                  (refine walkR_start (fun w' => Ext wr w') 7 (by kernel_rfl) ?_; simp only [numbered, List.take_succ_cons, List.take_zero, Nat.zero_add, Nat.reduceAdd, List.length_cons, List.length_nil])
                  (repeat (first | (refine walkR_still (v := ?_) rfl (by decide +kernel) rfl (fun _ _ _ h => h) hE ?_ ?_; rotate_left; (focus (intro w' hw'; obtain ⟨f0, f1⟩ := HCr.out w' hw'; obtain ⟨g0, g1⟩ := HBr.out w' hw'; go_simp; all_goals (with_reducible rfl))); simp only [Act.put, List.setIfInBounds_toArray, List.set_cons_zero, List.set_cons_succ]) | (refine walkR_skip rfl (by decide +kernel) rfl (fun _ _ _ h => h) hE ?_; simp only [Act.put, List.setIfInBounds_toArray, List.set_cons_zero, List.set_cons_succ])))
                  (refine walkR_only (fun w' => Ext wr w') rfl (by decide +kernel) rfl (fun _ h => h) ?_; intro K hK; go_simp; refine (HAt.out _ hE).mono ?_; rintro e w5 ⟨rfl, hx5⟩; refine hK _ _ (hE.trans hx5) ?_; clear hK K; (try simp only [Act.put, List.setIfInBounds_toArray, List.set_cons_zero, List.set_cons_succ]))
                  have hE5 := hE.trans hx5
                  (refine walkR_only (fun w' => Ext wr w') rfl (by decide +kernel) rfl ?_ ?_)
                  · exact fun _ h => h
                  intro K hK
                  go_simp
                  refine hK _ _ (hE5.trans (Ext.alloc _ (.cells #[.int .i64 V] 3))) ?_
                  clear hK K
                  have hE6 := hE5.trans (Ext.alloc w5 (.cells #[.int .i64 V] 3))
                  have HO6 := hidP (HO1.out.below hE6)
                  have HI6 := hidP (show IntsAt (w5.alloc (.cells #[.int .i64 V] 3)) (some ⟨w5.heap.size, 0, none⟩) 1 [V] from by simpa [ivs] using ints_alloc w5 [V] 3)
                  have HB6 := hidP (HB1.out.below hE6)
                  have HR6 := hidP (HF.out.1.below hE6)
                  have HC6 := hidP (HF.out.2.1.below hE6)
                  have HX6 := hidP (HF.out.2.2.1.trans hE6)
                  have HZ6 := hidP (Nat.le_trans HF.out.2.2.2 hE6.size)
                  clear hE hE5 hE6 hx5
                  (try simp only [Act.put, List.setIfInBounds_toArray, List.set_cons_zero, List.set_cons_succ])
                  (refine walkR_tail (by rfl) (by kernel_rfl) ?_; simp only [List.drop_succ_cons, List.drop_zero])
                  obtain ⟨w6, hw6⟩ : ∃ w6, w6 = w5.alloc (.cells #[.int .i64 V] 3) := ⟨_, rfl⟩
                  rw [← hw6] at HO6 HI6 HB6 HR6 HC6 HX6 HZ6 ⊢
                  obtain ⟨g6, hg6⟩ : ∃ g6, g6 = w5.heap.size := ⟨_, rfl⟩
                  rw [← hg6] at HI6
                  simp only [← hg6]
                  clear hw6 hg6
                  go_wp2_with (at_builtin; refine wpList_append_ints rfl (.tmp 66) (.tmp 71) rfl w4.heap.size a' m c' _ rfl HO6.out (some ⟨g6, 0, none⟩) 1 1 [V] rfl HI6.out (fun e => by cases e) (by omega) HZ6.out ?_; intro a7 c7 w7 ho7 hg7; have HX7 := hidP (show Ext w w7 from grown_ext hg7 HX6.out HX6.out.size (fun p e => Nat.le_trans HW4.out (HO6.out.addr_base p e))); rw [HGs.out] at ho7; have HO7 := hidP ho7; have HB7 := hidP (HB6.out.grown HO6.out hg7); have HR7 := hidP (HR6.out.grown HO6.out hg7); have HC7 := hidP (HC6.out.grown HO6.out hg7); have HZ7 := hidP (Nat.le_trans HZ6.out hg7.size); clear ho7 hg7; obtain ⟨y0, y1⟩ := HB7.out.car; have z1 := HB7.out.frz 1)
                  go_roundw
                  case rel =>
                    refine ⟨j + 1, by omega, by go_num, ⟨a7, m + 1, c7, HB7.out.put _ _ _, HO7.out.setBelow _ _ HBx.out _⟩, HR7.out.other (by have := HRb.out; omega) _ _, HC7.out.other (by have := HRb.out; omega) _ _, HX7.out.setNew _ _ (by have := HRb.out; omega) _, ?_⟩
                    show _ ≤ _
                    simpa [World.setCell] using HZ7.out
                  case measure => simp [intOf]; omega
                · obtain rfl : n = j := by omega
                  have HG2 : Hid (∃ a' m c', BoxAt wr bx n a' m c' ∧ OwnI wr w4.heap.size a' m c' (gridK (atM ts R) q (k + 1) 0)) := by
                    have := HG.out
                    rw [← gridK_row _ (by have := HQl.out; omega), HQl.out]
                    exact this
                  clear HG
                  go_wp2
                  go_roundw
                  case rel => exact ⟨k + 1, by omega, by go_num, HG2, HF⟩
                  case measure => simp [intOf]; omega
            · obtain rfl : n = k := by omega
              obtain ⟨a', m, c', hB, hO⟩ := HG.out
              rw [← HSM.out] at hO
              have HB := hidP hB
              have HO := hidP hO
              obtain ⟨f0, f1⟩ := hB.car
              have hR := HF.out.1
              obtain ⟨g0, g1⟩ := hR.car
              have z0 := hR.frz 0
              have z1 := hR.frz 1
              have HX9 : Hid (Ext w ((wr.setCell ⟨w.heap.size + 1, 0, none⟩ (.int .i64 n)).setCell ⟨w.heap.size + 1, 1, none⟩ (.slice a' m c'))) := (HF.out.2.2.1.setNew _ _ (by omega) _).setNew _ _ (by omega) _
              have hlw : w.heap.size + 1 < w4.heap.size := by have := HRb.out; have := HBx.out; omega
              have HO9 := hidP (((HO.out.setBelow (w.heap.size + 1) 0 hlw (.int .i64 n)).setBelow (w.heap.size + 1) 1 hlw (.slice a' m c')).base (B' := w.heap.size) HW4.out)
              obtain ⟨y0, y1⟩ := (hR.put2 n a' m c').car
              clear hB hO hR hlw HG HF
              go_wp2
              refine bodyPost_ret (v := .tuple #[carV n a' m c', .bool true]) (by simp [results, Tryz.results105, go_sem, y0, y1]) rfl ?_
              exact ⟨_, by rw [HS.out], fun h => absurd h (by rw [HS.out]; simp), fun _ => ⟨a', m, c', rfl, HO9.out⟩, HX9.out⟩
set_option maxRecDepth 100000 in
set_option maxHeartbeats 2000000 in
theorem pick_any {r : Int} (a : Option Addr) (n c : Nat) (W : List Int) (a' : Option Addr) (n' c' : Nat) (rows : List Int) (w : World) (h : IntsAt w a n W) (h' : IntsAt w a' n' rows) (hR : RowsP r rows) (hr : r ≤ n) (hn : n ≤ 1000000) :
    Calls Tryz.prog 106 #[.slice a n c, .slice a' n' c'] w fun e w' => ∃ b d, e = .returned (.slice b n' d) ∧ OwnI w' w.heap.size b n' d (pickL W rows) ∧ Ext w w' := by
  have H := hidP h
  have HRP := hidP hR
  have HLn := hidP h'.len
  have h2 := h'
  rw [← rows_natI hR] at h2
  have H' := hidP h2
  have HQl := hidP ((rowsN_length rows).trans h'.len)
  have hrl := hR.len
  have hrn := h'.len
  have hn' : n' ≤ 1000000 := by omega
  have HQlt := hidP (fun i (hi : i < n') => by
    have h := rowsN_lt hR ((rowsN rows).getD i 0) (getD_mem (by have := HQl.out; omega))
    have : (rowsN rows).getD i 0 < n := by omega
    exact this)
  have HM := OwnI.made w w.heap.size 0 (Nat.le_refl _) (by unfold maxLen; omega)
  rw [show Array.replicate 0 (Value.int .i64 0) = #[] from rfl] at HM
  have HM0 : Hid (OwnI (w.alloc (.cells #[] 3)) w.heap.size (some ⟨w.heap.size, 0, none⟩) 0 0 ((pickL W rows).take 0)) := HM
  have HX0 := hidP (Ext.alloc w (.cells #[] 3))
  have HPl := hidP (pickL_length W rows)
  clear h h' h2 hR hr hrl HM hrn
  go_enter Tryz.func106, Tryz.ntmps106
  go_wp2
  obtain ⟨w0, hw0⟩ : ∃ w0, w0 = w.alloc (.cells #[] 3) := ⟨_, rfl⟩
  rw [← hw0] at HM0 HX0 ⊢
  clear hw0
  go_loopw [5, 11] (fun v i wr => ∃ (k : Nat) (b : Option Addr) (d : Nat), k ≤ n' ∧ v = .slice b k d ∧ i = .int .i64 k ∧ Hid (OwnI wr w.heap.size b k d ((pickL W rows).take k)) ∧ Hid (Ext w wr)) (fun _ i _ => n' - (intOf i).toNat)
  case atStart => exact ⟨0, _, 0, Nat.zero_le _, rfl, rfl, HM0, HX0⟩
  case round =>
    clear HM0 HX0
    obtain ⟨k, b, d, hk, rfl, rfl, HO, HX⟩ := hrel
    by_cases hlt : k < n'
    · obtain ⟨b0, o0, ea, q0⟩ := (H'.out.below HX.out).get k hlt
      rw [natI_getD] at q0
      have hq := HQlt.out k hlt
      have HTk : Hid ((pickL W rows).take k ++ [W.getD ((rowsN rows).getD k 0) 0] = (pickL W rows).take (k + 1)) := by
        show _ = _
        have hk2 : k < (pickL W rows).length := by have := HPl.out; have := HLn.out; omega
        rw [List.take_succ_eq_append_getElem hk2, ← getI hk2, pickL_get (by have := HLn.out; omega)]
      obtain ⟨x, hx⟩ : ∃ x, x = (rowsN rows).getD k 0 := ⟨_, rfl⟩
      rw [← hx] at q0 hq HTk
      obtain ⟨b1, o1, eb, q1⟩ := (H.out.below HX.out).get x hq
      obtain ⟨V, hV⟩ : ∃ V, V = W.getD x 0 := ⟨_, rfl⟩
      rw [← hV] at q1 HTk
      subst ea
      subst eb
      clear hx hV
      have hE6 := Ext.alloc wr (.cells #[.int .i64 V] 3)
      have HO6 := hidP (HO.out.below hE6)
      have HI6 := hidP (show IntsAt (wr.alloc (.cells #[.int .i64 V] 3)) (some ⟨wr.heap.size, 0, none⟩) 1 [V] from by simpa [ivs] using ints_alloc wr [V] 3)
      have HX6 := hidP (HX.out.trans hE6)
      clear hE6
      go_wp2_with (at_builtin; refine wpList_append_ints rfl (.tmp 15) (.tmp 20) rfl w.heap.size b k d _ rfl HO6.out (some ⟨wr.heap.size, 0, none⟩) 1 1 [V] rfl HI6.out (fun e => by cases e) (by omega) HX6.out.size ?_; intro a7 c7 w7 ho7 hg7; have HX7 := hidP (show Ext w w7 from grown_ext hg7 HX6.out HX6.out.size HO6.out.addr_base); rw [HTk.out] at ho7; have HO7 := hidP ho7; clear ho7 hg7)
      go_roundw
      case rel => exact ⟨k + 1, a7, c7, by omega, rfl, by go_num, HO7, HX7⟩
      case measure => simp [intOf]; omega
    · obtain rfl : n' = k := by omega
      have HTk : Hid ((pickL W rows).take n' = pickL W rows) := List.take_of_length_le (by have := HPl.out; have := HLn.out; omega)
      rw [HTk.out] at HO
      go_wp2
      go_ret
      exact ⟨b, d, rfl, HO.out, HX.out⟩
theorem chrT_take (rows : List Int) (us : List Tm) {k : Nat} (hk : k < us.length) : pickT rows (us.take (k + 1)) = pickT rows (us.take k) ++ [(pickL (wayAt us k) rows, lenAt us k)] := mapT_take (fun W => pickL W rows) us hk
theorem pickT_bound {r : Nat} {us : List Tm} (h : ChrP r us) (rows : List Int) {k : Nat} (hk : k ≤ us.length) (x : List Int) : 0 ≤ cntSum (pickT rows (us.take k)) x ∧ cntSum (pickT rows (us.take k)) x ≤ 400000000 := mapT_bound h (fun W => pickL W rows) hk x
set_option maxRecDepth 100000 in
set_option maxHeartbeats 4000000 in
theorem branchTo_any (r : Int) (ta : Option Addr) (tn tc : Nat) (ts : List Int) (a : Option Addr) (n c : Nat) (rows : List Int) (a' : Option Addr) (n' c' : Nat) (us : List Tm) (w : World) (hc : IntsAt w ta tn ts) (h : IntsAt w a n rows) (h' : StepsAt w a' n' us) (hcn : tn ≤ 9223372036854775807)
    (hn : n ≤ 9223372036854775807) (hn' : n' ≤ 9223372036854775807) (hm : MaxL w) (ht : Tab w) :
    PathRes 51 #[carV r ta tn tc, .slice a n c, .slice a' n' c'] w (brnR r ts rows us) := by
  unfold PathRes
  have hx1 := Ext.alloc w (.cells #[.int .i64 r, .slice ta tn tc] 55)
  have HC := hidP (fun w' (hx : Ext (w.alloc (.cells #[.int .i64 r, .slice ta tn tc] 55)) w') => (CarAt.new w _ rfl r ta tn tc 55).below hx)
  have HX1 := hidP hx1
  have H := hidP h
  have H' := hidP h'
  have HTb := hidP ht
  have HMx := hidP hm
  have hnl := h.len
  have HNl := hidP hnl
  have HNl' := hidP h'.len
  have HIs := hidP (fun w' (hx : Ext w w') => isCartan_any r ta tn tc ts w' (hc.below hx) hcn (hm.below hx))
  have HSb := hidP (subCartan_any r ta tn tc ts a n c rows _ (hc.below hx1) (h.below hx1) hn (fun w' hx => HIs.out w' (hx1.trans hx)))
  clear hc h h' hx1 hm ht hnl
  obtain ⟨w1, hw1⟩ : ∃ w1, w1 = w.alloc (.cells #[.int .i64 r, .slice ta tn tc] 55) := ⟨_, rfl⟩
  rw [← hw1] at HC HX1 HSb
  obtain ⟨f0, f1⟩ := HC.out w1 (Ext.refl w1)
  cases hS : subB r ts rows
  · have HR : Hid (brnR r ts rows us = (false, [])) := by
      show _ = _
      unfold brnR
      rw [hS]
      rfl
    rw [hS] at HSb
    clear hS
    go_enter Tryz.func51, Tryz.ntmps51
    go_wp2_with fail
    rw [← hw1]
    clear hw1
    refine HSb.out.mono ?_
    rintro e w2 ⟨v, rfl, hv, _, hx⟩
    obtain rfl : v = carV 0 none 0 0 := by simpa using hv
    have HX := hidP (HX1.out.trans (hx.trans (Ext.alloc w2 (.cells #[.int .i64 0, .slice none 0 0] 55))))
    clear hx hv f0 f1
    go_wp2
    refine bodyPost_ret (v := .tuple #[.slice none 0 0, .bool false]) (by simp [results, Tryz.results51, go_sem]) rfl ?_
    have hO : OwnK stepK (w2.alloc (.cells #[.int .i64 0, .slice none 0 0] 55)) w.heap.size (w2.alloc (.cells #[.int .i64 0, .slice none 0 0] 55)).heap.size none 0 0 [] (brnR r ts rows us).2 := by
      rw [HR.out]
      exact OwnK.nil stepK _ _ _
    first | exact ⟨none, 0, 0, [], by rw [HR.out], hO, HX.out⟩ | exact ⟨none, 0, 0, by rw [HR.out], ⟨[], hO⟩, HX.out⟩
  · obtain ⟨hS1, hS2, hS3⟩ := subB_parts hS
    obtain ⟨hr1, hr4, _⟩ := typeB_rank hS1
    obtain ⟨R, rfl⟩ : ∃ R : Nat, r = R := ⟨r.toNat, by omega⟩
    have hR4 : R ≤ 4 := by omega
    have hln := hS3.len
    rw [Int.toNat_natCast] at hln
    have hn4 : n ≤ 4 := by have := HNl.out; omega
    have HTy := hidP (subB_type hS)
    have HRP := hidP hS3
    have HSb1 := HSb.out
    rw [hS] at HSb1
    have HSc := hidP HSb1
    clear HSb HSb1
    go_enter Tryz.func51, Tryz.ntmps51
    go_wp2_with fail
    rw [← hw1]
    clear hw1
    refine HSc.out.mono ?_
    rintro e w2 ⟨v, rfl, _, hv, hx⟩
    obtain ⟨b2, m2, c2, rfl, ho⟩ : ∃ a' m c', v = carV n a' m c' ∧ OwnI w2 w1.heap.size a' m c' (subM R ts rows) := by simpa using hv
    have hx3 := Ext.alloc w2 (.cells #[.int .i64 n, .slice b2 m2 c2] 55)
    have HX3 := hidP (HX1.out.trans (hx.trans hx3))
    have HY3 := hidP (hx.trans hx3)
    have HU3 := hidP (CarAt.new w2 _ rfl (n : Int) b2 m2 c2 55)
    have HO3 := hidP (ho.below hx3).ints
    have hm2 := ho.small
    obtain ⟨w3, hw3⟩ : ∃ w3, w3 = w2.alloc (.cells #[.int .i64 n, .slice b2 m2 c2] 55) := ⟨_, rfl⟩
    obtain ⟨bu, hbu⟩ : ∃ bu, bu = w2.heap.size := ⟨_, rfl⟩
    rw [← hw3] at HX3 HY3 HU3 HO3
    rw [← hbu] at HU3
    clear hx hx3 hv ho
    have HIsS := hidP (fun w' (hx : Ext w3 w') => isCartan_any n b2 m2 c2 (subM R ts rows) w' (HO3.out.below hx) hm2 (HMx.out.below (HX3.out.trans hx)))
    have HP := hidP (characterOk_of R ta tn tc ts a' n' c' us w3 (H'.out.below HX3.out).terms hn' (fun w' hx => HIs.out w' (HX3.out.trans hx)))
    rw [hS1, Bool.true_and, Int.toNat_natCast] at HP
    obtain ⟨g0, g1⟩ := HC.out w3 HY3.out
    rw [hw3] at g0 g1
    cases hQ : chrB R us
    · have HR : Hid (brnR R ts rows us = (false, [])) := by
        show _ = _
        unfold brnR
        rw [hS, Int.toNat_natCast, hQ]
        rfl
      rw [hQ] at HP
      clear hQ hS hS1 hS2 hS3
      go_wp2_with fail
      rw [← hw3]
      refine HP.out.mono ?_
      rintro e w4 ⟨rfl, hx⟩
      have HX4 := hidP (HX3.out.trans hx)
      clear hx hw3 hbu f0 f1 g0 g1
      go_wp2
      refine bodyPost_ret (v := .tuple #[.slice none 0 0, .bool false]) (by simp [results, Tryz.results51, go_sem]) rfl ?_
      have hO : OwnK stepK w4 w.heap.size w4.heap.size none 0 0 [] (brnR R ts rows us).2 := by
        rw [HR.out]
        exact OwnK.nil stepK _ _ _
      first | exact ⟨none, 0, 0, [], by rw [HR.out], hO, HX4.out⟩ | exact ⟨none, 0, 0, by rw [HR.out], ⟨[], hO⟩, HX4.out⟩
    · have HR2 : Hid (brnR R ts rows us = chrR n (brnT rows us)) := by
        show _ = _
        unfold brnR
        rw [hS, Int.toNat_natCast, hQ, HNl.out]
        rfl
      have HP1 := hidP (chrB_iff.1 hQ)
      rw [hQ] at HP
      clear hQ hS hS1 hS2 hS3
      have hn4' := HP1.out.len
      have hnn := HNl'.out
      have hn400 : n' ≤ 400 := by omega
      clear hn4' hnn
      go_wp2_with fail
      rw [← hw3]
      simp only [← hbu]
      refine HP.out.mono ?_
      rintro e w4 ⟨rfl, hx⟩
      have HX4 := hidP (HX3.out.trans hx)
      have HZ4 := hidP hx
      have HU4 := hidP (HU3.out.below hx)
      have HN := hidP (newCounts_any w4)
      clear hx hw3 hbu f0 f1 g0 g1
      go_wp2_with fail
      refine HN.out.mono ?_
      rintro e w5 ⟨b, rfl, hC5, hb5, hx5⟩
      have hx6 := Ext.alloc w5 (.cells #[.map (some b), .map (some (b + 1))] 107)
      have HX6 := hidP (HX4.out.trans (hx5.trans hx6))
      have HZ6 := hidP (HZ4.out.trans (hx5.trans hx6))
      have HC6 := hidP (hC5.below hx6)
      have HU6 := hidP (HU4.out.below (hx5.trans hx6))
      have HA6 := hidP (CntAt.new w5 _ rfl b (b + 1) 107)
      have HB : Hid (w3.heap.size ≤ b) := Nat.le_trans HZ4.out.size hb5
      have HBw : Hid (w.heap.size ≤ b) := Nat.le_trans HX3.out.size HB.out
      obtain ⟨w6, hw6⟩ : ∃ w6, w6 = w5.alloc (.cells #[.map (some b), .map (some (b + 1))] 107) := ⟨_, rfl⟩
      rw [← hw6] at HX6 HZ6 HC6 HU6 HA6
      obtain ⟨bk, hbk⟩ : ∃ bk, bk = w5.heap.size := ⟨_, rfl⟩
      rw [← hbk] at HA6
      clear hC5 hb5 hx5 hx6 HN
      go_wp2
      rw [← hw6, ← hbk]
      clear hw6 hbk
      go_loopw [30] (fun i wr => ∃ k : Nat, k ≤ n' ∧ i = .int .i64 k ∧ Hid (∃ f1 f2, Counts wr b (b + 1) k (cntSum (pickT rows (us.take k))) f1 f2) ∧ Hid (CntAt wr bk b (b + 1)) ∧ Hid (CarAt wr bu n b2 m2 c2) ∧ Hid (Ext w3 wr)) (fun i _ => n' - (intOf i).toNat)
      case atStart => exact ⟨0, Nat.zero_le _, rfl, hidP ⟨_, _, HC6.out⟩, HA6, HU6, HZ6⟩
      case round =>
        clear HC6 HA6 HU6 HZ6 HX6
        obtain ⟨k, hk, rfl, HCn, HA, HU, HX⟩ := hrel
        by_cases hlt : k < n'
        · obtain ⟨bv, o, aw, cw, W, L, rfl, HW, HL, hwl, HNil, hq⟩ := (H'.out.below (HX3.out.trans HX.out)).way k hlt
          have HQ := hidP hq
          obtain ⟨q1, q2, _⟩ := hq wr (Ext.refl wr)
          have hkl : k < us.length := by have := HNl'.out; omega
          have hat := HP1.out.at hR4 (k := k) hkl
          rw [HW.out, HL.out] at hat
          obtain ⟨hWl, hWb, hL1, hL2⟩ := hat
          have hbd := pickT_bound HP1.out rows (k := k) (by omega) (pickL W rows)
          have HSn : Hid (addG (cntSum (pickT rows (us.take k))) (pickL W rows) L = cntSum (pickT rows (us.take (k + 1)))) := by
            show _ = _
            rw [chrT_take rows us hkl, cntSum_snoc, HW.out, HL.out]
          have hpl : (pickL W rows).length = n := by rw [pickL_length]; exact HNl.out
          have HKo : Hid (KeyOk (pickL W rows)) := by
            refine ⟨fun j hj => ?_, by omega⟩
            have hjr : j < rows.length := by have := HNl.out; omega
            rw [pickL_get hjr]
            have hlt2 := rowsN_lt HRP.out _ (getD_mem (s := rowsN rows) (p := j) (by rw [rowsN_length]; exact hjr))
            rw [Int.toNat_natCast] at hlt2
            have := hWb _ hlt2
            omega
          have HA2 := hidP (Ext.alloc wr (.cells #[.slice aw W.length cw, .int .i64 L] 104))
          have HS := hidP (fun w' (hx : Ext (wr.alloc (.cells #[.slice aw W.length cw, .int .i64 L] 104)) w') => (StpAt.new wr _ rfl aw W.length cw L 104).below hx)
          obtain ⟨w7, hw7⟩ : ∃ w7, w7 = wr.alloc (.cells #[.slice aw W.length cw, .int .i64 L] 104) := ⟨_, rfl⟩
          rw [← hw7] at HA2 HS
          have HAb := hidP (fun w' (hx : Ext w7 w') => HA.out.below (HA2.out.trans hx))
          have HPk := hidP (fun w' (hx : Ext w7 w') => pick_any aw W.length cw W a n c rows w' (HQ.out w' (HA2.out.trans hx)).2.2 (H.out.below (HX3.out.trans (HX.out.trans (HA2.out.trans hx)))) HRP.out (by omega) (by omega))
          obtain ⟨G, hG⟩ : ∃ G, G = cntSum (pickT rows (us.take k)) := ⟨_, rfl⟩
          rw [← hG] at HCn HSn hbd
          have HLb := hidP (show 1 ≤ L ∧ L ≤ 1000000 from ⟨hL1, hL2⟩)
          have HGb := hidP hbd
          have HPl := hidP hpl
          clear hq hG hWb hWl hL1 hL2 hbd hkl hpl
          go_wp2
          rw [← hw7]
          clear hw7 q1 q2
          have hE : Ext w7 w7.drew := Ext.drew w7
          (refine walkR_start (fun w' => Ext w7 w') 7 (by kernel_rfl) ?_; simp only [numbered, List.take_succ_cons, List.take_zero, Nat.zero_add, Nat.reduceAdd, List.length_cons, List.length_nil])
          (repeat (first | (refine walkR_still (v := ?_) rfl (by decide +kernel) rfl (fun _ _ _ h => h) hE ?_ ?_; rotate_left; (focus (intro w' hw'; obtain ⟨z0, z1⟩ := HAb.out w' hw'; obtain ⟨q1, q2⟩ := HS.out w' hw'; go_simp; all_goals (with_reducible rfl))); simp only [Act.put, List.setIfInBounds_toArray, List.set_cons_zero, List.set_cons_succ]) | (refine walkR_skip rfl (by decide +kernel) rfl (fun _ _ _ h => h) hE ?_; simp only [Act.put, List.setIfInBounds_toArray, List.set_cons_zero, List.set_cons_succ])))
          (refine walkR_later ?_; simp only [List.cons_append, List.nil_append])
          (repeat (first | (refine walkR_still (v := ?_) rfl (by decide +kernel) rfl (fun _ _ _ h => h) hE ?_ ?_; rotate_left; (focus (intro w' hw'; obtain ⟨q1, q2⟩ := HS.out w' hw'; go_simp; all_goals (with_reducible rfl))); simp only [Act.put, List.setIfInBounds_toArray, List.set_cons_zero, List.set_cons_succ]) | (refine walkR_skip rfl (by decide +kernel) rfl (fun _ _ _ h => h) hE ?_; simp only [Act.put, List.setIfInBounds_toArray, List.set_cons_zero, List.set_cons_succ])))
          (refine walkR_only (fun w' => Ext w7 w') rfl (by decide +kernel) rfl (fun _ h => h) ?_; intro K hK; go_simp; refine (HPk.out _ hE).mono ?_; rintro e w8 ⟨a1, c1, rfl, ho1, hx8⟩; refine hK _ _ (hE.trans hx8) ?_; clear hK K; (try simp only [Act.put, List.setIfInBounds_toArray, List.set_cons_zero, List.set_cons_succ]))
          have hE3 := HA2.out.trans (hE.trans hx8)
          obtain ⟨f1, f2, hCn⟩ := HCn.out
          have HAd := hidP (cntAdd_any b (b + 1) k G f1 f2 a1 n c1 (pickL W rows) L w8 (hCn.below hE3) HKo.out (ho1.ints) ho1.nil_cap (by omega) (by have := HLb.out; have := HGb.out; omega) (by have := HLb.out; have := HGb.out; omega) (HTb.out.below (HX3.out.trans (HX.out.trans hE3))))
          have HM1 := hidP ((hCn.below hE3).m1.is)
          have HM2 := hidP ((hCn.below hE3).m2.is)
          have HA8 := hidP (HA.out.below hE3)
          have HU8 := hidP (HU.out.below hE3)
          have HX8 := hidP (HX.out.trans hE3)
          clear ho1 hx8 hE hE3 hCn HCn
          (refine walkR_tail (by rfl) (by kernel_rfl) ?_; simp only [List.drop_succ_cons, List.drop_zero])
          go_wp2_with fail
          refine HAd.out.mono ?_
          rintro e w9 ⟨rfl, hC9, hx9⟩
          rw [HSn.out] at hC9
          have HC9 := hidP hC9
          have HA9 := hidP (HA8.out.extM hx9 HM1.out HM2.out)
          have HU9 := hidP (HU8.out.extM hx9 HM1.out HM2.out)
          have HX9 := hidP (hx9.below HX8.out HB.out (Nat.le_succ_of_le HB.out) HX8.out.size)
          clear hC9 hx9
          go_wp2
          go_roundw
          case rel => exact ⟨k + 1, by omega, by go_num, HC9, HA9, HU9, HX9⟩
          case measure => simp [intOf]; omega
        · obtain rfl : n' = k := by omega
          have HTk : Hid (us.take n' = us) := List.take_of_length_le (by have := HNl'.out; omega)
          rw [HTk.out] at HCn
          obtain ⟨z0, z1⟩ := HA.out
          obtain ⟨y0, y1⟩ := HU.out
          obtain ⟨f1, f2, hCn⟩ := HCn.out
          obtain ⟨hjo, hjt⟩ := brnT_tells rows us
          have HCh := hidP (cntCharacter_any n b2 m2 c2 (subM R ts rows) b (b + 1) n' _ f1 f2 (brnT rows us) wr hCn hjt hjo (by have := brnT_length rows us; have := HNl'.out; omega) (by have h := HTy.out; rw [HNl.out] at h; exact h) (fun w' hx => HIsS.out w' (HX.out.trans hx)))
          rw [Int.toNat_natCast, ← HR2.out] at HCh
          unfold PathRes at HCh
          have HXw := hidP (HX3.out.trans HX.out)
          clear hCn HCn hjo hjt
          go_wp2_with fail
          refine HCh.out.mono ?_
          rintro e w9 ⟨a8, n8, c8, hs8, rfl, ho8, hx8⟩
          have HO8 := hidP (ho8.weaken (B' := w.heap.size) HXw.out.size (Nat.le_refl _))
          have HX8 := hidP (HXw.out.trans hx8)
          clear ho8 hx8
          go_wp2
          refine bodyPost_ret (v := .tuple #[.slice a8 n8 c8, .bool (brnR R ts rows us).1]) (by simp [results, Tryz.results51, go_sem]) rfl ⟨a8, n8, c8, hs8, rfl, HO8.out, HX8.out⟩
end Go.Proofs.YtnfbfdamlnjblaaGreatDoor

namespace Go.Proofs.YtnfbfdamlnjblaaGreatDoor
open Go.RowKit

set_option maxRecDepth 100000 in
set_option maxHeartbeats 4000000 in
theorem sSubCartan_any (r : Int) (ta : Option Addr) (tn tc : Nat) (ts : List Int) (a : Option Addr) (n c : Nat) (rows : List Int) (w : World) (hc : IntsAt w ta tn ts) (h : IntsAt w a n rows) (hn : n ≤ 9223372036854775807)
    (HIs : ∀ w', Ext w w' → Calls Tryz.prog 133 #[carV r ta tn tc] w' fun e w'' => e = .returned (.bool (typeB r ts)) ∧ Ext w' w'') :
    Calls Tryz.prog 103 #[carV r ta tn tc, .slice a n c] w fun e w' => ∃ v, e = .returned (.tuple #[v, .bool (subB r ts rows)]) ∧ (subB r ts rows = false → v = carV 0 none 0 0) ∧ (subB r ts rows = true → ∃ a' m c', v = carV n a' m c' ∧ OwnI w' w.heap.size a' m c' (subM r ts rows)) ∧ Ext w w' := by
  have hx1 := Ext.alloc w (.cells #[.int .i64 r, .slice ta tn tc] 55)
  have hx2 := Ext.alloc (w.alloc (.cells #[.int .i64 r, .slice ta tn tc] 55)) (.cells #[.int .i64 0, .slice none 0 0] 55)
  have HC := hidP ((BoxAt.new w r ta tn tc).below hx2)
  have HR := hidP (BoxAt.new (w.alloc (.cells #[.int .i64 r, .slice ta tn tc] 55)) 0 none 0 0)
  have hs1 : (w.alloc (.cells #[.int .i64 r, .slice ta tn tc] 55)).heap.size = w.heap.size + 1 := by simp
  rw [hs1] at HR
  have HX1 := hidP (hx1.trans hx2)
  have H0 := hidP h
  have HT0' := hidP hc
  have HIs1 := hidP (HIs _ (hx1.trans hx2))
  have HLn := hidP h.len
  clear h hc hx1 hx2 HIs hs1
  obtain ⟨wA, hwA⟩ : ∃ wA, wA = (w.alloc (.cells #[.int .i64 r, .slice ta tn tc] 55)).alloc (.cells #[.int .i64 0, .slice none 0 0] 55) := ⟨_, rfl⟩
  rw [← hwA] at HC HR HX1 HIs1
  obtain ⟨f0, f1⟩ := HC.out.car
  cases hT : typeB r ts
  · have HS : Hid (subB r ts rows = false) := by show _ = _; unfold subB; rw [hT]; rfl
    rw [hT] at HIs1
    clear hT
    go_enter Tryz.func103, Tryz.ntmps103
    go_wp2_with fail
    rw [← hwA]
    clear hwA
    refine HIs1.out.mono ?_
    rintro e w1 ⟨rfl, hx⟩
    have HX := hidP (HX1.out.trans hx)
    have HR1 := hidP (HR.out.below hx)
    clear hx f0 f1
    obtain ⟨f0, f1⟩ := HR1.out.car
    have z0 := HR1.out.frz 0
    have z1 := HR1.out.frz 1
    have HX9 : Hid (Ext w ((World.setCell (w1) ⟨w.heap.size + 1, 0, none⟩ (.int .i64 0)).setCell ⟨w.heap.size + 1, 1, none⟩ (.slice none 0 0))) := (HX.out.setNew _ _ (by omega) _).setNew _ _ (by omega) _
    obtain ⟨y0, y1⟩ := (HR1.out.put2 0 none 0 0).car
    go_wp2
    refine bodyPost_ret (v := .tuple #[carV 0 none 0 0, .bool false]) (by simp [results, Tryz.results103, go_sem, y0, y1]) rfl ?_
    exact ⟨_, by rw [HS.out], fun _ => rfl, fun h => absurd h (by rw [HS.out]; exact Bool.false_ne_true), HX9.out⟩
  · obtain ⟨hr1, hr4, hrl⟩ := typeB_rank hT
    rw [hT] at HIs1
    obtain ⟨R, rfl⟩ : ∃ R : Nat, r = R := ⟨r.toNat, by omega⟩
    have HT := hidP hT
    clear hT
    have HRl := hidP hrl
    have hR4 : R ≤ 4 := by omega
    clear hr4 hrl
    go_enter Tryz.func103, Tryz.ntmps103
    go_wp2_with fail
    rw [← hwA]
    clear hwA
    refine HIs1.out.mono ?_
    rintro e w1 ⟨rfl, hx⟩
    have HX := hidP (HX1.out.trans hx)
    have HR1 := hidP (HR.out.below hx)
    have HC1 := hidP (HC.out.below hx)
    clear hx f0 f1 HIs1 HX1 HR HC
    by_cases hz : n = 0
    · have HS : Hid (subB R ts rows = false) := by
        show _ = _
        unfold subB
        rw [show rows.length = 0 by have := HLn.out; omega]
        simp
      subst hz
      obtain ⟨f0, f1⟩ := HR1.out.car
      have z0 := HR1.out.frz 0
      have z1 := HR1.out.frz 1
      have HX9 : Hid (Ext w ((World.setCell (w1) ⟨w.heap.size + 1, 0, none⟩ (.int .i64 0)).setCell ⟨w.heap.size + 1, 1, none⟩ (.slice none 0 0))) := (HX.out.setNew _ _ (by omega) _).setNew _ _ (by omega) _
      obtain ⟨y0, y1⟩ := (HR1.out.put2 0 none 0 0).car
      go_wp2
      refine bodyPost_ret (v := .tuple #[carV 0 none 0 0, .bool false]) (by simp [results, Tryz.results103, go_sem, y0, y1]) rfl ?_
      exact ⟨_, by rw [HS.out], fun _ => rfl, fun h => absurd h (by rw [HS.out]; exact Bool.false_ne_true), HX9.out⟩
    · have hz' : ((n : Int) == 0) = false := by simpa using hz
      have hxa := Ext.alloc w1 (.cells #[] 3)
      have hxb := Ext.alloc (w1.alloc (.cells #[] 3)) (.cells #[.int .i64 n, .slice (some ⟨w1.heap.size, 0, none⟩) 0 0] 55)
      have HRb := hidP (Array.getElem?_eq_some_iff.1 HR1.out.blk).1
      have HB4 := hidP (BoxAt.new (w1.alloc (.cells #[] 3)) n (some ⟨w1.heap.size, 0, none⟩) 0 0)
      have hM := OwnI.made w1 w.heap.size 0 HX.out.size (by unfold maxLen; omega)
      rw [show Array.replicate 0 (Value.int .i64 0) = #[] from rfl] at hM
      have HO4 := hidP (hM.below hxb)
      have HX4 := hidP (HX.out.trans (hxa.trans hxb))
      have HR4 := hidP (HR1.out.below (hxa.trans hxb))
      have HC4 := hidP (HC1.out.below (hxa.trans hxb))
      clear hxa hxb hM HX HR1 HC1
      have hs2 : (w1.alloc (.cells #[] 3)).heap.size = w1.heap.size + 1 := by simp
      rw [hs2] at HB4
      go_wp2
      obtain ⟨g1, hg1⟩ : ∃ g1, g1 = w1.heap.size := ⟨_, rfl⟩
      rw [← hg1] at HB4 HO4 HX4 HR4 HC4 HRb ⊢
      obtain ⟨w4, hw4⟩ : ∃ w4, w4 = (w1.alloc (.cells #[] 3)).alloc (.cells #[.int .i64 n, .slice (some ⟨g1, 0, none⟩) 0 0] 55) := ⟨_, rfl⟩
      rw [← hw4] at HB4 HO4 HX4 HR4 HC4 ⊢
      clear hw4 hg1 hs2
      obtain ⟨bx, hbx⟩ : ∃ bx, bx = g1 + 1 := ⟨_, rfl⟩
      have HRb2 : Hid (w.heap.size + 2 ≤ bx) := by have := HRb.out; show _ ≤ _; omega
      rw [← hbx] at HB4 ⊢
      clear hbx HRb
      have HI4 : Hid (∃ a' m c', BoxAt w4 bx n a' m c' ∧ OwnI w4 w.heap.size a' m c' []) := ⟨_, _, _, HB4.out, HO4.out⟩
      clear HB4 HO4
      go_loopw [7] (fun i wr => ∃ k : Nat, k ≤ n ∧ i = .int .i64 k ∧ Hid (∀ j, j < k → rowT R rows j = true) ∧ Hid (Ext w4 wr)) (fun i _ => n - (intOf i).toNat)
      case atStart => exact ⟨0, Nat.zero_le _, rfl, fun j h => by omega, Ext.refl _⟩
      case round =>
        obtain ⟨k, hk, rfl, HJ, HX2⟩ := hrel
        by_cases hlt : k < n
        · obtain ⟨b0, o0, ea, q0⟩ := (H0.out.below (HX4.out.trans HX2.out)).get k hlt
          have HCr := hidP (fun w' (hx : Ext wr w') => ((HC4.out.below HX2.out).below hx).car)
          have hRw : IntKind.i64.wrap ((R : Int) - 1) = R - 1 := wrap_in (by omega) (by omega)
          have HSB : Hid (rowT R rows k = (insB (rows.getD k 0) 0 (R - 1) && (decide (k = 0) || decide (rows.getD (k - 1) 0 < rows.getD k 0)))) := rfl
          have HQ := hidP (fun w' (hx : Ext wr w') => (hx.cell (p := ⟨b0, o0 + k, none⟩) (World.block_lt_of_cell? wr _ q0)).trans q0)
          have hE : Ext wr wr.drew := Ext.drew wr
          cases hI : insB (rows.getD k 0) 0 (R - 1)
          · rw [hI, Bool.false_and] at HSB
            have HS : Hid (subB R ts rows = false) := by
              show _ = _
              unfold subB
              rw [rowsB_bad k (by have := HLn.out; omega) HSB.out]
              simp
            have HIn := hidP (fun w' => l1In_any (rows.getD k 0) 0 ((R : Int) - 1) w')
            rw [hI] at HIn
            obtain ⟨x, hx⟩ : ∃ x, x = rows.getD k 0 := ⟨_, rfl⟩
            rw [← hx] at HQ HIn
            clear hI hx q0
            subst ea
            go_wp2
            (refine walkR_start (fun w' => Ext wr w') 24 (by kernel_rfl) ?_; simp only [numbered, List.take_succ_cons, List.take_zero, Nat.zero_add, Nat.reduceAdd, List.length_cons, List.length_nil])
            (repeat (first | (refine walkR_still (v := ?_) rfl (by decide +kernel) rfl (fun _ _ _ h => h) hE ?_ ?_; rotate_left; (focus (intro w' hw'; obtain ⟨f0, f1⟩ := HCr.out w' hw'; have q' := HQ.out w' hw'; go_simp; all_goals (with_reducible rfl))); simp only [Act.put, List.setIfInBounds_toArray, List.set_cons_zero, List.set_cons_succ]) | (refine walkR_skip rfl (by decide +kernel) rfl (fun _ _ _ h => h) hE ?_; simp only [Act.put, List.setIfInBounds_toArray, List.set_cons_zero, List.set_cons_succ])))
            (refine walkR_only (fun w' => Ext wr w') rfl (by decide +kernel) rfl (fun _ h => h) ?_; intro K hK; go_simp; refine (HIn.out _).mono ?_; rintro e w2 ⟨rfl, rfl⟩; refine hK _ _ (hE) ?_; clear hK K; (try simp only [Act.put, List.setIfInBounds_toArray, List.set_cons_zero, List.set_cons_succ]))
            (repeat (first | (refine walkR_still (v := ?_) rfl (by decide +kernel) rfl (fun _ _ _ h => h) hE ?_ ?_; rotate_left; (focus (intro w' hw'; obtain ⟨f0, f1⟩ := HCr.out w' hw'; have q' := HQ.out w' hw'; go_simp; all_goals (with_reducible rfl))); simp only [Act.put, List.setIfInBounds_toArray, List.set_cons_zero, List.set_cons_succ]) | (refine walkR_skip rfl (by decide +kernel) rfl (fun _ _ _ h => h) hE ?_; simp only [Act.put, List.setIfInBounds_toArray, List.set_cons_zero, List.set_cons_succ])))
            (refine walkR_tail (by rfl) (by kernel_rfl) ?_; simp only [List.drop_succ_cons, List.drop_zero])
            obtain ⟨wd, hwd⟩ : ∃ wd, wd = wr.drew := ⟨_, rfl⟩
            rw [← hwd] at hE ⊢
            clear hwd
            have HR2 := hidP ((HR4.out.below HX2.out).below hE)
            have HX3 := hidP ((HX4.out.trans HX2.out).trans hE)
            clear hE
            obtain ⟨f0, f1⟩ := HR2.out.car
            have z0 := HR2.out.frz 0
            have z1 := HR2.out.frz 1
            have HX9 : Hid (Ext w ((World.setCell (wd) ⟨w.heap.size + 1, 0, none⟩ (.int .i64 0)).setCell ⟨w.heap.size + 1, 1, none⟩ (.slice none 0 0))) := (HX3.out.setNew _ _ (by omega) _).setNew _ _ (by omega) _
            obtain ⟨y0, y1⟩ := (HR2.out.put2 0 none 0 0).car
            go_wp2
            refine bodyPost_ret (v := .tuple #[carV 0 none 0 0, .bool false]) (by simp [results, Tryz.results103, go_sem, y0, y1]) rfl ?_
            exact ⟨_, by rw [HS.out], fun _ => rfl, fun h => absurd h (by rw [HS.out]; exact Bool.false_ne_true), HX9.out⟩
          · rw [hI, Bool.true_and] at HSB
            have HIn := hidP (fun w' => l1In_any (rows.getD k 0) 0 ((R : Int) - 1) w')
            rw [hI] at HIn
            cases k with
            | zero =>
              have HT0 : Hid (rowT R rows 0 = true) := HSB.out
              obtain ⟨x, hx⟩ : ∃ x, x = rows.getD 0 0 := ⟨_, rfl⟩
              rw [← hx] at HQ HIn
              have HQ := hidP (by simpa only [Nat.add_zero] using HQ.out)
              clear hI hx q0
              subst ea
              go_wp2
              (refine walkR_start (fun w' => Ext wr w') 24 (by kernel_rfl) ?_; simp only [numbered, List.take_succ_cons, List.take_zero, Nat.zero_add, Nat.reduceAdd, List.length_cons, List.length_nil])
              (repeat (first | (refine walkR_still (v := ?_) rfl (by decide +kernel) rfl (fun _ _ _ h => h) hE ?_ ?_; rotate_left; (focus (intro w' hw'; obtain ⟨f0, f1⟩ := HCr.out w' hw'; have q' := HQ.out w' hw'; go_simp; all_goals (with_reducible rfl))); simp only [Act.put, List.setIfInBounds_toArray, List.set_cons_zero, List.set_cons_succ]) | (refine walkR_skip rfl (by decide +kernel) rfl (fun _ _ _ h => h) hE ?_; simp only [Act.put, List.setIfInBounds_toArray, List.set_cons_zero, List.set_cons_succ])))
              (refine walkR_only (fun w' => Ext wr w') rfl (by decide +kernel) rfl (fun _ h => h) ?_; intro K hK; go_simp; refine (HIn.out _).mono ?_; rintro e w2 ⟨rfl, rfl⟩; refine hK _ _ (hE) ?_; clear hK K; (try simp only [Act.put, List.setIfInBounds_toArray, List.set_cons_zero, List.set_cons_succ]))
              (repeat (first | (refine walkR_still (v := ?_) rfl (by decide +kernel) rfl (fun _ _ _ h => h) hE ?_ ?_; rotate_left; (focus (intro w' hw'; obtain ⟨f0, f1⟩ := HCr.out w' hw'; have q' := HQ.out w' hw'; go_simp; all_goals (with_reducible rfl))); simp only [Act.put, List.setIfInBounds_toArray, List.set_cons_zero, List.set_cons_succ]) | (refine walkR_skip rfl (by decide +kernel) rfl (fun _ _ _ h => h) hE ?_; simp only [Act.put, List.setIfInBounds_toArray, List.set_cons_zero, List.set_cons_succ])))
              (refine walkR_tail (by rfl) (by kernel_rfl) ?_; simp only [List.drop_succ_cons, List.drop_zero])
              go_wp2
              go_roundw
              case rel =>
                refine ⟨1, by omega, by go_num, fun j hj => ?_, HX2.out.trans hE⟩
                obtain rfl : j = 0 := by omega
                exact HT0.out
              case measure => simp [intOf]; omega
            | succ k =>
              have hk0 : (0 : Int) ≤ (k : Int) + 1 := by omega
              have hk1 : (0 : Int) < (k : Int) + 1 := by omega
              have hk2 : (k : Int) + 1 < n := by omega
              have hk3 : (k : Int) < n := by omega
              have hk4 : IntKind.i64.wrap (k : Int) = k := wrap_in (by omega) (by omega)
              obtain ⟨b1, o1, ea1, q1⟩ := (H0.out.below (HX4.out.trans HX2.out)).get k (by omega)
              rw [ea] at ea1
              simp only [Option.some.injEq, Addr.mk.injEq, and_true] at ea1
              obtain ⟨rfl, rfl⟩ := ea1
              have HQ1 := hidP (fun w' (hx : Ext wr w') => (hx.cell (p := ⟨b0, o0 + k, none⟩) (World.block_lt_of_cell? wr _ q1)).trans q1)
              rw [show k + 1 - 1 = k from rfl] at HSB
              by_cases hup : rows.getD k 0 < rows.getD (k + 1) 0
              · have HT0 : Hid (rowT R rows (k + 1) = true) := by
                  show _ = _
                  rw [HSB.out, decide_eq_true hup, Bool.or_true]
                obtain ⟨x, hx⟩ : ∃ x, x = rows.getD (k + 1) 0 := ⟨_, rfl⟩
                obtain ⟨y, hy⟩ : ∃ y, y = rows.getD k 0 := ⟨_, rfl⟩
                rw [← hx] at HQ HIn hup
                rw [← hy] at HQ1 hup
                have hup' : ¬ (x ≤ y) := by omega
                clear hI hx hy q0 q1
                subst ea
                go_wp2
                (refine walkR_start (fun w' => Ext wr w') 24 (by kernel_rfl) ?_; simp only [numbered, List.take_succ_cons, List.take_zero, Nat.zero_add, Nat.reduceAdd, List.length_cons, List.length_nil])
                (repeat (first | (refine walkR_still (v := ?_) rfl (by decide +kernel) rfl (fun _ _ _ h => h) hE ?_ ?_; rotate_left; (focus (intro w' hw'; obtain ⟨f0, f1⟩ := HCr.out w' hw'; have q' := HQ.out w' hw'; have q2 := HQ1.out w' hw'; go_simp; all_goals (with_reducible rfl))); simp only [Act.put, List.setIfInBounds_toArray, List.set_cons_zero, List.set_cons_succ]) | (refine walkR_skip rfl (by decide +kernel) rfl (fun _ _ _ h => h) hE ?_; simp only [Act.put, List.setIfInBounds_toArray, List.set_cons_zero, List.set_cons_succ])))
                (refine walkR_only (fun w' => Ext wr w') rfl (by decide +kernel) rfl (fun _ h => h) ?_; intro K hK; go_simp; refine (HIn.out _).mono ?_; rintro e w2 ⟨rfl, rfl⟩; refine hK _ _ (hE) ?_; clear hK K; (try simp only [Act.put, List.setIfInBounds_toArray, List.set_cons_zero, List.set_cons_succ]))
                (repeat (first | (refine walkR_still (v := ?_) rfl (by decide +kernel) rfl (fun _ _ _ h => h) hE ?_ ?_; rotate_left; (focus (intro w' hw'; obtain ⟨f0, f1⟩ := HCr.out w' hw'; have q' := HQ.out w' hw'; have q2 := HQ1.out w' hw'; go_simp; all_goals (with_reducible rfl))); simp only [Act.put, List.setIfInBounds_toArray, List.set_cons_zero, List.set_cons_succ]) | (refine walkR_skip rfl (by decide +kernel) rfl (fun _ _ _ h => h) hE ?_; simp only [Act.put, List.setIfInBounds_toArray, List.set_cons_zero, List.set_cons_succ])))
                (refine walkR_tail (by rfl) (by kernel_rfl) ?_; simp only [List.drop_succ_cons, List.drop_zero])
                go_wp2
                go_roundw
                case rel =>
                  refine ⟨k + 2, by omega, by go_num, fun j hj => ?_, HX2.out.trans hE⟩
                  rcases Nat.lt_succ_iff_lt_or_eq.1 hj with h3 | rfl
                  · exact HJ.out j h3
                  · exact HT0.out
                case measure => simp [intOf]; omega
              · have HS : Hid (subB R ts rows = false) := by
                  show _ = _
                  unfold subB
                  rw [rowsB_bad (k + 1) (by have := HLn.out; omega) (by rw [HSB.out, decide_eq_false hup, decide_eq_false (Nat.succ_ne_zero k)]; rfl)]
                  simp
                obtain ⟨x, hx⟩ : ∃ x, x = rows.getD (k + 1) 0 := ⟨_, rfl⟩
                obtain ⟨y, hy⟩ : ∃ y, y = rows.getD k 0 := ⟨_, rfl⟩
                rw [← hx] at HQ HIn hup
                rw [← hy] at HQ1 hup
                have hup' : x ≤ y := by omega
                clear hI hx hy q0 q1
                subst ea
                go_wp2
                (refine walkR_start (fun w' => Ext wr w') 24 (by kernel_rfl) ?_; simp only [numbered, List.take_succ_cons, List.take_zero, Nat.zero_add, Nat.reduceAdd, List.length_cons, List.length_nil])
                (repeat (first | (refine walkR_still (v := ?_) rfl (by decide +kernel) rfl (fun _ _ _ h => h) hE ?_ ?_; rotate_left; (focus (intro w' hw'; obtain ⟨f0, f1⟩ := HCr.out w' hw'; have q' := HQ.out w' hw'; have q2 := HQ1.out w' hw'; go_simp; all_goals (with_reducible rfl))); simp only [Act.put, List.setIfInBounds_toArray, List.set_cons_zero, List.set_cons_succ]) | (refine walkR_skip rfl (by decide +kernel) rfl (fun _ _ _ h => h) hE ?_; simp only [Act.put, List.setIfInBounds_toArray, List.set_cons_zero, List.set_cons_succ])))
                (refine walkR_only (fun w' => Ext wr w') rfl (by decide +kernel) rfl (fun _ h => h) ?_; intro K hK; go_simp; refine (HIn.out _).mono ?_; rintro e w2 ⟨rfl, rfl⟩; refine hK _ _ (hE) ?_; clear hK K; (try simp only [Act.put, List.setIfInBounds_toArray, List.set_cons_zero, List.set_cons_succ]))
                (repeat (first | (refine walkR_still (v := ?_) rfl (by decide +kernel) rfl (fun _ _ _ h => h) hE ?_ ?_; rotate_left; (focus (intro w' hw'; obtain ⟨f0, f1⟩ := HCr.out w' hw'; have q' := HQ.out w' hw'; have q2 := HQ1.out w' hw'; go_simp; all_goals (with_reducible rfl))); simp only [Act.put, List.setIfInBounds_toArray, List.set_cons_zero, List.set_cons_succ]) | (refine walkR_skip rfl (by decide +kernel) rfl (fun _ _ _ h => h) hE ?_; simp only [Act.put, List.setIfInBounds_toArray, List.set_cons_zero, List.set_cons_succ])))
                (refine walkR_tail (by rfl) (by kernel_rfl) ?_; simp only [List.drop_succ_cons, List.drop_zero])
                obtain ⟨wd, hwd⟩ : ∃ wd, wd = wr.drew := ⟨_, rfl⟩
                rw [← hwd] at hE ⊢
                clear hwd
                have HR2 := hidP ((HR4.out.below HX2.out).below hE)
                have HX3 := hidP ((HX4.out.trans HX2.out).trans hE)
                clear hE
                obtain ⟨f0, f1⟩ := HR2.out.car
                have z0 := HR2.out.frz 0
                have z1 := HR2.out.frz 1
                have HX9 : Hid (Ext w ((World.setCell (wd) ⟨w.heap.size + 1, 0, none⟩ (.int .i64 0)).setCell ⟨w.heap.size + 1, 1, none⟩ (.slice none 0 0))) := (HX3.out.setNew _ _ (by omega) _).setNew _ _ (by omega) _
                obtain ⟨y0, y1⟩ := (HR2.out.put2 0 none 0 0).car
                go_wp2
                refine bodyPost_ret (v := .tuple #[carV 0 none 0 0, .bool false]) (by simp [results, Tryz.results103, go_sem, y0, y1]) rfl ?_
                exact ⟨_, by rw [HS.out], fun _ => rfl, fun h => absurd h (by rw [HS.out]; exact Bool.false_ne_true), HX9.out⟩
        · obtain rfl : n = k := by omega
          have hln := HLn.out
          have HRP := hidP (rowsP_of (rowsB_good fun j hj => HJ.out j (by omega)))
          have HS : Hid (subB R ts rows = true) := by
            show _ = _
            unfold subB
            rw [HT.out, rowsB_good fun j hj => HJ.out j (by omega)]
            simp only [Bool.true_and, Bool.and_true, decide_eq_true_eq]
            omega
          have HX3 := hidP (HX4.out.trans HX2.out)
          have HR3 := hidP (HR4.out.below HX2.out)
          have HC3 := hidP (HC4.out.below HX2.out)
          have H3 : Hid (IntsAt w a n (natI (rowsN rows))) := by
            show IntsAt _ _ _ _
            rw [rows_natI HRP.out]
            exact H0.out
          have hq1 := rowsN_length rows
          have hq2 := HRP.out.len
          rw [Int.toNat_natCast] at hq2
          have HQlt := hidP (fun i (hi : i < n) => by
            have h := rowsN_lt HRP.out ((rowsN rows).getD i 0) (getD_mem (by omega))
            rwa [Int.toNat_natCast] at h)
          have HSM : Hid (subM R ts rows = gridK (atM ts R) (rowsN rows) n 0) := by
            show _ = _
            unfold subM
            rw [Int.toNat_natCast, show n = (rowsN rows).length by omega, gridK_end]
            rfl
          obtain ⟨q, hqq⟩ : ∃ q, q = rowsN rows := ⟨_, rfl⟩
          rw [← hqq] at H3 hq1 HQlt HSM
          have hn4 : n ≤ 4 := by omega
          have HQl := hidP (hq1.trans hln)
          have HI0 : Hid (∃ a' m c', BoxAt wr bx n a' m c' ∧ OwnI wr w.heap.size a' m c' (gridK (atM ts R) q 0 0)) := by
            obtain ⟨a', m, c', h1, h2⟩ := HI4.out
            refine ⟨a', m, c', h1.below HX2.out, ?_⟩
            rw [gridK_start]
            exact h2.below HX2.out
          clear hqq hln hq1 HJ HR4 HC4 HX4 HX2 HI4 hk hq2 hlt
          go_wp2
          go_loopw [8] (fun i wr => ∃ k : Nat, k ≤ n ∧ i = .int .i64 k ∧ Hid (∃ a' m c', BoxAt wr bx n a' m c' ∧ OwnI wr w.heap.size a' m c' (gridK (atM ts R) q k 0)) ∧ Hid (BoxAt wr (w.heap.size + 1) 0 none 0 0 ∧ BoxAt wr w.heap.size R ta tn tc ∧ Ext w wr)) (fun i _ => n - (intOf i).toNat)
          case atStart => exact ⟨0, Nat.zero_le _, rfl, HI0, HR3.out, HC3.out, HX3.out⟩
          case round =>
            clear HI0 HR3 HC3 HX3
            obtain ⟨k, hk, rfl, HG, HF⟩ := hrel
            by_cases hlt : k < n
            · have hi1 := HQlt.out k hlt
              obtain ⟨x, hx⟩ : ∃ x, x = q.getD k 0 := ⟨_, rfl⟩
              rw [← hx] at hi1
              have HXq := hidP hx
              clear hx
              go_wp2
              go_loopw [9] (fun i wr => ∃ j : Nat, j ≤ n ∧ i = .int .i64 j ∧ Hid (∃ a' m c', BoxAt wr bx n a' m c' ∧ OwnI wr w.heap.size a' m c' (gridK (atM ts R) q k j)) ∧ Hid (BoxAt wr (w.heap.size + 1) 0 none 0 0 ∧ BoxAt wr w.heap.size R ta tn tc ∧ Ext w wr)) (fun i _ => n - (intOf i).toNat)
              case atStart => exact ⟨0, Nat.zero_le _, rfl, HG, HF⟩
              case round =>
                clear HG HF
                obtain ⟨j, hj, rfl, HG, HF⟩ := hrel
                by_cases hlt' : j < n
                · obtain ⟨b0, o0, ea, q1⟩ := (H3.out.below HF.out.2.2).get k hlt
                  rw [natI_getD, ← HXq.out] at q1
                  obtain ⟨b1, o1, eb, q0⟩ := (H3.out.below HF.out.2.2).get j hlt'
                  rw [natI_getD] at q0
                  rw [ea] at eb
                  simp only [Option.some.injEq, Addr.mk.injEq, and_true] at eb
                  obtain ⟨rfl, rfl⟩ := eb
                  have hi2 := HQlt.out j hlt'
                  obtain ⟨y, hy⟩ : ∃ y, y = q.getD j 0 := ⟨_, rfl⟩
                  rw [← hy] at q0 hi2
                  have HQa := hidP (fun w' (hx : Ext wr w') => (hx.cell (p := ⟨b0, o0 + k, none⟩) (World.block_lt_of_cell? wr _ q1)).trans q1)
                  have HQb := hidP (fun w' (hx : Ext wr w') => (hx.cell (p := ⟨b0, o0 + j, none⟩) (World.block_lt_of_cell? wr _ q0)).trans q0)
                  obtain ⟨a', m, c', hB, hO⟩ := HG.out
                  have hm := hO.len
                  have hgl := gridK_length (atM ts R) (q := q) (by have := HQl.out; omega) (i := k) (j := j) (by omega) (by omega)
                  have hm20 : m ≤ 20 := by omega
                  have HGs : Hid (gridK (atM ts R) q k j ++ [atM ts R x y] = gridK (atM ts R) q k (j + 1)) := by
                    show _ = _
                    rw [gridK_succ _ (by have := HQl.out; omega), HXq.out, hy]
                  have HB1 := hidP hB
                  have HO1 := hidP hO
                  have HCr := hidP (fun w' (hx : Ext wr w') => (HF.out.2.1.below hx).car)
                  have HBr := hidP (fun w' (hx : Ext wr w') => (HB1.out.below hx).car)
                  have hTs := HT0'.out.below HF.out.2.2
                  have htl := hTs.len
                  have HAt := hidP (fun w' (hx : Ext wr w') => l5At_any R ta tn tc ts x y w' (hTs.below hx) (by have := HRl.out; rw [htl] at this; exact this) (by omega) (by omega) (by omega))
                  rw [Int.toNat_natCast] at HAt
                  obtain ⟨V, hV⟩ : ∃ V, V = atM ts R x y := ⟨_, rfl⟩
                  rw [← hV] at HAt HGs
                  have hE : Ext wr wr.drew := Ext.drew wr
                  clear hB hO hm hgl hy hTs htl hV HG q0 q1
                  subst ea
                  go_wp2
                  (refine walkR_start (fun w' => Ext wr w') 13 (by kernel_rfl) ?_; simp only [numbered, List.take_succ_cons, List.take_zero, Nat.zero_add, Nat.reduceAdd, List.length_cons, List.length_nil])
                  (repeat (first | (refine walkR_still (v := ?_) rfl (by decide +kernel) rfl (fun _ _ _ h => h) hE ?_ ?_; rotate_left; (focus (intro w' hw'; obtain ⟨f0, f1⟩ := HCr.out w' hw'; obtain ⟨g0, g1⟩ := HBr.out w' hw'; have q2 := HQa.out w' hw'; have q3 := HQb.out w' hw'; go_simp; all_goals (with_reducible rfl))); simp only [Act.put, List.setIfInBounds_toArray, List.set_cons_zero, List.set_cons_succ]) | (refine walkR_skip rfl (by decide +kernel) rfl (fun _ _ _ h => h) hE ?_; simp only [Act.put, List.setIfInBounds_toArray, List.set_cons_zero, List.set_cons_succ])))
                  (refine walkR_only (fun w' => Ext wr w') rfl (by decide +kernel) rfl (fun _ h => h) ?_; intro K hK; go_simp; refine (HAt.out _ hE).mono ?_; rintro e w5 ⟨rfl, hx5⟩; refine hK _ _ (hE.trans hx5) ?_; clear hK K; (try simp only [Act.put, List.setIfInBounds_toArray, List.set_cons_zero, List.set_cons_succ]))
                  have hE5 := hE.trans hx5
                  (refine walkR_only (fun w' => Ext wr w') rfl (by decide +kernel) rfl ?_ ?_)
                  · exact fun _ h => h
                  intro K hK
                  go_simp
                  refine hK _ _ (hE5.trans (Ext.alloc _ (.cells #[.int .i64 V] 3))) ?_
                  clear hK K
                  have hE6 := hE5.trans (Ext.alloc w5 (.cells #[.int .i64 V] 3))
                  have HO6 := hidP (HO1.out.below hE6)
                  have HI6 := hidP (show IntsAt (w5.alloc (.cells #[.int .i64 V] 3)) (some ⟨w5.heap.size, 0, none⟩) 1 [V] from by simpa [ivs] using ints_alloc w5 [V] 3)
                  have HB6 := hidP (HB1.out.below hE6)
                  have HR6 := hidP (HF.out.1.below hE6)
                  have HC6 := hidP (HF.out.2.1.below hE6)
                  have HX6 := hidP (HF.out.2.2.trans hE6)
                  clear hE hE5 hE6 hx5
                  (try simp only [Act.put, List.setIfInBounds_toArray, List.set_cons_zero, List.set_cons_succ])
                  (refine walkR_tail (by rfl) (by kernel_rfl) ?_; simp only [List.drop_succ_cons, List.drop_zero])
                  obtain ⟨w6, hw6⟩ : ∃ w6, w6 = w5.alloc (.cells #[.int .i64 V] 3) := ⟨_, rfl⟩
                  rw [← hw6] at HO6 HI6 HB6 HR6 HC6 HX6 ⊢
                  obtain ⟨g6, hg6⟩ : ∃ g6, g6 = w5.heap.size := ⟨_, rfl⟩
                  rw [← hg6] at HI6
                  simp only [← hg6]
                  clear hw6 hg6
                  go_wp2_with (at_builtin; refine wpList_append_ints rfl (.tmp 68) (.tmp 79) rfl w.heap.size a' m c' _ rfl HO6.out (some ⟨g6, 0, none⟩) 1 1 [V] rfl HI6.out (fun e => by cases e) (by omega) HX6.out.size ?_; intro a7 c7 w7 ho7 hg7; have HX7 := hidP (show Ext w w7 from grown_ext hg7 HX6.out HX6.out.size HO6.out.addr_base); rw [HGs.out] at ho7; have HO7 := hidP ho7; have HB7 := hidP (HB6.out.grown HO6.out hg7); have HR7 := hidP (HR6.out.grown HO6.out hg7); have HC7 := hidP (HC6.out.grown HO6.out hg7); clear ho7 hg7; obtain ⟨y0, y1⟩ := HB7.out.car; have z1 := HB7.out.frz 1)
                  go_roundw
                  case rel => exact ⟨j + 1, by omega, by go_num, ⟨a7, m + 1, c7, HB7.out.put _ _ _, HO7.out.setOff _ _ _ (HB7.out.ne HO7.out)⟩, HR7.out.other (by have := HRb2.out; omega) _ _, HC7.out.other (by have := HRb2.out; omega) _ _, HX7.out.setNew _ _ (by have := HRb2.out; omega) _⟩
                  case measure => simp [intOf]; omega
                · obtain rfl : n = j := by omega
                  have HG2 : Hid (∃ a' m c', BoxAt wr bx n a' m c' ∧ OwnI wr w.heap.size a' m c' (gridK (atM ts R) q (k + 1) 0)) := by
                    have := HG.out
                    rw [← gridK_row _ (by have := HQl.out; omega), HQl.out]
                    exact this
                  clear HG
                  go_wp2
                  go_roundw
                  case rel => exact ⟨k + 1, by omega, by go_num, HG2, HF⟩
                  case measure => simp [intOf]; omega
            · obtain rfl : n = k := by omega
              obtain ⟨a', m, c', hB, hO⟩ := HG.out
              rw [← HSM.out] at hO
              have HB := hidP hB
              have HO := hidP hO
              obtain ⟨f0, f1⟩ := hB.car
              have hR := HF.out.1
              obtain ⟨g0, g1⟩ := hR.car
              have z0 := hR.frz 0
              have z1 := hR.frz 1
              have HX9 : Hid (Ext w ((wr.setCell ⟨w.heap.size + 1, 0, none⟩ (.int .i64 n)).setCell ⟨w.heap.size + 1, 1, none⟩ (.slice a' m c'))) := (HF.out.2.2.setNew _ _ (by omega) _).setNew _ _ (by omega) _
              have HO9 := hidP ((HO.out.setOff (w.heap.size + 1) 0 (.int .i64 n) (hR.ne HO.out)).setOff (w.heap.size + 1) 1 (.slice a' m c') (hR.ne HO.out))
              obtain ⟨y0, y1⟩ := (hR.put2 n a' m c').car
              clear hB hO hR HG HF
              go_wp2
              refine bodyPost_ret (v := .tuple #[carV n a' m c', .bool true]) (by simp [results, Tryz.results103, go_sem, y0, y1]) rfl ?_
              exact ⟨_, by rw [HS.out], fun h => absurd h (by rw [HS.out]; simp), fun _ => ⟨a', m, c', rfl, HO9.out⟩, HX9.out⟩
end Go.Proofs.YtnfbfdamlnjblaaGreatDoor

namespace Go.Proofs.YtnfbfdamlnjblaaGreatDoor
open Go.RowKit

theorem puts_snoc (o : List Tm) (b : List Tm) (x : List Int) (n : Int) : putsT o 1 (b ++ [(x, n)]) = putT (putsT o 1 b) x n := by
  unfold putsT
  rw [List.foldl_append]
  simp
set_option maxRecDepth 100000 in
set_option maxHeartbeats 4000000 in
theorem sBranchTo_any (r : Int) (ta : Option Addr) (tn tc : Nat) (ts : List Int) (a : Option Addr) (n c : Nat) (rows : List Int) (a' : Option Addr) (n' c' : Nat) (us : List Tm) (w : World) (hc : IntsAt w ta tn ts) (h : IntsAt w a n rows) (h' : StepsAt w a' n' us) (hcn : tn ≤ 9223372036854775807)
    (hn : n ≤ 9223372036854775807) (hn' : n' ≤ 9223372036854775807) :
    PathRes 50 #[carV r ta tn tc, .slice a n c, .slice a' n' c'] w (brnR r ts rows us) := by
  unfold PathRes
  have hx1 := Ext.alloc w (.cells #[.int .i64 r, .slice ta tn tc] 55)
  have HC := hidP (fun w' (hx : Ext (w.alloc (.cells #[.int .i64 r, .slice ta tn tc] 55)) w') => (CarAt.new w _ rfl r ta tn tc 55).below hx)
  have HX1 := hidP hx1
  have H := hidP h
  have H' := hidP h'
  have hnl := h.len
  have HNl := hidP hnl
  have HNl' := hidP h'.len
  have HIs := hidP (fun w' (hx : Ext w w') => sIsCartan_any r ta tn tc ts w' (hc.below hx) hcn)
  have HSb := hidP (sSubCartan_any r ta tn tc ts a n c rows _ (hc.below hx1) (h.below hx1) hn (fun w' hx => HIs.out w' (hx1.trans hx)))
  clear hc h h' hx1 hnl
  obtain ⟨w1, hw1⟩ : ∃ w1, w1 = w.alloc (.cells #[.int .i64 r, .slice ta tn tc] 55) := ⟨_, rfl⟩
  rw [← hw1] at HC HX1 HSb
  obtain ⟨f0, f1⟩ := HC.out w1 (Ext.refl w1)
  cases hS : subB r ts rows
  · have HR : Hid (brnR r ts rows us = (false, [])) := by
      show _ = _
      unfold brnR
      rw [hS]
      rfl
    rw [hS] at HSb
    clear hS
    go_enter Tryz.func50, Tryz.ntmps50
    go_wp2_with fail
    rw [← hw1]
    clear hw1
    refine HSb.out.mono ?_
    rintro e w2 ⟨v, rfl, hv, _, hx⟩
    obtain rfl : v = carV 0 none 0 0 := by simpa using hv
    have HX := hidP (HX1.out.trans (hx.trans (Ext.alloc w2 (.cells #[.int .i64 0, .slice none 0 0] 55))))
    clear hx hv f0 f1
    go_wp2
    refine bodyPost_ret (v := .tuple #[.slice none 0 0, .bool false]) (by simp [results, Tryz.results50, go_sem]) rfl ?_
    have hO : OwnK stepK (w2.alloc (.cells #[.int .i64 0, .slice none 0 0] 55)) w.heap.size (w2.alloc (.cells #[.int .i64 0, .slice none 0 0] 55)).heap.size none 0 0 [] (brnR r ts rows us).2 := by
      rw [HR.out]
      exact OwnK.nil stepK _ _ _
    first | exact ⟨none, 0, 0, [], by rw [HR.out], hO, HX.out⟩ | exact ⟨none, 0, 0, by rw [HR.out], ⟨[], hO⟩, HX.out⟩
  · obtain ⟨hS1, hS2, hS3⟩ := subB_parts hS
    obtain ⟨hr1, hr4, _⟩ := typeB_rank hS1
    obtain ⟨R, rfl⟩ : ∃ R : Nat, r = R := ⟨r.toNat, by omega⟩
    have hR4 : R ≤ 4 := by omega
    have hln := hS3.len
    rw [Int.toNat_natCast] at hln
    have hn4 : n ≤ 4 := by have := HNl.out; omega
    have HRP := hidP hS3
    have HSb1 := HSb.out
    rw [hS] at HSb1
    have HSc := hidP HSb1
    clear HSb HSb1
    go_enter Tryz.func50, Tryz.ntmps50
    go_wp2_with fail
    rw [← hw1]
    clear hw1
    refine HSc.out.mono ?_
    rintro e w2 ⟨v, rfl, _, hv, hx⟩
    obtain ⟨b2, m2, c2, rfl, ho⟩ : ∃ a' m c', v = carV n a' m c' ∧ OwnI w2 w1.heap.size a' m c' (subM R ts rows) := by simpa using hv
    have hx3 := Ext.alloc w2 (.cells #[.int .i64 n, .slice b2 m2 c2] 55)
    have HX3 := hidP (HX1.out.trans (hx.trans hx3))
    have HY3 := hidP (hx.trans hx3)
    have HU3 := hidP (fun w' (hx : Ext (w2.alloc (.cells #[.int .i64 n, .slice b2 m2 c2] 55)) w') => (CarAt.new w2 _ rfl (n : Int) b2 m2 c2 55).below hx)
    obtain ⟨w3, hw3⟩ : ∃ w3, w3 = w2.alloc (.cells #[.int .i64 n, .slice b2 m2 c2] 55) := ⟨_, rfl⟩
    obtain ⟨bu, hbu⟩ : ∃ bu, bu = w2.heap.size := ⟨_, rfl⟩
    rw [← hw3] at HX3 HY3 HU3
    rw [← hbu] at HU3
    clear hx hx3 hv ho
    have HP := hidP (l8Ok_any R ta tn tc a' n' c' us w3 (H'.out.below HX3.out).terms hn' (by omega))
    obtain ⟨g0, g1⟩ := HC.out w3 HY3.out
    rw [hw3] at g0 g1
    cases hQ : chrB R us
    · have HR : Hid (brnR R ts rows us = (false, [])) := by
        show _ = _
        unfold brnR
        rw [hS, Int.toNat_natCast, hQ]
        rfl
      rw [hQ] at HP
      clear hQ hS hS1 hS2 hS3
      go_wp2_with fail
      rw [← hw3]
      refine HP.out.mono ?_
      rintro e w4 ⟨rfl, hx⟩
      have HX4 := hidP (HX3.out.trans hx)
      clear hx hw3 hbu f0 f1 g0 g1
      go_wp2
      refine bodyPost_ret (v := .tuple #[.slice none 0 0, .bool false]) (by simp [results, Tryz.results50, go_sem]) rfl ?_
      have hO : OwnK stepK w4 w.heap.size w4.heap.size none 0 0 [] (brnR R ts rows us).2 := by
        rw [HR.out]
        exact OwnK.nil stepK _ _ _
      first | exact ⟨none, 0, 0, [], by rw [HR.out], hO, HX4.out⟩ | exact ⟨none, 0, 0, by rw [HR.out], ⟨[], hO⟩, HX4.out⟩
    · have HP1 := hidP (chrB_iff.1 hQ)
      have HR2 : Hid (brnR R ts rows us = chrR n (putsT [] 1 (pickT rows us))) := by
        show _ = _
        unfold brnR
        rw [hS, Int.toNat_natCast, hQ, HNl.out, brnT_eq HP1.out]
        rfl
      rw [hQ] at HP
      clear hQ hS hS1 hS2 hS3
      have hn4' := HP1.out.len
      have hnn := HNl'.out
      have hn400 : n' ≤ 400 := by omega
      clear hn4' hnn
      go_wp2_with fail
      rw [← hw3]
      simp only [← hbu]
      refine HP.out.mono ?_
      rintro e w4 ⟨rfl, hx⟩
      have HX4 := hidP (HX3.out.trans hx)
      have HZ4 := hidP hx
      clear hx hw3 hbu f0 f1 g0 g1
      have HM0 : Hid (OwnK stepK (w4.alloc (.cells #[] 104)) w4.heap.size (w4.alloc (.cells #[] 104)).heap.size (some ⟨w4.heap.size, 0, none⟩) 0 0 [] []) := OwnK.made0 stepK w4
      have HM1 := hidP (HM0.out.weaken (B' := w3.heap.size) HZ4.out.size (Nat.le_refl _))
      have HX5 := hidP (HZ4.out.trans (Ext.alloc w4 (.cells #[] 104)))
      clear HM0
      go_wp2
      obtain ⟨w5, hw5⟩ : ∃ w5, w5 = w4.alloc (.cells #[] 104) := ⟨_, rfl⟩
      obtain ⟨g5, hg5⟩ : ∃ g5, g5 = w4.heap.size := ⟨_, rfl⟩
      rw [← hw5] at HM1 HX5 ⊢
      rw [← hg5] at HM1
      simp only [← hg5]
      clear hw5 hg5
      go_loopw [10, 11] (fun out i wr => ∃ (k g co q : Nat) (hs : List Hdr), k ≤ n' ∧ out = .slice (some ⟨g, 0, none⟩) q co ∧ i = .int .i64 k ∧ Hid (OwnK stepK wr w3.heap.size wr.heap.size (some ⟨g, 0, none⟩) q co hs (putsT [] 1 (pickT rows (us.take k)))) ∧ Hid (Ext w3 wr)) (fun _ i _ => n' - (intOf i).toNat)
      case atStart => exact ⟨0, g5, _, _, [], Nat.zero_le _, rfl, rfl, HM1, HX5⟩
      case round =>
        clear HM1 HX5 HX4 HZ4
        obtain ⟨k, g, co, q, hs, hk, rfl, rfl, HO, HX⟩ := hrel
        by_cases hlt : k < n'
        · obtain ⟨bv, o, aw, cw, W, L, rfl, HW, HL, hwl, HNil, hq⟩ := (H'.out.below (HX3.out.trans HX.out)).way k hlt
          have HQ := hidP hq
          have hkl : k < us.length := by have := HNl'.out; omega
          have hat := HP1.out.at hR4 (k := k) hkl
          rw [HW.out, HL.out] at hat
          obtain ⟨hWl, hWb, hL1, hL2⟩ := hat
          have HSn : Hid (putT (putsT [] 1 (pickT rows (us.take k))) (pickL W rows) L = putsT [] 1 (pickT rows (us.take (k + 1)))) := by
            show _ = _
            rw [chrT_take rows us hkl, puts_snoc, HW.out, HL.out]
          have hpl : (pickL W rows).length = n := by rw [pickL_length]; exact HNl.out
          have HQlt := hidP (fun i (hi : i < n) => by
            have h := rowsN_lt HRP.out ((rowsN rows).getD i 0) (getD_mem (by have := rowsN_length rows; have := HNl.out; omega))
            rw [Int.toNat_natCast] at h
            have : (rowsN rows).getD i 0 < W.length := by omega
            exact this)
          have H2 : Hid (IntsAt wr a n (natI (rowsN rows))) := by
            show IntsAt _ _ _ _
            rw [rows_natI HRP.out]
            exact H.out.below (HX3.out.trans HX.out)
          have hql := HO.out.xl
          have hpb := puts_length 1 (pickT rows (us.take k)) []
          have hpk : (pickT rows (us.take k)).length ≤ 400 := by
            unfold pickT
            rw [List.length_map, List.length_take]
            omega
          have hq4 : q ≤ 400 := by simp only [List.length_nil] at hpb; omega
          have hord := ordered_puts 1 (pickT rows (us.take k)) (o := []) List.Pairwise.nil
          have HSm := hidP (fun i (hi : i < q) => show 0 ≤ lenAt (putsT [] 1 (pickT rows (us.take k))) i ∧ lenAt (putsT [] 1 (pickT rows (us.take k))) i ≤ 400000000 by
            rw [ordered_lenAt hord (by omega), cntSum_puts, List.nil_append, timesT_one]
            exact pickT_bound HP1.out rows (by omega) _)
          have HPl := hidP hpl
          have HLb := hidP (show 1 ≤ L ∧ L ≤ 1000000 from ⟨hL1, hL2⟩)
          have hxb := Ext.alloc wr (.cells #[] 3)
          have hM := OwnI.made wr wr.heap.size 0 (Nat.le_refl _) (by unfold maxLen; omega)
          rw [show Array.replicate 0 (Value.int .i64 0) = #[] from rfl] at hM
          have HI0 : Hid (OwnI (wr.alloc (.cells #[] 3)) wr.heap.size (some ⟨wr.heap.size, 0, none⟩) 0 0 ((pickL W rows).take 0)) := hM
          have HXb := hidP hxb
          clear hq hkl hWl hWb hL1 hL2 hpl hql hpb hpk hord hxb hM
          obtain ⟨wo, rfl⟩ : ∃ x, x = wr := ⟨_, rfl⟩
          go_wp2
          obtain ⟨wb, hwb⟩ : ∃ wb, wb = wo.alloc (.cells #[] 3) := ⟨_, rfl⟩
          rw [← hwb] at HI0 HXb ⊢
          clear hwb
          go_loopw [12, 13] (fun v i wx => ∃ (j : Nat) (b : Option Addr) (d : Nat), j ≤ n ∧ v = .slice b j d ∧ i = .int .i64 j ∧ Hid (OwnI wx wo.heap.size b j d ((pickL W rows).take j)) ∧ Hid (Ext wo wx)) (fun _ i _ => n - (intOf i).toNat)
          case atStart => exact ⟨0, _, 0, Nat.zero_le _, rfl, rfl, HI0, HXb⟩
          case round =>
            clear HI0 HXb
            obtain ⟨j, b, d, hj, rfl, rfl, HI, HXx⟩ := hrel
            by_cases hlt' : j < n
            · obtain ⟨b0, o0, ea, q0⟩ := (H2.out.below HXx.out).get j hlt'
              rw [natI_getD] at q0
              have hx := HQlt.out j hlt'
              have HTk : Hid ((pickL W rows).take j ++ [W.getD ((rowsN rows).getD j 0) 0] = (pickL W rows).take (j + 1)) := by
                show _ = _
                have hk2 : j < (pickL W rows).length := by have := HPl.out; omega
                rw [List.take_succ_eq_append_getElem hk2, ← getI hk2, pickL_get (by have := HNl.out; omega)]
              obtain ⟨x, hxx⟩ : ∃ x, x = (rowsN rows).getD j 0 := ⟨_, rfl⟩
              rw [← hxx] at q0 hx HTk
              obtain ⟨t1, t2, t3⟩ := HQ.out wr HXx.out
              obtain ⟨b1, o1, eb, q1⟩ := t3.get x hx
              obtain ⟨V, hV⟩ : ∃ V, V = W.getD x 0 := ⟨_, rfl⟩
              rw [← hV] at q1 HTk
              have HQr := hidP (fun w' (hx : Ext wr w') => (hx.cell (p := ⟨b0, o0 + j, none⟩) (World.block_lt_of_cell? wr _ q0)).trans q0)
              have HQv := hidP (fun w' (hx : Ext wr w') => (hx.cell (p := ⟨b1, o1 + x, none⟩) (World.block_lt_of_cell? wr _ q1)).trans q1)
              have HQt := hidP (fun w' (hx : Ext wr w') => (HQ.out w' (HXx.out.trans hx)).1)
              have hE : Ext wr wr.drew := Ext.drew wr
              clear hxx hV t1 t2 t3 q0 q1
              subst ea
              subst eb
              go_wp2
              (refine walkR_start (fun w' => Ext wr w') 13 (by kernel_rfl) ?_; simp only [numbered, List.take_succ_cons, List.take_zero, Nat.zero_add, Nat.reduceAdd, List.length_cons, List.length_nil])
              (repeat (first | (refine walkR_still (v := ?_) rfl (by decide +kernel) rfl (fun _ _ _ h => h) hE ?_ ?_; rotate_left; (focus (intro w' hw'; have q1 := HQr.out w' hw'; have q2 := HQv.out w' hw'; have q3 := HQt.out w' hw'; go_simp; all_goals (with_reducible rfl))); simp only [Act.put, List.setIfInBounds_toArray, List.set_cons_zero, List.set_cons_succ]) | (refine walkR_skip rfl (by decide +kernel) rfl (fun _ _ _ h => h) hE ?_; simp only [Act.put, List.setIfInBounds_toArray, List.set_cons_zero, List.set_cons_succ])))
              (refine walkR_only (fun w' => Ext wr w') rfl (by decide +kernel) rfl ?_ ?_)
              · exact fun _ h => h
              intro K hK
              go_simp
              refine hK _ _ (hE.trans (Ext.alloc _ (.cells #[.int .i64 V] 3))) ?_
              clear hK K
              have hE6 := hE.trans (Ext.alloc wr.drew (.cells #[.int .i64 V] 3))
              have HO6 := hidP (HI.out.below hE6)
              have HI6 := hidP (show IntsAt (wr.drew.alloc (.cells #[.int .i64 V] 3)) (some ⟨wr.drew.heap.size, 0, none⟩) 1 [V] from by simpa [ivs] using ints_alloc wr.drew [V] 3)
              have HX6 := hidP (HXx.out.trans hE6)
              clear hE hE6
              (try simp only [Act.put, List.setIfInBounds_toArray, List.set_cons_zero, List.set_cons_succ])
              (refine walkR_tail (by rfl) (by kernel_rfl) ?_; simp only [List.drop_succ_cons, List.drop_zero])
              go_wp2_with (at_builtin; refine wpList_append_ints rfl (.tmp 42) (.tmp 54) rfl wo.heap.size b j d _ rfl HO6.out (some ⟨wr.heap.size, 0, none⟩) 1 1 [V] rfl HI6.out (fun e => by cases e) (by omega) HX6.out.size ?_; intro a7 c7 w7 ho7 hg7; have HX7 := hidP (show Ext wo w7 from grown_ext hg7 HX6.out HX6.out.size HO6.out.addr_base); rw [HTk.out] at ho7; have HO7 := hidP ho7; clear ho7 hg7)
              go_roundw
              case rel => exact ⟨j + 1, a7, c7, by omega, rfl, by go_num, HO7, HX7⟩
              case measure => simp [intOf]; omega
            · obtain rfl : n = j := by omega
              have HTk : Hid ((pickL W rows).take n = pickL W rows) := List.take_of_length_le (by have := HPl.out; omega)
              rw [HTk.out] at HI
              obtain ⟨q1, q2, _⟩ := HQ.out wr HXx.out
              have hi := HI.out.ints
              have HXw := hidP (HX.out.trans HXx.out)
              have hPt := l8Put_any w3.heap.size g q co hs (putsT [] 1 (pickT rows (us.take k))) b d (pickL W rows) L wr ((HO.out.below HXx.out).weaken (Nat.le_refl _) HXx.out.size) (by rw [HPl.out]; exact hi) HI.out.nil_cap (by have := HPl.out; omega) (by omega) HXw.out.size (fun i hi => by
                have := HSm.out i hi
                have := HLb.out
                omega)
              rw [HPl.out, HSn.out] at hPt
              have HPt := hidP hPt
              clear hPt hi
              go_wp2_with fail
              refine HPt.out.mono ?_
              rintro e w2 ⟨g2, q2', c2', hs2, rfl, ho2, hx2⟩
              have HO2 := hidP ho2
              have HX2 : Hid (Ext w3 w2) := (show Ext w3 w2 from Below.trans HXw.out hx2)
              clear ho2 hx2
              go_wp2
              go_roundw
              case rel => exact ⟨k + 1, g2, c2', q2', hs2, by omega, rfl, by go_num, HO2, HX2⟩
              case measure => simp [intOf]; omega
        · obtain rfl : n' = k := by omega
          have HTk : Hid (us.take n' = us) := List.take_of_length_le (by have := HNl'.out; omega)
          rw [HTk.out] at HO
          have hql := HO.out.xl
          have hpb := puts_length 1 (pickT rows us) []
          have hpk : (pickT rows us).length = us.length := by simp [pickT]
          have hq4 : q ≤ 400 := by have := HNl'.out; simp only [List.length_nil] at hpb; omega
          clear hpb hpk
          have HGv := hidP (fun w' (hx : Ext wr w') => l8Give_any n b2 m2 c2 (some ⟨g, 0, none⟩) q co (putsT [] 1 (pickT rows us)) w' (HO.out.below hx).termsAt (by omega) (by omega))
          obtain ⟨y0, y1⟩ := HU3.out wr HX.out
          cases hb : chrB n (putsT [] 1 (pickT rows us))
          · rw [hb, if_neg Bool.false_ne_true] at HGv
            have hJ : Hid (brnR R ts rows us = (false, [])) := by
              show _ = _
              rw [HR2.out]
              unfold chrR
              rw [hb]
              rfl
            clear hb hql
            go_wp2_with fail
            refine (HGv.out _ (Ext.refl _)).mono ?_
            rintro e w5 ⟨rfl, hx5⟩
            have HX5 := hidP (HX3.out.trans (HX.out.trans hx5))
            clear hx5
            go_wp2
            refine bodyPost_ret (v := .tuple #[.slice none 0 0, .bool false]) (by simp [results, Tryz.results50, go_sem]) rfl ?_
            have hO : OwnK stepK w5 w.heap.size w5.heap.size none 0 0 [] (brnR R ts rows us).2 := by
              rw [hJ.out]
              exact OwnK.nil stepK _ _ _
            first | exact ⟨none, 0, 0, [], by rw [hJ.out], hO, HX5.out⟩ | exact ⟨none, 0, 0, by rw [hJ.out], ⟨[], hO⟩, HX5.out⟩
          · rw [hb, if_pos rfl] at HGv
            have hJ : Hid (brnR R ts rows us = (true, putsT [] 1 (pickT rows us))) := by
              show _ = _
              rw [HR2.out]
              unfold chrR
              rw [hb]
              rfl
            clear hb hql
            go_wp2_with fail
            refine (HGv.out _ (Ext.refl _)).mono ?_
            rintro e w5 ⟨rfl, hx5⟩
            have HX5 := hidP (HX3.out.trans (HX.out.trans hx5))
            have HO5 := hidP ((HO.out.below hx5).weaken (B' := w.heap.size) HX3.out.size hx5.size)
            clear hx5
            go_wp2
            refine bodyPost_ret (v := .tuple #[.slice (some ⟨g, 0, none⟩) q co, .bool true]) (by simp [results, Tryz.results50, go_sem]) rfl ?_
            have hO : OwnK stepK w5 w.heap.size w5.heap.size (some ⟨g, 0, none⟩) q co hs (brnR R ts rows us).2 := by
              rw [hJ.out]
              exact HO5.out
            first | exact ⟨some ⟨g, 0, none⟩, q, co, hs, by rw [hJ.out], hO, HX5.out⟩ | exact ⟨some ⟨g, 0, none⟩, q, co, by rw [hJ.out], ⟨hs, hO⟩, HX5.out⟩
end Go.Proofs.YtnfbfdamlnjblaaGreatDoor
