/-
  Draws: the cursor over a code's bytes; numbers below another.
-/
import Derived.Test.YthbdcclglopkiaaDoorByt
import Derived.Test.YthbdcclglopkiaaDoorOwnB
import Derived.BigQuiet
import Derived.Deep.QuietTactic
namespace Go.Proofs.YthbdcclglopkiaaDoor
open Go.RowKit

/-- block g is a cursor over the bytes at a -/
structure CurAt (w : World) (g : Nat) (a : Option Addr) (n c : Nat) : Prop where
  ex : ∃ (i : Nat) (h : Int), i ≤ n ∧ w.cell? ⟨g, 0, none⟩ = some (.slice a n c) ∧ w.cell? ⟨g, 1, none⟩ = some (.int .i64 i) ∧ w.cell? ⟨g, 2, none⟩ = some (.int .i64 h)
  fr : ∀ j, w.frozen? ⟨g, j, none⟩ = false
  far : ∀ b o, a = some ⟨b, o, none⟩ → 0 < n → b < g
  blk : ∃ cur fr, w.heap[g]? = some (.cells cur 70 fr)
theorem CurAt.grown {w w' : World} {g : Nat} {a : Option Addr} {n c : Nat} (h : CurAt w g a n c) {row : Option Nat} (hg : w.grownBy w' row) (hne : some g ≠ row) : CurAt w' g a n c := by
  obtain ⟨cur, fr, hb⟩ := h.blk
  have hl : g < w.heap.size := (Array.getElem?_eq_some_iff.1 hb).1
  have he := hg.block g hl hne
  obtain ⟨i, x, hi, f0, f1, f2⟩ := h.ex
  exact ⟨⟨i, x, hi, (World.cell?_of_block (w := w) he).trans f0, (World.cell?_of_block (w := w) he).trans f1, (World.cell?_of_block (w := w) he).trans f2⟩, fun j => by rw [World.frozen?_of_block he]; exact h.fr j, h.far, cur, fr, he.trans hb⟩
theorem CurAt.lt {w : World} {g : Nat} {a : Option Addr} {n c : Nat} (h : CurAt w g a n c) : g < w.heap.size := by
  obtain ⟨cur, fr, hb⟩ := h.blk
  exact (Array.getElem?_eq_some_iff.1 hb).1
theorem CurAt.below {w w' : World} {g : Nat} {a : Option Addr} {n c : Nat} (h : CurAt w g a n c) (hx : Ext w w') : CurAt w' g a n c :=
  h.grown (row := none) ⟨hx.os, hx.tape, hx.output, hx.size, fun k hk _ => hx.block k hk⟩ (by simp)
/-- a slice of integers that is owned lies elsewhere -/
theorem CurAt.apart {w : World} {g B : Nat} {a a' : Option Addr} {n c n' c' : Nat} {xs : List Int} (h : CurAt w g a n c) (k : OwnI w B a' n' c' xs) : ∀ b o, a' = some ⟨b, o, none⟩ → b ≠ g := by
  intro b o e hb
  subst hb
  obtain ⟨cur, hc⟩ := k.block e
  obtain ⟨cur', fr, hc'⟩ := h.blk
  rw [hc] at hc'
  simp only [Option.some.injEq, Obj.cells.injEq] at hc'
  exact absurd hc'.2.1 (by decide)
theorem CurAt.own {w w' : World} {g B : Nat} {a a' : Option Addr} {n c n' c' : Nat} {xs : List Int} (h : CurAt w g a n c) (k : OwnI w B a' n' c' xs) (hg : w.grownBy w' (some g)) : OwnI w' B a' n' c' xs :=
  k.grown hg fun b o e => by have := h.apart k b o e; simpa using this
theorem CurAt.ownGrown {w w' : World} {g B : Nat} {a a' : Option Addr} {n c n' c' : Nat} {xs : List Int} (h : CurAt w g a n c) (k : OwnI w B a' n' c' xs) (hg : w.grownBy w' (Value.slice a' n' c').ownBlock) : CurAt w' g a n c := by
  refine h.grown hg ?_
  cases a' with
  | none => simp [Value.ownBlock]
  | some p =>
    rcases k.row.2 with ⟨he, _⟩ | ⟨g', cap, cur, he, _⟩
    · simp at he
    · simp only [Value.slice.injEq, Option.some.injEq] at he
      obtain ⟨rfl, _⟩ := he
      have := h.apart k g' 0 rfl
      simp only [Value.ownBlock, ne_eq, Option.some.injEq]
      omega
theorem BytesAt.ownGrown {w0 w w' : World} {a a' : Option Addr} {n n' c' : Nat} {bs xs : List Int} (h : BytesAt w a n bs) (k : OwnI w w0.heap.size a' n' c' xs) (hg : w.grownBy w' (Value.slice a' n' c').ownBlock) (h0 : BytesAt w0 a n bs) : BytesAt w' a n bs :=
  ⟨h.len, fun i hi => by
    obtain ⟨b, o, e, q, r⟩ := h.get i hi
    obtain ⟨b', o', e', q', _⟩ := h0.get i hi
    rw [e] at e'
    simp only [Option.some.injEq, Addr.mk.injEq, and_true] at e'
    obtain ⟨rfl, rfl⟩ := e'
    have hlt : b < w0.heap.size := World.block_lt_of_cell? w0 _ q'
    have hne : some b ≠ (Value.slice a' n' c').ownBlock := by
      cases a' with
      | none => simp [Value.ownBlock]
      | some p =>
        have := k.addr_base p rfl
        simp only [Value.ownBlock, ne_eq, Option.some.injEq]
        omega
    exact ⟨b, o, e, (World.cell?_of_block (w := w) (hg.block b (World.block_lt_of_cell? w _ q) hne)).trans q, r⟩⟩
def Drawn (w : World) (g : Nat) (a : Option Addr) (n c : Nat) (P : Nat → Prop) (e : Ending) (w' : World) : Prop := ∃ v : Nat, P v ∧ e = .returned (.int .i64 v) ∧ CurAt w' g a n c ∧ w.grownBy w' (some g)

theorem gb_trans {a b c : World} {g : Option Nat} (h : a.grownBy b g) (k : b.grownBy c g) : a.grownBy c g :=
  ⟨k.os.trans h.os, k.tape.trans h.tape, k.output.trans h.output, Nat.le_trans h.size k.size, fun j hj hne => (k.block j (Nat.lt_of_lt_of_le hj h.size) hne).trans (h.block j hj hne)⟩
theorem ext_up {g : Nat} {w0 w w' : World} (h : Ext w0 w) (hg : w.grownBy w' (some g)) (hB : w0.heap.size ≤ w.heap.size) (hle : w0.heap.size ≤ g) : Ext w0 w' :=
  Below.grown h hg hB fun k hk => by simp only [Option.some.injEq] at hk; omega
theorem bits_below (x : Int) (m : Nat) (hm : m < 4611686018427387904) : ∃ v : Nat, v ≤ m ∧ bits .and .i64 x (m : Int) = (v : Int) := by
  have h2 : (BitVec.ofInt 64 (m : Int)).toNat = m := by
    rw [BitVec.ofInt_natCast, BitVec.toNat_ofNat]; exact Nat.mod_eq_of_lt (by omega)
  refine ⟨(BitVec.ofInt 64 x).toNat &&& m, Nat.and_le_right, ?_⟩
  have hx : (BitVec.ofInt 64 x).toNat &&& m ≤ m := Nat.and_le_right
  show IntKind.i64.wrap ((BitVec.ofInt 64 x &&& BitVec.ofInt 64 (m : Int)).toNat : Int) = _
  rw [BitVec.toNat_and, h2]
  exact wrap_in (by omega) (by omega)
theorem bits_255 (x : Int) : ∃ v : Nat, v ≤ 255 ∧ bits .and .i64 x 255 = (v : Int) := bits_below x 255 (by omega)
theorem bits_30 (x : Int) : ∃ v : Nat, v ≤ 1073741823 ∧ bits .and .i64 x 1073741823 = (v : Int) := bits_below x 1073741823 (by omega)

set_option maxRecDepth 100000 in
set_option maxHeartbeats 1000000 in
theorem l1Byte_any (g : Nat) (a : Option Addr) (n c : Nat) (bs : List Int) (w : World) (hc : CurAt w g a n c) (hb : BytesAt w a n bs) (hn : n ≤ 1048576) :
    Calls Tryd.prog 45 #[.pointer (some ⟨g, 0, none⟩)] w (Drawn w g a n c (fun v => v ≤ 255)) := by
  obtain ⟨i, h, hi, f0, f1, f2⟩ := hc.ex
  have fr0 := hc.fr 0
  have fr1 := hc.fr 1
  have fr2 := hc.fr 2
  go_enter Tryd.func45, Tryd.ntmps45
  go_wp2
  obtain ⟨h1, hh1⟩ : ∃ h1, h1 = wrap64 (wrap64 (h * 6364136223846793005) + 1442695040888963407) := ⟨_, rfl⟩
  rw [← hh1]
  clear hh1
  obtain ⟨w1, hw1⟩ : ∃ w1, w1 = w.setCell ⟨g, 2, none⟩ (.int .i64 h1) := ⟨_, rfl⟩
  have e0 : w1.cell? ⟨g, 0, none⟩ = some (.slice a n c) := by rw [hw1, World.cell?_setCell_other w _ _ _ (by simp)]; exact f0
  have e1 : w1.cell? ⟨g, 1, none⟩ = some (.int .i64 i) := by rw [hw1, World.cell?_setCell_other w _ _ _ (by simp)]; exact f1
  have e2 : w1.cell? ⟨g, 2, none⟩ = some (.int .i64 h1) := by rw [hw1]; exact World.cell?_setCell_same _ _ _ f2
  have hg1 : w.grownBy w1 (some g) := by rw [hw1]; exact ⟨rfl, rfl, rfl, by simp, fun k hk hne => Below.heap_setCell _ _ _ _ (by simpa using hne)⟩
  have bl : ∃ cur fr, w1.heap[g]? = some (.cells cur 70 fr) := by
    obtain ⟨cur, fr, hb⟩ := hc.blk
    rw [hw1]
    exact ⟨_, _, heap_setCell_at w g 2 _ _ _ _ hb⟩
  have k0 : ∀ j, w1.frozen? ⟨g, j, none⟩ = false := by intro j; rw [hw1, World.frozen?_setCell]; exact hc.fr j
  rw [← hw1]
  clear hw1
  go_quiet (fail)
  go_wp2
  obtain ⟨x, hx, hxe⟩ := bits_255 (bits BinOp.xor IntKind.i64 (h1 / 8589934592) (h1 / 35184372088832))
  rw [hxe]
  clear hxe
  by_cases hlt : i < n
  · obtain ⟨b, o, rfl, q0, y0, y1⟩ := (hb.grown hg1 hc.far).get i hlt
    obtain ⟨y, hy⟩ := Int.eq_ofNat_of_zero_le y0
    rw [hy] at q0 y1
    have q1 : wrap64 (y : Int) = (y : Int) := by unfold wrap64; omega
    clear hy y0
    go_quiet (fail)
    go_wp2
    go_quiet (fail)
    go_wp2
    obtain ⟨z, hz, hze⟩ := bits_255 ((x : Int) + y)
    rw [hze]
    clear hze
    go_ret
    refine ⟨z, hz, rfl, ?_, ?_⟩
    · refine ⟨⟨i + 1, h1, by omega, ?_, ?_, ?_⟩, fun j => ?_, hc.far, ?_⟩
      · rw [World.cell?_setCell_other _ _ _ _ (by simp)]; exact e0
      · rw [World.cell?_setCell_same _ _ _ (show (w1.drewN _).cell? _ = some (.int .i64 i) from e1)]; congr 1
      · rw [World.cell?_setCell_other _ _ _ _ (by simp)]; exact e2
      · rw [World.frozen?_setCell]; exact k0 j
      · obtain ⟨cur, fr, hb⟩ := bl
        exact ⟨_, _, heap_setCell_at (w1.drewN _) g 1 _ _ _ _ hb⟩
    · exact gb_trans hg1 ⟨rfl, rfl, rfl, by simp [World.setCell, World.drewN], fun k hk hne => Below.heap_setCell _ _ _ _ (by simpa using hne)⟩
  · go_quiet (fail)
    go_wp2
    go_ret
    exact ⟨x, hx, rfl, ⟨⟨i, h1, hi, e0, e1, e2⟩, k0, hc.far, bl⟩, gb_trans hg1 ⟨rfl, rfl, rfl, Nat.le_refl _, fun _ _ _ => rfl⟩⟩
def BelowP (k : Int) (v : Nat) : Prop := (k ≤ 0 → v = 0) ∧ (0 < k → (v : Int) < k)
set_option maxRecDepth 100000 in
set_option maxHeartbeats 1000000 in
theorem l1Below_any (g : Nat) (k : Int) (a : Option Addr) (n c : Nat) (bs : List Int) (w : World) (hc : CurAt w g a n c) (hb : BytesAt w a n bs) (hn : n ≤ 1048576) (hk : k ≤ 1000000000000) :
    Calls Tryd.prog 30 #[.pointer (some ⟨g, 0, none⟩), .int .i64 k] w (Drawn w g a n c (BelowP k)) := by
  by_cases h0 : k ≤ 0
  · go_enter Tryd.func30, Tryd.ntmps30
    go_wp2
    go_ret
    exact ⟨0, ⟨fun _ => rfl, fun h => by omega⟩, rfl, hc, ⟨rfl, rfl, rfl, Nat.le_refl _, fun _ _ _ => rfl⟩⟩
  · have hk1 : 1 ≤ k := by omega
    obtain ⟨m, rfl⟩ := Int.eq_ofNat_of_zero_le (show 0 ≤ k by omega)
    have HC := hidP hc
    have HB := hidP hb
    clear hc hb
    by_cases h1 : (m : Int) ≤ 256
    · have HL := hidP (l1Byte_any g a n c bs w HC.out HB.out hn)
      go_enter Tryd.func30, Tryd.ntmps30
      go_wp2_with fail
      refine HL.out.mono ?_
      rintro e w1 ⟨v, hv, rfl, hc1, hg1⟩
      have HC1 := hidP hc1
      have HG1 := hidP hg1
      clear hc1 hg1
      go_wp2
      go_ret
      exact ⟨v % m, ⟨fun h => by omega, fun h => by have := Nat.mod_lt v (show 0 < m by omega); omega⟩, by first | rfl | (congr 2), HC1.out, HG1.out⟩
    · have HL := hidP (fun w' (hc : CurAt w' g a n c) (hb : BytesAt w' a n bs) => l1Byte_any g a n c bs w' hc hb hn)
      go_enter Tryd.func30, Tryd.ntmps30
      go_wp2_with fail
      refine (HL.out _ HC.out HB.out).mono ?_
      rintro e w1 ⟨v1, hv1, rfl, hc1, hg1⟩
      have HB1 := hidP (HB.out.grown hg1 HC.out.far)
      have HC1 := hidP hc1
      have HG1 := hidP hg1
      clear hc1 hg1
      go_wp2_with fail
      refine (HL.out _ HC1.out HB1.out).mono ?_
      rintro e w2 ⟨v2, hv2, rfl, hc1, hg1⟩
      have HB2 := hidP (HB1.out.grown hg1 HC1.out.far)
      have HC2 := hidP hc1
      have HG2 := hidP (gb_trans HG1.out hg1)
      clear hc1 hg1
      go_wp2_with fail
      refine (HL.out _ HC2.out HB2.out).mono ?_
      rintro e w3 ⟨v3, hv3, rfl, hc1, hg1⟩
      have HB3 := hidP (HB2.out.grown hg1 HC2.out.far)
      have HC3 := hidP hc1
      have HG3 := hidP (gb_trans HG2.out hg1)
      clear hc1 hg1
      go_wp2_with fail
      refine (HL.out _ HC3.out HB3.out).mono ?_
      rintro e w4 ⟨v4, hv4, rfl, hc1, hg1⟩
      have HC4 := hidP hc1
      have HG4 := hidP (gb_trans HG3.out hg1)
      clear hc1 hg1
      go_wp2
      go_ret
      refine ⟨(v1 * 16777216 + v2 * 65536 + v3 * 256 + v4) % m, ⟨fun h => by omega, fun h => ?_⟩, ?_, HC4.out, HG4.out⟩
      · have := Nat.mod_lt (v1 * 16777216 + v2 * 65536 + v3 * 256 + v4) (show 0 < m by omega)
        omega
      · congr 2
theorem CurAt.new (a : Option Addr) (n c : Nat) (bs : List Int) (w : World) (hb : BytesAt w a n bs) (h : Int) :
    CurAt (w.alloc (.cells #[.slice a n c, .int .i64 0, .int .i64 h] 70)) w.heap.size a n c := by
  refine ⟨⟨0, h, Nat.zero_le _, (cell_top _ _ _ _ _ rfl).trans rfl, (cell_top _ _ _ _ _ rfl).trans rfl, (cell_top _ _ _ _ _ rfl).trans rfl⟩, fun j => frozen_top _ _ _ _ _ rfl, fun b o e h0 => ?_, _, _, heap_alloc_new _ _⟩
  obtain ⟨b', o', e', q, _⟩ := hb.get 0 h0
  rw [e] at e'
  simp only [Option.some.injEq, Addr.mk.injEq, and_true] at e'
  obtain ⟨rfl, rfl⟩ := e'
  exact World.block_lt_of_cell? w _ q
set_option maxHeartbeats 1000000 in
theorem l1New_any (a : Option Addr) (n c : Nat) (bs : List Int) (w : World) (hb : BytesAt w a n bs) (hn : n ≤ 1048576) :
    Calls Tryd.prog 29 #[.slice a n c] w fun e w' => ∃ g, e = .returned (.pointer (some ⟨g, 0, none⟩)) ∧ CurAt w' g a n c ∧ w.heap.size ≤ g ∧ Ext w w' := by
  have HB := hidP hb
  clear hb
  go_enter Tryd.func29, Tryd.ntmps29
  go_wp2
  go_loop [3, 4] (fun v i => ∃ k h : Nat, k ≤ n ∧ h ≤ 1073741823 ∧ v = .int .i64 h ∧ i = .int .i64 k) (fun _ i => n - (intOf i).toNat)
  case atStart => exact ⟨0, 124929 + n, Nat.zero_le _, by omega, by first | rfl | go_num, rfl⟩
  case round =>
    obtain ⟨k, h, hk, hh, rfl, rfl⟩ := hrel
    by_cases hlt : k < n
    · by_cases h4 : (k : Int) < 4000
      · obtain ⟨b, o, rfl, q0, y0, y1⟩ := HB.out.get k hlt
        obtain ⟨y, hy⟩ := Int.eq_ofNat_of_zero_le y0
        rw [hy] at q0 y1
        have q1 : wrap64 (y : Int) = (y : Int) := by unfold wrap64; omega
        clear hy y0
        obtain ⟨z, hz, hze⟩ := bits_30 ((h : Int) * 131 + y + 7)
        go_wp2
        go_round
        case rel => exact ⟨k + 1, z, by omega, hz, by first | rfl | rw [hze], by go_num⟩
        case measure => simp [intOf]; omega
      · have HN := hidP (fun h => CurAt.new a n c bs w HB.out h)
        go_wp2
        go_ret
        exact ⟨w.heap.size, rfl, HN.out _, Nat.le_refl _, Ext.alloc _ _⟩
    · have HN := hidP (fun h => CurAt.new a n c bs w HB.out h)
      go_wp2
      go_ret
      exact ⟨w.heap.size, rfl, HN.out _, Nat.le_refl _, Ext.alloc _ _⟩
end Go.Proofs.YthbdcclglopkiaaDoor
