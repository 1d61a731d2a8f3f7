/-
  The reference's check of an algebra answers as the program's: spec.AlgebraOk. Printed by gen5.py.
  The reference's law of Jacobi and its check of an algebra: l2Jacobi, spec.AlgebraOk.
  The reference's bracket of two elements: l2Bracket.
  The reference's sums and brackets: l2Plus, l2Bracket.
  The reference's small functions on lists: l1Residues, l1IsZero, l2Get, l2Row, l2Basis, l2Plus.
  What a valid algebra is, as the program asks it.
  The type lie: newLie, pair, right.
  The program's algebras by tables: residues, isZero, addTo, the type lie with pair and right.
  Terms: slices of a word and a number each, in order; the reference's checks l11Word and l11Ok.
  Algebras as values: the law's own functions on them, and AbelianAlgebra of both packages.
  Slices of structs of a word and a number each, read.
  Maps from strings that a call makes: what lies at a key is told by a function; stores, lookups, the range over one.
  The text of a list of numbers tells the list: no two lists have one text.
  Counts of words in two maps of a call's own: the words by their text, their numbers by their text; ordered lists of words with numbers.
  The program's counts: two maps of words and numbers, a number added.
  The program's FormatInt and FormatInts, by the library's Itoa and Join.
-/
import Derived.Test.YtenlhfimdpcaoaaMb2
import Derived.WalkSmall
import Derived.Lib.AppendIntMem
import Derived.Maps.RangeWalk
import Derived.Maps.OwnOps
namespace Go.Proofs.Ytenlhfimdpcaoaa
open Go.RowKit

end Go.Proofs.Ytenlhfimdpcaoaa

namespace Go.Proofs.Ytenlhfimdpcaoaa
open Go.RowKit

def holdR (v : Value) : Option (DataW Value × List MemPlace) := some (.held v, [])
def keyL (s : ByteArray) : Lit := .string s.data.toList
theorem keyL_inj {s t : ByteArray} (h : keyL s = keyL t) : s = t := by
  simp only [keyL, Lit.string.injEq] at h
  cases s; cases t
  simp only [ByteArray.mk.injEq]
  exact Array.toList_inj.1 h
theorem keyL_key (s : ByteArray) : WideAt.IsKeyLit (keyL s) := trivial
theorem keyL_ne {s t : ByteArray} (h : t ≠ s) : keyL t ≠ keyL s := fun e => h (keyL_inj e)
theorem keyOf_keyL {P : Program} {K : TypeId} (hK : P.underlying K = some .string) {s : ByteArray} (hs : s.size ≤ maxLen) : keyOf P K (.string s) = some (keyL s) := WideMaps.keyOf_string_mk hK hs
theorem keyOf_string_inv2 {P : Program} {k : TypeId} (hk : P.underlying k = some .string) {key : Value} {kl : Lit} (h : keyOf P k key = some kl) : ∃ s, key = .string s ∧ kl = keyL s ∧ s.size ≤ maxLen := by
  cases key <;> simp [keyOf, hk, mapKey] at h
  exact ⟨_, rfl, h.2.symm, h.1⟩

/-- f tells what a map that reads as D has at each key -/
structure ViewS (D : DataW Value) (f : ByteArray → Option Value) : Prop where
  at_ : ∀ s, s.size ≤ maxLen → ∀ v0, D.atKey (keyL s) (.held v0) = .held ((f s).getD v0)
  has_ : ∀ s, s.size ≤ maxLen → Maps.has D (keyL s) = (f s).isSome
/-- block b is a map of at most n entries with f -/
def MapS (w : World) (P : Program) (K : TypeId) (b n : Nat) (f : ByteArray → Option Value) : Prop := ∃ D, w.ownsMap P K holdR b n D ∧ ViewS D f
def putF (f : ByteArray → Option Value) (s : ByteArray) (v : Value) : ByteArray → Option Value := fun t => if t = s then some v else f t
/-- the range over such a map under way: left is what is still to come -/
def RangeS (w : World) (P : Program) (K : TypeId) (b r n : Nat) (f : ByteArray → Option Value) (left : ByteArray → Bool) (cnt : Nat) : Prop :=
  ∃ D lf, w.ranges P K holdR b r n D lf cnt ∧ ViewS D f ∧ ∀ s, s.size ≤ maxLen → lf (keyL s) = left s

variable {P : Program} {K : TypeId} {w w' : World} {b n r cnt : Nat} {f : ByteArray → Option Value} {left : ByteArray → Bool}

theorem MapS.made (w : World) (P : Program) (K : TypeId) : MapS (w.alloc (.map #[] 0)) P K w.heap.size 0 (fun _ => none) :=
  ⟨_, World.ownsMap_made w P K holdR, ⟨fun s _ v0 => by simp [DataW.atKey], fun s _ => by simp [Maps.has]⟩⟩
theorem MapS.lt (h : MapS w P K b n f) : b < w.heap.size := h.choose_spec.1.lt
theorem MapS.isMap (h : MapS w P K b n f) : ∃ es clock, w.heap[b]? = some (.map es clock) := by
  obtain ⟨D, ⟨es, clock, hb, _⟩, _⟩ := h
  exact ⟨es, clock, hb⟩
theorem MapS.kept (h : MapS w P K b n f) {row : Option Nat} (hg : w.grownBy w' row) (hne : some b ≠ row) : MapS w' P K b n f := by
  obtain ⟨D, h1, h2⟩ := h
  exact ⟨D, h1.kept hg hne, h2⟩
theorem MapS.below (h : MapS w P K b n f) (hx : Ext w w') : MapS w' P K b n f :=
  h.kept (row := none) ⟨hx.os, hx.tape, hx.output, hx.size, fun k hk _ => hx.block k hk⟩ (by simp)
theorem MapS.lookup (h : MapS w P K b n f) {T E : TypeId} (hK : P.underlying K = some .string) (hT : P.underlying T = some (.map K E)) {z : Value} (hz : (zeroValue E).run P w = .ok z w)
    {s : ByteArray} (hs : s.size ≤ maxLen) : (Instr.lookup T (.map (some b)) (.string s) false).run P w = .ok ((f s).getD z) w := by
  obtain ⟨D, h1, h2⟩ := h
  obtain ⟨v, ps, hrun, hv⟩ := h1.lookup (Maps.string_keyed hK) hT hz (zd := .held z) (zp := []) rfl (keyOf_keyL hK hs)
  rw [h2.at_ s hs] at hv
  simp only [holdR, Option.some.injEq, Prod.mk.injEq, DataW.held.injEq] at hv
  rw [hrun, hv.1]
theorem MapS.update (h : MapS w P K b n f) {T E : TypeId} (hK : P.underlying K = some .string) (hT : P.underlying T = some (.map K E)) (hn : n < maxLen)
    {s : ByteArray} (hs : s.size ≤ maxLen) (v : Value) : ∃ w', (Instr.mapUpdate T (.map (some b)) (.string s) v).run P w = .ok () w' ∧ MapS w' P K b (n + 1) (putF f s v) ∧ w.grownBy w' (some b) := by
  obtain ⟨D, h1, h2⟩ := h
  obtain ⟨w', hrun, hown, hg⟩ := h1.update (Maps.string_keyed hK) hT hn (keyOf_keyL hK hs) (val := v) (d := .held v) (ps := []) rfl
  have hD : Maps.IsMap D := by
    obtain ⟨es, clock, _, _, _, e⟩ := h1
    exact ⟨_, e⟩
  refine ⟨w', hrun, ⟨_, hown, ⟨fun t ht v0 => ?_, fun t ht => ?_⟩⟩, hg⟩
  · by_cases e : t = s
    · subst e
      rw [Maps.atKey_put_same hD (keyL_key _)]
      simp [putF]
    · rw [Maps.atKey_put_other (keyL_ne e), h2.at_ t ht]
      simp [putF, e]
  · by_cases e : t = s
    · subst e
      rw [Maps.has_put_same hD (keyL_key _)]
      simp [putF]
    · rw [Maps.has_put_other (keyL_ne e), h2.has_ t ht]
      simp [putF, e]

theorem RangeS.left_eq (h : RangeS w P K b r n f left cnt) : w.rangeLeft b r = cnt := by
  obtain ⟨D, lf, h1, _⟩ := h
  exact h1.left_eq
theorem RangeS.lt (h : RangeS w P K b r n f left cnt) : r < w.heap.size := by
  obtain ⟨D, lf, h1, _⟩ := h
  exact h1.lt
theorem RangeS.kept (h : RangeS w P K b r n f left cnt) {row : Option Nat} (hg : w.grownBy w' row) (hb : some b ≠ row) (hr : some r ≠ row) : RangeS w' P K b r n f left cnt := by
  obtain ⟨D, lf, h1, h2, h3⟩ := h
  exact ⟨D, lf, h1.kept hg hb hr, h2, h3⟩
theorem RangeS.below (h : RangeS w P K b r n f left cnt) (hx : Ext w w') : RangeS w' P K b r n f left cnt :=
  h.kept (row := none) ⟨hx.os, hx.tape, hx.output, hx.size, fun k hk _ => hx.block k hk⟩ (by simp) (by simp)
theorem MapS.range (h : MapS w P K b n f) {T E : TypeId} (hK : P.underlying K = some .string) (hT : P.underlying T = some (.map K E)) :
    ∃ w' cnt, (Instr.range T (.map (some b))).run P w = .ok (.pointer (some ⟨w.heap.size, 0, none⟩)) w' ∧ RangeS w' P K b w.heap.size n f (fun s => (f s).isSome) cnt ∧ Ext w w' ∧ w'.heap.size = w.heap.size + 1 := by
  obtain ⟨D, h1, h2⟩ := h
  obtain ⟨w', hrun, hr, hg, hsz⟩ := h1.range (Maps.string_keyed hK) hT
  exact ⟨w', _, hrun, ⟨D, _, hr, h2, h2.has_⟩, ⟨hg.os, hg.tape, hg.output, hg.size, fun k hk => hg.block k hk (by simp)⟩, hsz⟩
theorem RangeS.next (h : RangeS w P K b r n f left cnt) (hK : P.underlying K = some .string) (ty : TypeId) :
    (cnt = 0 ∧ (∀ s, s.size ≤ maxLen → left s = false) ∧ (Instr.next (.pointer (some ⟨r, 0, none⟩)) false ty).run P w = .ok (.tuple #[.bool false]) w) ∨
    ∃ s v w' cnt', s.size ≤ maxLen ∧ left s = true ∧ f s = some v ∧ (Instr.next (.pointer (some ⟨r, 0, none⟩)) false ty).run P w = .ok (.tuple #[.bool true, .string s, v]) w' ∧
      RangeS w' P K b r n f (fun t => left t && decide (t ≠ s)) cnt' ∧ cnt' < cnt ∧ w.grownBy w' (some r) ∧ w'.heap.size = w.heap.size ∧ (Instr.entry (.pointer (some ⟨r, 0, none⟩))).run P w' = .ok (.tuple #[.string s, v]) w' := by
  obtain ⟨D, lf, h1, h2, h3⟩ := h
  rcases h1.next (Maps.string_keyed hK) ty with ⟨h0, hl, hrun⟩ | ⟨key, v, kl, y, w', cnt', hkey, hlk, hv, hat, hrun, hrg, hlt, hgr, hsz, hen⟩
  · exact .inl ⟨h0, fun s hs => by rw [← h3 s hs]; exact hl _, hrun⟩
  · obtain ⟨s, rfl, rfl, hs⟩ := keyOf_string_inv2 hK hkey
    simp only [holdR, Option.some.injEq] at hv
    subst hv
    have e1 := hat (.held undef)
    have e2 := hat (.held (.bool true))
    rw [h2.at_ s hs] at e1 e2
    simp only [DataW.held.injEq] at e1 e2
    have hf : f s = some v := by
      cases hfs : f s with
      | some u => rw [hfs] at e1; simpa using e1
      | none =>
        rw [hfs] at e1 e2
        simp only [Option.getD_none] at e1 e2
        rw [← e1] at e2
        cases e2
    refine .inr ⟨s, v, w', cnt', hs, by rw [← h3 s hs]; exact hlk, hf, hrun, ⟨D, _, hrg, h2, fun t ht => ?_⟩, hlt, hgr, hsz, hen⟩
    show (lf (keyL t) && !(keyL t).sameKey (keyL s)) = _
    rw [h3 t ht]
    congr 1
    by_cases e : t = s
    · subst e
      rw [WideAt.sameKey_self (keyL_key _)]
      simp
    · rw [Maps.sameKey_ne (keyL_ne e)]
      simp [e]

section
variable (w : World) {ops : Array Oper} {rest : List Oper} {o : Oper} {a : Act} {Q : Exit → Act → World → Prop}
theorem wpList_lookupS (hg : o.guard = none) (m x : Operand) (T K E : TypeId) (hop : o.op = Op.lookup T m x false) (hK : P.underlying K = some .string) (hT : P.underlying T = some (.map K E)) (z : Value) (hz : (zeroValue E).run P w = .ok z w)
    (b n : Nat) (f : ByteArray → Option Value) (hm : a.eval m = .map (some b)) (h : MapS w P K b n f) (s : ByteArray) (hx : a.eval x = .string s) (hs : s.size ≤ maxLen)
    (hk : wpList P ops Q rest (a.put o.dst ((f s).getD z)) w) : wpList P ops Q (o :: rest) a w := by
  refine wpList_plain hg fun K' hK' => ?_
  unfold Oper.wp
  simp [execOp, hop, hm, hx, h.lookup hK hT hz hs, Result.andThen]
  exact hK' _ _ hk
theorem wpList_updateS (hg : o.guard = none) (m x v : Operand) (T K E : TypeId) (hop : o.op = Op.mapUpdate T m x v) (hK : P.underlying K = some .string) (hT : P.underlying T = some (.map K E))
    (b n : Nat) (f : ByteArray → Option Value) (hm : a.eval m = .map (some b)) (h : MapS w P K b n f) (hn : n < maxLen) (s : ByteArray) (hx : a.eval x = .string s) (hs : s.size ≤ maxLen) (u : Value) (hv : a.eval v = u)
    (hk : ∀ w', MapS w' P K b (n + 1) (putF f s u) → w.grownBy w' (some b) → wpList P ops Q rest (a.put o.dst undef) w') : wpList P ops Q (o :: rest) a w := by
  refine wpList_plain hg fun K' hK' => ?_
  obtain ⟨w', hrun, r1, r2⟩ := h.update hK hT hn hs u
  unfold Oper.wp
  simp [execOp, hop, hm, hx, hv, hrun, Result.andThen]
  exact hK' _ _ (hk w' r1 r2)
theorem wpList_rangeS (hg : o.guard = none) (m : Operand) (T K E : TypeId) (hop : o.op = Op.range T m) (hK : P.underlying K = some .string) (hT : P.underlying T = some (.map K E))
    (b n : Nat) (f : ByteArray → Option Value) (hm : a.eval m = .map (some b)) (h : MapS w P K b n f)
    (hk : ∀ w' cnt, RangeS w' P K b w.heap.size n f (fun s => (f s).isSome) cnt → Ext w w' → w'.heap.size = w.heap.size + 1 → wpList P ops Q rest (a.put o.dst (.pointer (some ⟨w.heap.size, 0, none⟩))) w') : wpList P ops Q (o :: rest) a w := by
  refine wpList_plain hg fun K' hK' => ?_
  obtain ⟨w', cnt, hrun, r1, r2, r3⟩ := h.range hK hT
  unfold Oper.wp
  simp [execOp, hop, hm, hrun, Result.andThen]
  exact hK' _ _ (hk w' cnt r1 r2 r3)
theorem wpList_nextS (hg : o.guard = none) (it : Operand) (hop : o.op = Op.next it false) (K : TypeId) (hK : P.underlying K = some .string) (b r n : Nat) (f : ByteArray → Option Value) (left : ByteArray → Bool) (cnt : Nat)
    (hit : a.eval it = .pointer (some ⟨r, 0, none⟩)) (h : RangeS w P K b r n f left cnt)
    (hDone : cnt = 0 → (∀ s, s.size ≤ maxLen → left s = false) → wpList P ops Q rest (a.put o.dst (.tuple #[.bool false])) w)
    (hMore : ∀ (s : ByteArray) (v : Value) (w' : World) (cnt' : Nat), s.size ≤ maxLen → left s = true → f s = some v → RangeS w' P K b r n f (fun t => left t && decide (t ≠ s)) cnt' → cnt' < cnt →
      w.grownBy w' (some r) → w'.heap.size = w.heap.size → (Instr.entry (.pointer (some ⟨r, 0, none⟩))).run P w' = .ok (.tuple #[.string s, v]) w' → wpList P ops Q rest (a.put o.dst (.tuple #[.bool true, .string s, v])) w') :
    wpList P ops Q (o :: rest) a w := by
  refine wpList_plain hg fun K' hK' => ?_
  unfold Oper.wp
  rcases h.next hK o.type with ⟨h0, hl, hrun⟩ | ⟨s, v, w', cnt', hs, hlk, hv, hrun, hrg, hlt, hgr, hsz, hen⟩
  · simp [execOp, hop, hit, hrun, Result.andThen]
    exact hK' _ _ (hDone h0 hl)
  · simp [execOp, hop, hit, hrun, Result.andThen]
    exact hK' _ _ (hMore s v w' cnt' hs hlk hv hrg hlt hgr hsz hen)
end
end Go.Proofs.Ytenlhfimdpcaoaa

namespace Go.Proofs.Ytenlhfimdpcaoaa
open Go.RowKit

end Go.Proofs.Ytenlhfimdpcaoaa

namespace Go.Proofs.Ytenlhfimdpcaoaa
open Go.RowKit

/-! ### ordered lists -/
structure Ord (R : List Int → List Int → Prop) : Prop where
  irr : ∀ x, ¬ R x x
  tr : ∀ {x y z}, R x y → R y z → R x z
  tot : ∀ {x y}, x ≠ y → R x y ∨ R y x
abbrev Tm : Type := List Int × Int
def Ordered (R : List Int → List Int → Prop) (l : List Tm) : Prop := l.Pairwise fun x y => R x.1 y.1
theorem lexC_less (xs ys : List Int) : lexC xs ys < 0 ↔ xs < ys := by
  induction xs generalizing ys with
  | nil => cases ys with
    | nil => simp [lexC]
    | cons y ys => simp [lexC]
  | cons x xs ih =>
    cases ys with
    | nil => simp [lexC]
    | cons y ys =>
      rw [List.cons_lt_cons_iff]
      simp only [lexC]
      rcases Int.lt_trichotomy x y with h | h | h
      · simp [cmpI, h]
      · subst h
        simp [cmpI_self, ih]
      · have hx : ¬ x < y := by omega
        have hne : x ≠ y := by omega
        simp [cmpI, hx, h, hne]
/-! ### worlds in which two maps turn -/
/-! ### the two maps -/
def addG (g : List Int → Int) (x : List Int) (c : Int) : List Int → Int := fun y => if y = x then g x + c else g y

end Go.Proofs.Ytenlhfimdpcaoaa

namespace Go.Proofs.Ytenlhfimdpcaoaa
open Go.RowKit

theorem zero_int (w : World) : (zeroValue 3).run Try.prog w = .ok (.int .i64 0) w := by kernel_rfl
end Go.Proofs.Ytenlhfimdpcaoaa

namespace Go.Proofs.Ytenlhfimdpcaoaa
open Go.RowKit

end Go.Proofs.Ytenlhfimdpcaoaa

namespace Go.Proofs.Ytenlhfimdpcaoaa
open Go.RowKit

/-- an algebra's value -/
abbrev algV (p d : Int) (a : Option Addr) (n c : Nat) : Value := .agg #[.int .i64 p, .int .i64 d, .slice a n c]

/-- the three cells of an algebra in a variable of its own -/
structure AlgAt (w : World) (b : Nat) (p d : Int) (a : Option Addr) (n c : Nat) : Prop where
  c0 : w.cell? ⟨b, 0, none⟩ = some (.int .i64 p)
  c1 : w.cell? ⟨b, 1, none⟩ = some (.int .i64 d)
  c2 : w.cell? ⟨b, 2, none⟩ = some (.slice a n c)
theorem AlgAt.below {w w' : World} {b : Nat} {p d : Int} {a : Option Addr} {n c : Nat} (h : AlgAt w b p d a n c) (hb : Ext w w') : AlgAt w' b p d a n c :=
  have hl := World.block_lt_of_cell? w _ h.c0
  ⟨(hb.cell (p := ⟨b, 0, none⟩) hl).trans h.c0, (hb.cell (p := ⟨b, 1, none⟩) hl).trans h.c1, (hb.cell (p := ⟨b, 2, none⟩) hl).trans h.c2⟩
theorem AlgAt.upd {w w' : World} {b : Nat} {p d : Int} {a : Option Addr} {n c : Nat} {a' : Option Addr} {n' : Nat} {ys : List Int} (h : AlgAt w b p d a n c) (hu : UpdI w w' a' n' ys) (hne : ∀ b' o', a' = some ⟨b', o', none⟩ → b ≠ b') : AlgAt w' b p d a n c :=
  have hl := World.block_lt_of_cell? w _ h.c0
  have hh := hu.other b hl fun b' o' e _ => hne b' o' e
  ⟨(World.cell?_of_block (a := ⟨b, 0, none⟩) hh).trans h.c0, (World.cell?_of_block (a := ⟨b, 1, none⟩) hh).trans h.c1, (World.cell?_of_block (a := ⟨b, 2, none⟩) hh).trans h.c2⟩
theorem AlgAt.new (w : World) (b : Nat) (hb : b = w.heap.size) (p d : Int) (a : Option Addr) (n c : Nat) (E : TypeId) : AlgAt (w.alloc (.cells #[.int .i64 p, .int .i64 d, .slice a n c] E)) b p d a n c :=
  ⟨(cell_top _ _ _ _ _ hb).trans rfl, (cell_top _ _ _ _ _ hb).trans rfl, (cell_top _ _ _ _ _ hb).trans rfl⟩

theorem resAlg {w w1 : World} {p0 d0 : Int} {a0 : Option Addr} {n0 c0 : Nat} {E : TypeId} (hx : Ext (w.alloc (.cells #[.int .i64 p0, .int .i64 d0, .slice a0 n0 c0] E)) w1) :
    w1.cell? ⟨w.heap.size, 0, none⟩ = some (.int .i64 p0) ∧ w1.cell? ⟨w.heap.size, 1, none⟩ = some (.int .i64 d0) ∧ w1.cell? ⟨w.heap.size, 2, none⟩ = some (.slice a0 n0 c0) ∧
    w1.frozen? ⟨w.heap.size, 0, none⟩ = false ∧ w1.frozen? ⟨w.heap.size, 1, none⟩ = false ∧ w1.frozen? ⟨w.heap.size, 2, none⟩ = false ∧ w.heap.size < w1.heap.size ∧ Ext w w1 := by
  have h := (AlgAt.new w _ rfl p0 d0 a0 n0 c0 E).below hx
  have hs : w.heap.size < w1.heap.size := by have := hx.size; simp at this; omega
  have hf : ∀ j, w1.frozen? ⟨w.heap.size, j, none⟩ = false := fun j => by
    rw [hx.frozen (p := ⟨w.heap.size, j, none⟩) (by simp)]
    exact frozen_top _ _ _ _ _ rfl
  exact ⟨h.c0, h.c1, h.c2, hf 0, hf 1, hf 2, hs, (Ext.alloc w _).trans hx⟩

set_option maxHeartbeats 1000000 in
theorem eqAlgebra_any (p1 d1 p2 d2 : Int) (a1 a2 : Option Addr) (n1 n2 c1 c2 : Nat) (xs ys : List Int) (w : World) (h1 : IntsAt w a1 n1 xs) (h2 : IntsAt w a2 n2 ys) (hm1 : n1 ≤ 9223372036854775807) (hm2 : n2 ≤ 9223372036854775807) :
    Calls Try.prog 10 #[algV p1 d1 a1 n1 c1, algV p2 d2 a2 n2 c2] w fun e w' => e = .returned (.bool (decide (p1 = p2 ∧ d1 = d2 ∧ xs = ys))) ∧ Ext w w' := by
  by_cases hp : p1 = p2
  · have hp' : (p1 != p2) = false := by simp [hp]
    by_cases hd : d1 = d2
    · have hd' : (d1 != d2) = false := by simp [hd]
      have HR : Hid (decide (p1 = p2 ∧ d1 = d2 ∧ xs = ys) = (xs == ys)) := by
        show _ = _
        by_cases h : xs = ys <;> simp [hp, hd, h]
      have HQ := hidP (fun w' (hx : Ext w w') => eqIntS_any a1 a2 n1 n2 c1 c2 xs ys w' (h1.below hx) (h2.below hx) hm1 hm2)
      clear hp hd h1 h2
      cases hb : (xs == ys)
      all_goals
        rw [hb] at HR
        go_enter Try.func10, Try.ntmps10
        go_wp2_with (go_at_call 30; refine (HQ.out _ ((Ext.alloc w _).trans (Ext.alloc _ _))).mono ?_; rintro e w' ⟨rfl, m, rfl⟩)
        go_ret
        exact ⟨ret_bool HR.out.symm, ((Ext.alloc w _).trans (Ext.alloc _ _)).trans (Ext.drewN _ _)⟩
    · have hd' : (d1 != d2) = true := by simp [hd]
      have HR : Hid (decide (p1 = p2 ∧ d1 = d2 ∧ xs = ys) = false) := by
        show _ = _
        simp [hd]
      clear hp hd
      go_enter Try.func10, Try.ntmps10
      go_wp2
      go_ret
      exact ⟨ret_bool HR.out.symm, (Ext.alloc w _).trans (Ext.alloc _ _)⟩
  · have hp' : (p1 != p2) = true := by simp [hp]
    have HR : Hid (decide (p1 = p2 ∧ d1 = d2 ∧ xs = ys) = false) := by
      show _ = _
      simp [hp]
    clear hp
    go_enter Try.func10, Try.ntmps10
    go_wp2
    go_ret
    exact ⟨ret_bool HR.out.symm, (Ext.alloc w _).trans (Ext.alloc _ _)⟩
theorem markAlgebra_any (p d : Int) (B : Nat) (a : Option Addr) (n c : Nat) (k0 : Int) (xs : List Int) (w : World) (h : OwnI w B a n c xs)
    (hn : n ≤ 1000000000000) (hk0 : -1000000000000 ≤ k0) (hk1 : k0 ≤ 1000000000000) :
    Calls Try.prog 11 #[algV p d a n c, .int .i64 k0] w fun e w' => e = .returned (.int .i64 (k0 + n)) ∧ UpdI w w' a n (upFrom k0 n) := by
  have HQ := hidP (fun w' (hx : Ext w w') => markIntS_any a n c k0 xs w' (h.below hx).ints (h.below hx).unfrozen hn hk0 hk1)
  have H := hidP h
  clear h
  go_enter Try.func11, Try.ntmps11
  go_wp2_with (go_at_call 31; refine (HQ.out _ (Ext.alloc w _)).mono ?_; rintro e w' ⟨rfl, hu⟩)
  go_ret
  exact ⟨rfl, (Ext.alloc w _).upd H.out.ints hu⟩
theorem heldAlgebra_any (p d : Int) (a : Option Addr) (n c : Nat) (k0 : Int) (w : World) (h : IntsAt w a n (upFrom k0 n))
    (hn : n ≤ 1000000000000) (hk0 : 0 ≤ k0) (hk1 : k0 ≤ 1000000000000) :
    Calls Try.prog 12 #[algV p d a n c, .int .i64 k0] w fun e w' => e = .returned (.int .i64 (k0 + n)) ∧ Ext w w' := by
  have HQ := hidP (fun w' (hx : Ext w w') => heldIntS_any a n c k0 w' (h.below hx) hn (by omega) hk1)
  clear h
  have hk : ¬ (k0 + (n : Int) < 0) := by omega
  go_enter Try.func12, Try.ntmps12
  go_wp2_with (go_at_call 32; refine (HQ.out _ (Ext.alloc w _)).mono ?_; rintro e w' ⟨rfl, m, rfl⟩)
  go_ret
  exact ⟨rfl, (Ext.alloc w _).trans (Ext.drewN _ _)⟩

set_option maxHeartbeats 1000000 in
theorem sAbelian_ok (p n : Int) (w : World) (hp : primeB p = true) (h0 : 0 ≤ n) (h1 : n ≤ 28) :
    Calls Try.prog 50 #[.int .i64 p, .int .i64 n] w fun e w' => ∃ a, e = .returned (algV p n a (n * n * n).toNat (n * n * n).toNat) ∧ OwnI w' w.heap.size a (n * n * n).toNat (n * n * n).toNat (List.replicate (n * n * n).toNat 0) ∧ Ext w w' := by
  have hi : insB n 0 28 = true := insB_true.2 ⟨h0, h1⟩
  obtain ⟨k1, k2, k3, k4⟩ := cube_le h0 h1
  have hmk := make_ints (n * n * n) k3 (by omega)
  have HM := hidP (fun w' (hb : w.heap.size ≤ w'.heap.size) => OwnI.made w' w.heap.size (n * n * n).toNat hb (by unfold maxLen; omega))
  go_enter Try.func50, Try.ntmps50
  go_wp2_with (first | (go_at_call 46; refine (sIsPrime_any _ _).mono ?_; rintro e w' ⟨rfl, rfl⟩) | (go_at_call 47; refine (l1In_any _ _ _ _).mono ?_; rintro e w' ⟨rfl, rfl⟩))
  refine bodyPost_ret (v := algV p n (some ⟨w.heap.size + 1, 0, none⟩) _ _) (by simp [results, Try.results50, go_sem]) rfl ⟨_, rfl, ?_, ?_⟩
  · have := HM.out (w.alloc (.cells #[.int .i64 p, .int .i64 n, .slice (some ⟨w.heap.size + 1, 0, none⟩) (n * n * n).toNat (n * n * n).toNat] 24)) (by simp)
    simpa using this
  · exact (Ext.alloc w _).trans (Ext.alloc _ _)

end Go.Proofs.Ytenlhfimdpcaoaa

namespace Go.Proofs.Ytenlhfimdpcaoaa
open Go.RowKit

end Go.Proofs.Ytenlhfimdpcaoaa

namespace Go.Proofs.Ytenlhfimdpcaoaa
open Go.RowKit

end Go.Proofs.Ytenlhfimdpcaoaa

namespace Go.Proofs.Ytenlhfimdpcaoaa
open Go.RowKit

end Go.Proofs.Ytenlhfimdpcaoaa

namespace Go.Proofs.Ytenlhfimdpcaoaa
open Go.RowKit

end Go.Proofs.Ytenlhfimdpcaoaa

namespace Go.Proofs.Ytenlhfimdpcaoaa
open Go.RowKit

end Go.Proofs.Ytenlhfimdpcaoaa

namespace Go.Proofs.Ytenlhfimdpcaoaa
open Go.RowKit

end Go.Proofs.Ytenlhfimdpcaoaa

namespace Go.Proofs.Ytenlhfimdpcaoaa
open Go.RowKit

end Go.Proofs.Ytenlhfimdpcaoaa

namespace Go.Proofs.Ytenlhfimdpcaoaa
open Go.RowKit

end Go.Proofs.Ytenlhfimdpcaoaa

namespace Go.Proofs.Ytenlhfimdpcaoaa
open Go.RowKit

end Go.Proofs.Ytenlhfimdpcaoaa
