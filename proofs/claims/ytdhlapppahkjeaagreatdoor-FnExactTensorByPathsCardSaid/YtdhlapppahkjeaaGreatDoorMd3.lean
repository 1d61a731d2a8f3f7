/-
  Paths read by the program: isWeight, PathOk.
  Cartan matrices, plain: the matrices of types, in whatever order of rows; what the program's search and the reference's search find. No program in sight.
  The library's functions on slices of integers, for slices that read as lists: Contains, Index, Min, Equal.
  Paths read by the reference: l1Same, l5Lattice, l9Time, l9Ok, PathOk.
  A Cartan matrix's value, and the cells of one in a variable of its own.
  Owned slices of steps; append of one owned slice to another one.
  Paths, plain: steps put together, heights, a reflection between two times, lowering and raising. No program in sight.
  Slices of structs of a word and a number each, read.
  Owned slices of rows: read; begun; append of one element, with the new slice's place: where it was, or in a new block.
  Maps from strings that a call makes: what lies at a key is told by a function; stores, lookups, the range over one.
  The text of a list of numbers tells the list: no two lists have one text.
  Counts of words in two maps of a call's own: the words by their text, their numbers by their text; ordered lists of words with numbers.
  The program's counts: two maps of words and numbers, a number added.
  The program's FormatInt and FormatInts, by the library's Itoa and Join.
-/
import Derived.Test.YtdhlapppahkjeaaGreatDoorMd2
import Derived.WalkSmall
import Derived.Lib.AppendIntMem
import Derived.Maps.RangeWalk
import Derived.Maps.OwnOps
import Derived.ArgAppend
import Derived.Deep.QuietTactic
namespace Go.Proofs.YtdhlapppahkjeaaGreatDoor
open Go.RowKit

/-- the library's table of powers lies where its initialiser lays it -/
def Tab (w : World) : Prop := Lib.TabIs Tryz.prog w "internal/strconv.uint64pow10" .u64 Lib.pow10Tab
theorem Tab.below {w w' : World} (h : Tab w) (hx : Ext w w') : Tab w' := by
  unfold Tab Lib.TabIs at *
  cases hg : Tryz.prog.globalNamed "internal/strconv.uint64pow10" with
  | none => unfold World.var? at h; rw [hg] at h; cases h
  | some g =>
    refine var?_below hx hg ?_ h
    unfold World.var? at h
    rw [hg] at h
    simp only [Option.bind_some] at h
    cases hb : w.heap[g]? with
    | none => rw [hb] at h; cases h
    | some o => exact (Array.getElem?_eq_some_iff.1 hb).1

theorem formatInt_any (n : Int) (w : World) (h0 : -9223372036854775808 ≤ n) (h1 : n ≤ 9223372036854775807) (ht : Tab w) :
    Calls Tryz.prog 77 #[.int .i64 n] w fun e w' => e = .returned (.string (str (Lib.itoa n))) ∧ Ext w w' := by
  have HI := hidP (Tryz.strconv_Itoa n h0 h1 w ht)
  clear ht
  go_enter Tryz.func77, Tryz.ntmps77
  go_wp2_with (go_at_call 99; refine HI.out.mono ?_; rintro e w' ⟨rfl, k, os, rfl⟩)
  go_ret
  exact ⟨rfl, Lib.below_grow _ _ (Nat.le_refl _) _ _⟩
def intsS (xs : List Int) : List ByteArray := xs.map fun x => str (Lib.itoa x)
theorem intsS_join (xs : List Int) (sep : List UInt8) : Lib.join ((intsS xs).map (·.data.toList)) sep = Lib.join (xs.map Lib.itoa) sep := by
  congr 1
  simp [intsS, str, Function.comp_def]
theorem intsS_snoc (xs : List Int) (k : Nat) (hk : k < xs.length) : intsS (xs.take (k + 1)) = intsS (xs.take k) ++ [str (Lib.itoa (xs.getD k 0))] := by
  unfold intsS
  rw [List.take_succ_eq_append_getElem hk, List.map_append, getD_lt _ hk]
  rfl
set_option maxRecDepth 100000 in
set_option maxHeartbeats 1000000 in
theorem formatInts_any (a : Option Addr) (n c : Nat) (xs : List Int) (w : World) (h : IntsAt w a n xs) (hs : Small xs) (hn : n ≤ 1048576) (ht : Tab w) :
    Calls Tryz.prog 54 #[.slice a n c] w fun e w' => e = .returned (.string (str (intsT xs))) ∧ Ext w w' := by
  have G := hidP h
  have L := hidP h.len
  have HS := hidP hs
  have HT := hidP ht
  have HM := hidP (OwnS.made w w.heap.size (Nat.le_refl _))
  have HX0 := hidP (Ext.alloc w (.cells #[] 9))
  clear h hs ht
  go_enter Tryz.func54, Tryz.ntmps54
  go_wp2
  go_loopw [3, 9] (fun a b wr => ∃ (k : Nat) (av : Option Addr) (cv : Nat), k ≤ n ∧ a = .slice av k cv ∧ b = .int .i64 k ∧ Hid (OwnS wr w.heap.size av k cv (intsS (xs.take k))) ∧ Hid (Ext w wr)) (fun _ b _ => n - (intOf b).toNat)
  case atStart => exact ⟨0, _, 0, Nat.zero_le _, rfl, rfl, HM, HX0⟩
  case round =>
    clear HM HX0
    obtain ⟨k, av, cv, hk, rfl, rfl, HO, HX⟩ := hrel
    by_cases hlt : k < n
    · obtain ⟨b, o, rfl, q⟩ := (G.out.below HX.out).get k hlt
      have hb := HS.out k (by rw [L.out]; exact hlt)
      have HF := hidP (fun w' (hx : Ext w w') => formatInt_any (xs.getD k 0) w' hb.1 hb.2 (HT.out.below hx))
      have HN := hidP (intsS_snoc xs k (by rw [L.out]; exact hlt))
      generalize xs.getD k 0 = x at *
      clear hb
      go_wp2_with fail
      refine (HF.out _ HX.out).mono ?_
      rintro e w1 ⟨rfl, hx1⟩
      have hx2 := Ext.alloc w1 (.cells #[.string (str (Lib.itoa x))] 9)
      have HX1 := hidP ((HX.out.trans hx1).trans hx2)
      have HO1 := hidP (HO.out.below (hx1.trans hx2))
      have HC := hidP ((cell_top w1 #[.string (str (Lib.itoa x))] 9 w1.heap.size 0 rfl).trans (show _ = some (Value.string (str (Lib.itoa x))) from rfl))
      clear hx1 hx2
      go_wp2_with (at_builtin; refine wpList_append_str rfl (.tmp 13) (.tmp 16) rfl w.heap.size av k cv _ rfl HO1.out w1.heap.size 1 _ rfl HC.out (by omega) HX1.out.size ?_; intro a3 c3 w3 ho3 hg3; have HX3 := hidP (HO1.out.ext hg3 HX1.out (Nat.le_refl _)); have HO3 := hidP ho3; clear ho3 hg3)
      rw [← HN.out] at HO3
      go_roundw
      case rel => exact ⟨k + 1, a3, c3, by omega, rfl, by go_num, HO3, HX3⟩
      case measure => simp [intOf]; omega
    · obtain rfl : k = n := by omega
      have ho := HO.out
      rw [List.take_of_length_le (by rw [L.out]; exact Nat.le_refl _)] at ho
      have hl := ho.len
      obtain ⟨g, rfl, _, hgl, hnc, _, hcl⟩ := ho.form
      have hjl : (Lib.join (xs.map Lib.itoa) [32]).length ≤ k * 22 := by
        have := intsT_length xs HS.out k
        rw [List.take_of_length_le (by rw [L.out]; exact Nat.le_refl _)] at this
        exact this
      have hJ := Tryz.strings_Join g 0 cv (intsS xs) ⟨#[32]⟩ wr hcl hgl (by omega) (by omega) (by rw [intsS_join]; exact Nat.le_trans hjl (by omega))
      rw [hl, intsS_join] at hJ
      have HJ := hidP hJ
      clear hJ hjl hcl ho
      go_wp2_with fail
      refine HJ.out.mono ?_
      rintro e w1 ⟨rfl, hx1⟩
      have HX1 := hidP (HX.out.trans hx1)
      clear hx1
      go_wp2
      go_ret
      exact ⟨rfl, HX1.out⟩
end Go.Proofs.YtdhlapppahkjeaaGreatDoor

namespace Go.Proofs.YtdhlapppahkjeaaGreatDoor
open Go.RowKit

def holdR (v : Value) : Option (DataW Value × List MemPlace) := some (.held v, [])
def keyL (s : ByteArray) : Lit := .string s.data.toList
theorem keyL_inj {s t : ByteArray} (h : keyL s = keyL t) : s = t := by
  simp only [keyL, Lit.string.injEq] at h
  cases s; cases t
  simp only [ByteArray.mk.injEq]
  exact Array.toList_inj.1 h
theorem keyL_key (s : ByteArray) : WideAt.IsKeyLit (keyL s) := trivial
theorem keyL_ne {s t : ByteArray} (h : t ≠ s) : keyL t ≠ keyL s := fun e => h (keyL_inj e)
theorem keyOf_keyL {P : Program} {K : TypeId} (hK : P.underlying K = some .string) {s : ByteArray} (hs : s.size ≤ maxLen) : keyOf P K (.string s) = some (keyL s) := WideMaps.keyOf_string_mk hK hs
theorem keyOf_string_inv2 {P : Program} {k : TypeId} (hk : P.underlying k = some .string) {key : Value} {kl : Lit} (h : keyOf P k key = some kl) : ∃ s, key = .string s ∧ kl = keyL s ∧ s.size ≤ maxLen := by
  cases key <;> simp [keyOf, hk, mapKey] at h
  exact ⟨_, rfl, h.2.symm, h.1⟩

/-- f tells what a map that reads as D has at each key -/
structure ViewS (D : DataW Value) (f : ByteArray → Option Value) : Prop where
  at_ : ∀ s, s.size ≤ maxLen → ∀ v0, D.atKey (keyL s) (.held v0) = .held ((f s).getD v0)
  has_ : ∀ s, s.size ≤ maxLen → Maps.has D (keyL s) = (f s).isSome
/-- block b is a map of at most n entries with f -/
def MapS (w : World) (P : Program) (K : TypeId) (b n : Nat) (f : ByteArray → Option Value) : Prop := ∃ D, w.ownsMap P K holdR b n D ∧ ViewS D f
def putF (f : ByteArray → Option Value) (s : ByteArray) (v : Value) : ByteArray → Option Value := fun t => if t = s then some v else f t
/-- the range over such a map under way: left is what is still to come -/
def RangeS (w : World) (P : Program) (K : TypeId) (b r n : Nat) (f : ByteArray → Option Value) (left : ByteArray → Bool) (cnt : Nat) : Prop :=
  ∃ D lf, w.ranges P K holdR b r n D lf cnt ∧ ViewS D f ∧ ∀ s, s.size ≤ maxLen → lf (keyL s) = left s

variable {P : Program} {K : TypeId} {w w' : World} {b n r cnt : Nat} {f : ByteArray → Option Value} {left : ByteArray → Bool}

theorem MapS.made (w : World) (P : Program) (K : TypeId) : MapS (w.alloc (.map #[] 0)) P K w.heap.size 0 (fun _ => none) :=
  ⟨_, World.ownsMap_made w P K holdR, ⟨fun s _ v0 => by simp [DataW.atKey], fun s _ => by simp [Maps.has]⟩⟩
theorem MapS.lt (h : MapS w P K b n f) : b < w.heap.size := h.choose_spec.1.lt
theorem MapS.isMap (h : MapS w P K b n f) : ∃ es clock, w.heap[b]? = some (.map es clock) := by
  obtain ⟨D, ⟨es, clock, hb, _⟩, _⟩ := h
  exact ⟨es, clock, hb⟩
theorem MapS.kept (h : MapS w P K b n f) {row : Option Nat} (hg : w.grownBy w' row) (hne : some b ≠ row) : MapS w' P K b n f := by
  obtain ⟨D, h1, h2⟩ := h
  exact ⟨D, h1.kept hg hne, h2⟩
theorem MapS.below (h : MapS w P K b n f) (hx : Ext w w') : MapS w' P K b n f :=
  h.kept (row := none) ⟨hx.os, hx.tape, hx.output, hx.size, fun k hk _ => hx.block k hk⟩ (by simp)
theorem MapS.lookup (h : MapS w P K b n f) {T E : TypeId} (hK : P.underlying K = some .string) (hT : P.underlying T = some (.map K E)) {z : Value} (hz : (zeroValue E).run P w = .ok z w)
    {s : ByteArray} (hs : s.size ≤ maxLen) : (Instr.lookup T (.map (some b)) (.string s) false).run P w = .ok ((f s).getD z) w := by
  obtain ⟨D, h1, h2⟩ := h
  obtain ⟨v, ps, hrun, hv⟩ := h1.lookup (Maps.string_keyed hK) hT hz (zd := .held z) (zp := []) rfl (keyOf_keyL hK hs)
  rw [h2.at_ s hs] at hv
  simp only [holdR, Option.some.injEq, Prod.mk.injEq, DataW.held.injEq] at hv
  rw [hrun, hv.1]
theorem MapS.update (h : MapS w P K b n f) {T E : TypeId} (hK : P.underlying K = some .string) (hT : P.underlying T = some (.map K E)) (hn : n < maxLen)
    {s : ByteArray} (hs : s.size ≤ maxLen) (v : Value) : ∃ w', (Instr.mapUpdate T (.map (some b)) (.string s) v).run P w = .ok () w' ∧ MapS w' P K b (n + 1) (putF f s v) ∧ w.grownBy w' (some b) := by
  obtain ⟨D, h1, h2⟩ := h
  obtain ⟨w', hrun, hown, hg⟩ := h1.update (Maps.string_keyed hK) hT hn (keyOf_keyL hK hs) (val := v) (d := .held v) (ps := []) rfl
  have hD : Maps.IsMap D := by
    obtain ⟨es, clock, _, _, _, e⟩ := h1
    exact ⟨_, e⟩
  refine ⟨w', hrun, ⟨_, hown, ⟨fun t ht v0 => ?_, fun t ht => ?_⟩⟩, hg⟩
  · by_cases e : t = s
    · subst e
      rw [Maps.atKey_put_same hD (keyL_key _)]
      simp [putF]
    · rw [Maps.atKey_put_other (keyL_ne e), h2.at_ t ht]
      simp [putF, e]
  · by_cases e : t = s
    · subst e
      rw [Maps.has_put_same hD (keyL_key _)]
      simp [putF]
    · rw [Maps.has_put_other (keyL_ne e), h2.has_ t ht]
      simp [putF, e]

theorem RangeS.mapS (h : RangeS w P K b r n f left cnt) : MapS w P K b n f := by
  obtain ⟨D, lf, h1, h2, _⟩ := h
  exact ⟨D, h1.owns, h2⟩
theorem RangeS.left_eq (h : RangeS w P K b r n f left cnt) : w.rangeLeft b r = cnt := by
  obtain ⟨D, lf, h1, _⟩ := h
  exact h1.left_eq
theorem RangeS.isIter (h : RangeS w P K b r n f left cnt) : ∃ m s seen c, w.heap[r]? = some (.mapIter m s seen c) := by
  obtain ⟨D, lf, ⟨es, clock, since, seen, c0, _, _, _, _, hr, _⟩, _⟩ := h
  exact ⟨_, _, _, _, hr⟩
theorem RangeS.kept (h : RangeS w P K b r n f left cnt) {row : Option Nat} (hg : w.grownBy w' row) (hb : some b ≠ row) (hr : some r ≠ row) : RangeS w' P K b r n f left cnt := by
  obtain ⟨D, lf, h1, h2, h3⟩ := h
  exact ⟨D, lf, h1.kept hg hb hr, h2, h3⟩
theorem RangeS.below (h : RangeS w P K b r n f left cnt) (hx : Ext w w') : RangeS w' P K b r n f left cnt :=
  h.kept (row := none) ⟨hx.os, hx.tape, hx.output, hx.size, fun k hk _ => hx.block k hk⟩ (by simp) (by simp)
theorem MapS.range (h : MapS w P K b n f) {T E : TypeId} (hK : P.underlying K = some .string) (hT : P.underlying T = some (.map K E)) :
    ∃ w' cnt, (Instr.range T (.map (some b))).run P w = .ok (.pointer (some ⟨w.heap.size, 0, none⟩)) w' ∧ RangeS w' P K b w.heap.size n f (fun s => (f s).isSome) cnt ∧ Ext w w' ∧ w'.heap.size = w.heap.size + 1 := by
  obtain ⟨D, h1, h2⟩ := h
  obtain ⟨w', hrun, hr, hg, hsz⟩ := h1.range (Maps.string_keyed hK) hT
  exact ⟨w', _, hrun, ⟨D, _, hr, h2, h2.has_⟩, ⟨hg.os, hg.tape, hg.output, hg.size, fun k hk => hg.block k hk (by simp)⟩, hsz⟩
theorem RangeS.next (h : RangeS w P K b r n f left cnt) (hK : P.underlying K = some .string) (ty : TypeId) :
    (cnt = 0 ∧ (∀ s, s.size ≤ maxLen → left s = false) ∧ (Instr.next (.pointer (some ⟨r, 0, none⟩)) false ty).run P w = .ok (.tuple #[.bool false]) w) ∨
    ∃ s v w' cnt', s.size ≤ maxLen ∧ left s = true ∧ f s = some v ∧ (Instr.next (.pointer (some ⟨r, 0, none⟩)) false ty).run P w = .ok (.tuple #[.bool true, .string s, v]) w' ∧
      RangeS w' P K b r n f (fun t => left t && decide (t ≠ s)) cnt' ∧ cnt' < cnt ∧ w.grownBy w' (some r) ∧ w'.heap.size = w.heap.size ∧ (Instr.entry (.pointer (some ⟨r, 0, none⟩))).run P w' = .ok (.tuple #[.string s, v]) w' := by
  obtain ⟨D, lf, h1, h2, h3⟩ := h
  rcases h1.next (Maps.string_keyed hK) ty with ⟨h0, hl, hrun⟩ | ⟨key, v, kl, y, w', cnt', hkey, hlk, hv, hat, hrun, hrg, hlt, hgr, hsz, hen⟩
  · exact .inl ⟨h0, fun s hs => by rw [← h3 s hs]; exact hl _, hrun⟩
  · obtain ⟨s, rfl, rfl, hs⟩ := keyOf_string_inv2 hK hkey
    simp only [holdR, Option.some.injEq] at hv
    subst hv
    have e1 := hat (.held undef)
    have e2 := hat (.held (.bool true))
    rw [h2.at_ s hs] at e1 e2
    simp only [DataW.held.injEq] at e1 e2
    have hf : f s = some v := by
      cases hfs : f s with
      | some u => rw [hfs] at e1; simpa using e1
      | none =>
        rw [hfs] at e1 e2
        simp only [Option.getD_none] at e1 e2
        rw [← e1] at e2
        cases e2
    refine .inr ⟨s, v, w', cnt', hs, by rw [← h3 s hs]; exact hlk, hf, hrun, ⟨D, _, hrg, h2, fun t ht => ?_⟩, hlt, hgr, hsz, hen⟩
    show (lf (keyL t) && !(keyL t).sameKey (keyL s)) = _
    rw [h3 t ht]
    congr 1
    by_cases e : t = s
    · subst e
      rw [WideAt.sameKey_self (keyL_key _)]
      simp
    · rw [Maps.sameKey_ne (keyL_ne e)]
      simp [e]

section
variable (w : World) {ops : Array Oper} {rest : List Oper} {o : Oper} {a : Act} {Q : Exit → Act → World → Prop}
theorem wpList_lookupS (hg : o.guard = none) (m x : Operand) (T K E : TypeId) (hop : o.op = Op.lookup T m x false) (hK : P.underlying K = some .string) (hT : P.underlying T = some (.map K E)) (z : Value) (hz : (zeroValue E).run P w = .ok z w)
    (b n : Nat) (f : ByteArray → Option Value) (hm : a.eval m = .map (some b)) (h : MapS w P K b n f) (s : ByteArray) (hx : a.eval x = .string s) (hs : s.size ≤ maxLen)
    (hk : wpList P ops Q rest (a.put o.dst ((f s).getD z)) w) : wpList P ops Q (o :: rest) a w := by
  refine wpList_plain hg fun K' hK' => ?_
  unfold Oper.wp
  simp [execOp, hop, hm, hx, h.lookup hK hT hz hs, Result.andThen]
  exact hK' _ _ hk
theorem wpList_updateS (hg : o.guard = none) (m x v : Operand) (T K E : TypeId) (hop : o.op = Op.mapUpdate T m x v) (hK : P.underlying K = some .string) (hT : P.underlying T = some (.map K E))
    (b n : Nat) (f : ByteArray → Option Value) (hm : a.eval m = .map (some b)) (h : MapS w P K b n f) (hn : n < maxLen) (s : ByteArray) (hx : a.eval x = .string s) (hs : s.size ≤ maxLen) (u : Value) (hv : a.eval v = u)
    (hk : ∀ w', MapS w' P K b (n + 1) (putF f s u) → w.grownBy w' (some b) → wpList P ops Q rest (a.put o.dst undef) w') : wpList P ops Q (o :: rest) a w := by
  refine wpList_plain hg fun K' hK' => ?_
  obtain ⟨w', hrun, r1, r2⟩ := h.update hK hT hn hs u
  unfold Oper.wp
  simp [execOp, hop, hm, hx, hv, hrun, Result.andThen]
  exact hK' _ _ (hk w' r1 r2)
theorem wpList_rangeS (hg : o.guard = none) (m : Operand) (T K E : TypeId) (hop : o.op = Op.range T m) (hK : P.underlying K = some .string) (hT : P.underlying T = some (.map K E))
    (b n : Nat) (f : ByteArray → Option Value) (hm : a.eval m = .map (some b)) (h : MapS w P K b n f)
    (hk : ∀ w' cnt, RangeS w' P K b w.heap.size n f (fun s => (f s).isSome) cnt → Ext w w' → w'.heap.size = w.heap.size + 1 → wpList P ops Q rest (a.put o.dst (.pointer (some ⟨w.heap.size, 0, none⟩))) w') : wpList P ops Q (o :: rest) a w := by
  refine wpList_plain hg fun K' hK' => ?_
  obtain ⟨w', cnt, hrun, r1, r2, r3⟩ := h.range hK hT
  unfold Oper.wp
  simp [execOp, hop, hm, hrun, Result.andThen]
  exact hK' _ _ (hk w' cnt r1 r2 r3)
theorem wpList_nextS (hg : o.guard = none) (it : Operand) (hop : o.op = Op.next it false) (K : TypeId) (hK : P.underlying K = some .string) (b r n : Nat) (f : ByteArray → Option Value) (left : ByteArray → Bool) (cnt : Nat)
    (hit : a.eval it = .pointer (some ⟨r, 0, none⟩)) (h : RangeS w P K b r n f left cnt)
    (hDone : cnt = 0 → (∀ s, s.size ≤ maxLen → left s = false) → wpList P ops Q rest (a.put o.dst (.tuple #[.bool false])) w)
    (hMore : ∀ (s : ByteArray) (v : Value) (w' : World) (cnt' : Nat), s.size ≤ maxLen → left s = true → f s = some v → RangeS w' P K b r n f (fun t => left t && decide (t ≠ s)) cnt' → cnt' < cnt →
      w.grownBy w' (some r) → w'.heap.size = w.heap.size → (Instr.entry (.pointer (some ⟨r, 0, none⟩))).run P w' = .ok (.tuple #[.string s, v]) w' → wpList P ops Q rest (a.put o.dst (.tuple #[.bool true, .string s, v])) w') :
    wpList P ops Q (o :: rest) a w := by
  refine wpList_plain hg fun K' hK' => ?_
  unfold Oper.wp
  rcases h.next hK o.type with ⟨h0, hl, hrun⟩ | ⟨s, v, w', cnt', hs, hlk, hv, hrun, hrg, hlt, hgr, hsz, hen⟩
  · simp [execOp, hop, hit, hrun, Result.andThen]
    exact hK' _ _ (hDone h0 hl)
  · simp [execOp, hop, hit, hrun, Result.andThen]
    exact hK' _ _ (hMore s v w' cnt' hs hlk hv hrg hlt hgr hsz hen)
end
end Go.Proofs.YtdhlapppahkjeaaGreatDoor

namespace Go.Proofs.YtdhlapppahkjeaaGreatDoor
open Go.RowKit

def digV (l : List UInt8) : Nat := l.foldl (fun a c => a * 10 + (c.toNat - 48)) 0
theorem digV_snoc (l : List UInt8) (c : UInt8) : digV (l ++ [c]) = digV l * 10 + (c.toNat - 48) := by simp [digV]
theorem digit_nat (d : Nat) (h : d < 10) : (UInt8.ofNat (48 + d)).toNat = 48 + d := by
  rw [UInt8.toNat_ofNat']
  omega
theorem decDigits_facts (u : Nat) : digV (Lib.decDigits u) = u ∧ (∀ c ∈ Lib.decDigits u, 48 ≤ c.toNat) ∧ Lib.decDigits u ≠ [] := by
  induction u using Nat.strongRecOn with
  | _ u ih =>
    rw [Lib.decDigits]
    by_cases h : u < 10
    · rw [dif_pos h]
      refine ⟨?_, fun c hc => ?_, by simp⟩
      · have := digit_nat u h
        simp only [digV, List.foldl_cons, List.foldl_nil, this]
        omega
      · simp only [List.mem_singleton] at hc
        subst hc
        rw [digit_nat u h]
        omega
    · rw [dif_neg h]
      obtain ⟨h1, h2, h3⟩ := ih (u / 10) (by omega)
      refine ⟨?_, fun c hc => ?_, by simp⟩
      · rw [digV_snoc, h1, digit_nat (u % 10) (by omega)]
        omega
      · rcases List.mem_append.1 hc with hc | hc
        · exact h2 c hc
        · simp only [List.mem_singleton] at hc
          subst hc
          rw [digit_nat (u % 10) (by omega)]
          omega
theorem decDigits_inj {u v : Nat} (h : Lib.decDigits u = Lib.decDigits v) : u = v := by
  have := congrArg digV h
  rwa [(decDigits_facts u).1, (decDigits_facts v).1] at this
theorem itoa_inj {m n : Int} (h : Lib.itoa m = Lib.itoa n) : m = n := by
  have key : ∀ u v : Nat, 45 :: Lib.decDigits u ≠ Lib.decDigits v := by
    intro u v e
    have := (decDigits_facts v).2.1 45 (by rw [← e]; simp)
    simp at this
  unfold Lib.itoa at h
  split at h <;> split at h
  · simp only [List.cons.injEq, true_and] at h
    have := decDigits_inj h
    omega
  · exact absurd h (key _ _)
  · exact absurd h.symm (key _ _)
  · have := decDigits_inj h
    omega
theorem itoa_no32 (n : Int) : ∀ c ∈ Lib.itoa n, c ≠ 32 := by
  intro c hc e
  subst e
  unfold Lib.itoa at hc
  split at hc
  · simp only [List.mem_cons] at hc
    rcases hc with hc | hc
    · simp at hc
    · have := (decDigits_facts _).2.1 _ hc
      simp at this
  · have := (decDigits_facts _).2.1 _ hc
    simp at this
theorem itoa_ne (n : Int) : Lib.itoa n ≠ [] := by
  unfold Lib.itoa
  split
  · simp
  · exact (decDigits_facts _).2.2
theorem cut_eq {s : UInt8} : ∀ {a b A B : List UInt8}, (∀ c ∈ a, c ≠ s) → (∀ c ∈ b, c ≠ s) → (A = [] ∨ ∃ r, A = s :: r) → (B = [] ∨ ∃ r, B = s :: r) → a ++ A = b ++ B → a = b ∧ A = B
  | [], [], A, B, _, _, _, _, h => ⟨rfl, by simpa using h⟩
  | [], y :: b, A, B, _, hb, hA, _, h => by
    rcases hA with rfl | ⟨r, rfl⟩
    · simp at h
    · simp only [List.nil_append, List.cons_append, List.cons.injEq] at h
      exact absurd h.1.symm (hb y (by simp))
  | x :: a, [], A, B, ha, _, _, hB, h => by
    rcases hB with rfl | ⟨r, rfl⟩
    · simp at h
    · simp only [List.nil_append, List.cons_append, List.cons.injEq] at h
      exact absurd h.1 (ha x (by simp))
  | x :: a, y :: b, A, B, ha, hb, hA, hB, h => by
    simp only [List.cons_append, List.cons.injEq] at h
    obtain ⟨e1, e2⟩ := cut_eq (fun c hc => ha c (by simp [hc])) (fun c hc => hb c (by simp [hc])) hA hB h.2
    exact ⟨by rw [h.1, e1], e2⟩
theorem joinTail_begins (s : UInt8) (r : List (List UInt8)) : Lib.joinTail [s] r = [] ∨ ∃ t, Lib.joinTail [s] r = s :: t := by
  cases r with
  | nil => exact .inl rfl
  | cons x r => exact .inr ⟨x ++ Lib.joinTail [s] r, by simp [Lib.joinTail]⟩
theorem joinTail_inj : ∀ {xs ys : List Int}, Lib.joinTail [32] (xs.map Lib.itoa) = Lib.joinTail [32] (ys.map Lib.itoa) → xs = ys
  | [], [], _ => rfl
  | [], y :: ys, h => by simp [Lib.joinTail] at h
  | x :: xs, [], h => by simp [Lib.joinTail] at h
  | x :: xs, y :: ys, h => by
    have e : ∀ (z : Int) (zs : List Int), Lib.joinTail [32] ((z :: zs).map Lib.itoa) = 32 :: (Lib.itoa z ++ Lib.joinTail [32] (zs.map Lib.itoa)) := fun z zs => by simp [Lib.joinTail]
    rw [e, e] at h
    simp only [List.cons.injEq, true_and] at h
    obtain ⟨h1, h2⟩ := cut_eq (itoa_no32 x) (itoa_no32 y) (joinTail_begins _ _) (joinTail_begins _ _) h
    rw [itoa_inj h1, joinTail_inj h2]
theorem intsT_inj {xs ys : List Int} (h : intsT xs = intsT ys) : xs = ys := by
  unfold intsT at h
  match xs, ys with
  | [], [] => rfl
  | [], y :: ys =>
    rw [List.map_cons, Lib.join_cons] at h
    have := congrArg List.length h
    simp only [List.map_nil, Lib.join_nil, List.length_nil, List.length_append] at this
    have := itoa_ne y
    exact absurd (List.length_eq_zero_iff.1 (by omega)) this
  | x :: xs, [] =>
    rw [List.map_cons, Lib.join_cons] at h
    have := congrArg List.length h
    simp only [List.map_nil, Lib.join_nil, List.length_nil, List.length_append] at this
    have := itoa_ne x
    exact absurd (List.length_eq_zero_iff.1 (by omega)) this
  | x :: xs, y :: ys =>
    rw [List.map_cons, List.map_cons, Lib.join_cons, Lib.join_cons] at h
    obtain ⟨h1, h2⟩ := cut_eq (itoa_no32 x) (itoa_no32 y) (joinTail_begins _ _) (joinTail_begins _ _) h
    rw [itoa_inj h1, joinTail_inj h2]
/-- the key of a list of numbers in the program's maps -/
def keyI (xs : List Int) : ByteArray := str (intsT xs)
theorem keyI_inj {xs ys : List Int} (h : keyI xs = keyI ys) : xs = ys := by
  unfold keyI str at h
  simp only [ByteArray.mk.injEq] at h
  apply intsT_inj
  have := congrArg Array.toList h
  simpa using this
end Go.Proofs.YtdhlapppahkjeaaGreatDoor

namespace Go.Proofs.YtdhlapppahkjeaaGreatDoor
open Go.RowKit

/-! ### ordered lists -/
structure Ord (R : List Int → List Int → Prop) : Prop where
  irr : ∀ x, ¬ R x x
  tr : ∀ {x y z}, R x y → R y z → R x z
  tot : ∀ {x y}, x ≠ y → R x y ∨ R y x
abbrev Tm : Type := List Int × Int
def Ordered (R : List Int → List Int → Prop) (l : List Tm) : Prop := l.Pairwise fun x y => R x.1 y.1
theorem ordered_unique {R : List Int → List Int → Prop} (O : Ord R) : ∀ {l m : List Tm}, Ordered R l → Ordered R m → (∀ p, p ∈ l ↔ p ∈ m) → l = m
  | [], [], _, _, _ => rfl
  | [], y :: m, _, _, h => absurd ((h y).2 (by simp)) (by simp)
  | x :: l, [], _, _, h => absurd ((h x).1 (by simp)) (by simp)
  | x :: l, y :: m, hl, hm, h => by
    obtain ⟨l1, l2⟩ := List.pairwise_cons.1 hl
    obtain ⟨m1, m2⟩ := List.pairwise_cons.1 hm
    have e : x = y := by
      rcases List.mem_cons.1 ((h x).1 (by simp)) with e | hx
      · exact e
      · rcases List.mem_cons.1 ((h y).2 (by simp)) with e | hy
        · exact e.symm
        · exact absurd (O.tr (m1 x hx) (l1 y hy)) (O.irr _)
    subst e
    refine congrArg (x :: ·) (ordered_unique O l2 m2 fun p => ⟨fun hp => ?_, fun hp => ?_⟩)
    · rcases List.mem_cons.1 ((h p).1 (by simp [hp])) with e | hp'
      · subst e; exact absurd (l1 p hp) (O.irr _)
      · exact hp'
    · rcases List.mem_cons.1 ((h p).2 (by simp [hp])) with e | hp'
      · subst e; exact absurd (m1 p hp) (O.irr _)
      · exact hp'
/-- the list has just the words whose number is not 0 -/
def Tells (g : List Int → Int) (T : List Tm) : Prop := ∀ x c, (x, c) ∈ T ↔ g x = c ∧ c ≠ 0

theorem lexC_less (xs ys : List Int) : lexC xs ys < 0 ↔ xs < ys := by
  induction xs generalizing ys with
  | nil => cases ys with
    | nil => simp [lexC]
    | cons y ys => simp [lexC]
  | cons x xs ih =>
    cases ys with
    | nil => simp [lexC]
    | cons y ys =>
      rw [List.cons_lt_cons_iff]
      simp only [lexC]
      rcases Int.lt_trichotomy x y with h | h | h
      · simp [cmpI, h]
      · subst h
        simp [cmpI_self, ih]
      · have hx : ¬ x < y := by omega
        have hne : x ≠ y := by omega
        simp [cmpI, hx, h, hne]
/-- x stands ahead of y in a falling list -/
def Above (x y : List Int) : Prop := lexC y x < 0
theorem above_ord : Ord Above where
  irr x := by unfold Above; rw [lexC_less]; exact List.lt_irrefl x
  tr h1 h2 := by unfold Above at *; rw [lexC_less] at *; exact List.lt_trans h2 h1
  tot {x y} hne := by
    unfold Above
    by_cases h : lexC y x < 0
    · exact .inl h
    · refine .inr ?_
      rw [lexC_less] at *
      have := List.not_lt.1 h
      rcases List.le_iff_lt_or_eq.1 this with h2 | h2
      · exact h2
      · exact absurd h2 hne

/-! ### worlds in which two maps turn -/
structure ExtM (b1 b2 : Nat) (w w' : World) : Prop where
  os : w'.os = w.os
  tape : w'.tape = w.tape
  output : w'.output = w.output
  size : w.heap.size ≤ w'.heap.size
  block : ∀ k, k < w.heap.size → k ≠ b1 → k ≠ b2 → w'.heap[k]? = w.heap[k]?
def IsMapAt (w : World) (b : Nat) : Prop := ∃ es clock, w.heap[b]? = some (.map es clock)
theorem ExtM.trans {b1 b2 : Nat} {u v w : World} (h : ExtM b1 b2 u v) (k : ExtM b1 b2 v w) : ExtM b1 b2 u w :=
  ⟨k.os.trans h.os, k.tape.trans h.tape, k.output.trans h.output, Nat.le_trans h.size k.size, fun i hi h1 h2 => (k.block i (Nat.lt_of_lt_of_le hi h.size) h1 h2).trans (h.block i hi h1 h2)⟩
theorem ExtM.of_ext {b1 b2 : Nat} {w w' : World} (h : Ext w w') : ExtM b1 b2 w w' := ⟨h.os, h.tape, h.output, h.size, fun k hk _ _ => h.block k hk⟩
theorem ExtM.of_left {b1 b2 : Nat} {w w' : World} (h : w.grownBy w' (some b1)) : ExtM b1 b2 w w' := ⟨h.os, h.tape, h.output, h.size, fun k hk h1 _ => h.block k hk (by simpa using h1)⟩
theorem ExtM.of_right {b1 b2 : Nat} {w w' : World} (h : w.grownBy w' (some b2)) : ExtM b1 b2 w w' := ⟨h.os, h.tape, h.output, h.size, fun k hk _ h2 => h.block k hk (by simpa using h2)⟩
theorem ExtM.below {b1 b2 B : Nat} {w0 w w' : World} (h : ExtM b1 b2 w w') (hb : Below B w0 w) (h1 : B ≤ b1) (h2 : B ≤ b2) (hB : B ≤ w.heap.size) : Below B w0 w' :=
  ⟨h.os.trans hb.os, h.tape.trans hb.tape, h.output.trans hb.output, Nat.le_trans hb.size h.size, fun k hk => (h.block k (by omega) (by omega) (by omega)).trans (hb.block k hk)⟩
theorem cell_not_map {w : World} {b : Nat} (h : IsMapAt w b) {p : Addr} {v : Value} (hc : w.cell? p = some v) : p.block ≠ b := by
  obtain ⟨es, clock, hb⟩ := h
  intro e
  subst e
  simp [World.cell?, hb] at hc
theorem ExtM.cell {b1 b2 : Nat} {w w' : World} (h : ExtM b1 b2 w w') (m1 : IsMapAt w b1) (m2 : IsMapAt w b2) {p : Addr} {v : Value} (hc : w.cell? p = some v) : w'.cell? p = some v := by
  rw [← hc]
  exact World.cell?_of_block (h.block _ (World.block_lt_of_cell? w p hc) (cell_not_map m1 hc) (cell_not_map m2 hc))
theorem IntsAt.extM {b1 b2 : Nat} {w w' : World} {a : Option Addr} {n : Nat} {xs : List Int} (hi : IntsAt w a n xs) (h : ExtM b1 b2 w w') (m1 : IsMapAt w b1) (m2 : IsMapAt w b2) : IntsAt w' a n xs := by
  refine ⟨hi.len, fun i hi' => ?_⟩
  obtain ⟨b, o, e, hc⟩ := hi.get i hi'
  exact ⟨b, o, e, h.cell m1 m2 hc⟩

/-! ### the two maps -/
def KeyOk (x : List Int) : Prop := Small x ∧ x.length ≤ 1000
theorem KeyOk.size {x : List Int} (h : KeyOk x) : (keyI x).size ≤ maxLen := by
  unfold keyI
  rw [str_size]
  have := intsT_length x h.1 x.length
  rw [List.take_length] at this
  have := h.2
  unfold maxLen
  omega
structure WordAt (w : World) (f1 : ByteArray → Option Value) (s : ByteArray) : Prop where
  ex : ∃ x a c, KeyOk x ∧ s = keyI x ∧ f1 s = some (.slice a x.length c) ∧ IntsAt w a x.length x ∧ (a = none → c = 0)
structure Counts (w : World) (b1 b2 n : Nat) (g : List Int → Int) (f1 f2 : ByteArray → Option Value) : Prop where
  ne : b1 ≠ b2
  m1 : MapS w Tryz.prog 9 b1 n f1
  m2 : MapS w Tryz.prog 9 b2 n f2
  num : ∀ x, KeyOk x → (f2 (keyI x)).getD (.int .i64 0) = .int .i64 (g x)
  word : ∀ s, (f1 s).isSome = true → WordAt w f1 s
  has : ∀ x, g x ≠ 0 → (f1 (keyI x)).isSome = true
def addG (g : List Int → Int) (x : List Int) (c : Int) : List Int → Int := fun y => if y = x then g x + c else g y

theorem MapS.is {w : World} {K : TypeId} {P : Program} {b n : Nat} {f : ByteArray → Option Value} (h : MapS w P K b n f) : IsMapAt w b := h.isMap
theorem Counts.below {w w' : World} {b1 b2 n : Nat} {g : List Int → Int} {f1 f2 : ByteArray → Option Value} (h : Counts w b1 b2 n g f1 f2) (hx : Ext w w') : Counts w' b1 b2 n g f1 f2 :=
  ⟨h.ne, h.m1.below hx, h.m2.below hx, h.num, fun s hs => by
    obtain ⟨x, a, c, h1, h2, h3, h4, h5⟩ := (h.word s hs).ex
    exact ⟨x, a, c, h1, h2, h3, h4.below hx, h5⟩, h.has⟩
theorem Counts.made (w : World) : Counts ((w.alloc (.map #[] 0)).alloc (.map #[] 0)) w.heap.size (w.heap.size + 1) 0 (fun _ => 0) (fun _ => none) (fun _ => none) := by
  refine ⟨by omega, (MapS.made w _ _).below (Ext.alloc _ _), ?_, fun x _ => rfl, fun s hs => by simp at hs, fun x hx => absurd rfl hx⟩
  have := MapS.made (w.alloc (.map #[] 0)) Tryz.prog 9
  simpa using this
theorem putF_same (f : ByteArray → Option Value) (s : ByteArray) (v : Value) : putF f s v s = some v := by simp [putF]
theorem putF_other (f : ByteArray → Option Value) {s t : ByteArray} (v : Value) (h : t ≠ s) : putF f s v t = f t := by simp [putF, h]
/-- what the two stores of a number leave -/
theorem Counts.stored {w w1 w2 : World} {b1 b2 n : Nat} {g : List Int → Int} {f1 f2 : ByteArray → Option Value} (h : Counts w b1 b2 n g f1 f2) {x : List Int} (hk : KeyOk x) {a : Option Addr} {c : Nat} (hi : IntsAt w a x.length x) (ha : a = none → c = 0) {d : Int}
    (hm1 : MapS w1 Tryz.prog 9 b1 (n + 1) (putF f1 (keyI x) (.slice a x.length c))) (hg1 : w.grownBy w1 (some b1))
    (hm2 : MapS w2 Tryz.prog 9 b2 (n + 1) (putF f2 (keyI x) (.int .i64 d))) (hg2 : w1.grownBy w2 (some b2)) :
    Counts w2 b1 b2 (n + 1) (fun y => if y = x then d else g y) (putF f1 (keyI x) (.slice a x.length c)) (putF f2 (keyI x) (.int .i64 d)) := by
  have hx : ExtM b1 b2 w w2 := (ExtM.of_left hg1).trans (ExtM.of_right hg2)
  have hc : ∀ {a : Option Addr} {n : Nat} {xs : List Int}, IntsAt w a n xs → IntsAt w2 a n xs := fun h' => h'.extM hx h.m1.is h.m2.is
  refine ⟨h.ne, hm1.kept hg2 (by simpa using h.ne), hm2, fun y hy => ?_, fun s hs => ?_, fun y hy => ?_⟩
  · by_cases e : y = x
    · subst e
      rw [putF_same]
      simp
    · rw [putF_other _ _ (fun e' => e (keyI_inj e')), h.num y hy, if_neg e]
  · by_cases e : s = keyI x
    · subst e
      exact ⟨x, a, c, hk, rfl, putF_same _ _ _, hc hi, ha⟩
    · rw [putF_other _ _ e] at hs
      obtain ⟨y, a', c', h1, h2, h3, h4, h5⟩ := (h.word s hs).ex
      exact ⟨y, a', c', h1, h2, by rw [putF_other _ _ e]; exact h3, hc h4, h5⟩
  · by_cases e : y = x
    · subst e
      rw [putF_same]
      rfl
    · rw [putF_other _ _ (fun e' => e (keyI_inj e'))]
      exact h.has y (by simpa [e] using hy)
end Go.Proofs.YtdhlapppahkjeaaGreatDoor

namespace Go.Proofs.YtdhlapppahkjeaaGreatDoor
open Go.RowKit

abbrev cntV (b1 b2 : Nat) : Value := .agg #[.map (some b1), .map (some b2)]
theorem zero_int (w : World) : (zeroValue 3).run Tryz.prog w = .ok (.int .i64 0) w := by kernel_rfl
/-- the two maps in a variable -/
structure CntAt (w : World) (b b1 b2 : Nat) : Prop where
  c0 : w.cell? ⟨b, 0, none⟩ = some (.map (some b1))
  c1 : w.cell? ⟨b, 1, none⟩ = some (.map (some b2))
theorem CntAt.new (w : World) (b : Nat) (hb : b = w.heap.size) (b1 b2 : Nat) (E : TypeId) : CntAt (w.alloc (.cells #[.map (some b1), .map (some b2)] E)) b b1 b2 :=
  ⟨(cell_top _ _ _ _ _ hb).trans rfl, (cell_top _ _ _ _ _ hb).trans rfl⟩
theorem CntAt.below {w w' : World} {b b1 b2 : Nat} (h : CntAt w b b1 b2) (hb : Ext w w') : CntAt w' b b1 b2 :=
  have hl := World.block_lt_of_cell? w _ h.c0
  ⟨(hb.cell (p := ⟨b, 0, none⟩) hl).trans h.c0, (hb.cell (p := ⟨b, 1, none⟩) hl).trans h.c1⟩
theorem CntAt.extM {w w' : World} {b b1 b2 : Nat} (h : CntAt w b b1 b2) (hx : ExtM b1 b2 w w') (m1 : IsMapAt w b1) (m2 : IsMapAt w b2) : CntAt w' b b1 b2 :=
  ⟨hx.cell m1 m2 h.c0, hx.cell m1 m2 h.c1⟩

set_option maxHeartbeats 1000000 in
theorem newCounts_any (w : World) : Calls Tryz.prog 24 #[] w fun e w' => ∃ b, e = .returned (cntV b (b + 1)) ∧ Counts w' b (b + 1) 0 (fun _ => 0) (fun _ => none) (fun _ => none) ∧ w.heap.size ≤ b ∧ Ext w w' := by
  have hmm := @run_makeMap Tryz.prog
  go_enter Tryz.func24, Tryz.ntmps24
  have hxc := Ext.alloc w (.cells #[.map (some (w.heap.size + 1)), .map (some (w.heap.size + 1 + 1))] 51)
  have hm := Counts.made (w.alloc (.cells #[.map (some (w.heap.size + 1)), .map (some (w.heap.size + 1 + 1))] 51))
  have hx2 := (hxc.trans (Ext.alloc _ (.map #[] 0))).trans (Ext.alloc _ (.map #[] 0))
  have hc := CntAt.new w _ rfl (w.heap.size + 1) (w.heap.size + 1 + 1) 51
  have hc2 := (hc.below (Ext.alloc _ (.map #[] 0))).below (Ext.alloc _ (.map #[] 0))
  rw [show (w.alloc (.cells #[.map (some (w.heap.size + 1)), .map (some (w.heap.size + 1 + 1))] 51)).heap.size = w.heap.size + 1 by simp] at hm
  go_wp2
  refine bodyPost_ret (v := cntV (w.heap.size + 1) (w.heap.size + 1 + 1)) (by simp [results, Tryz.results24, go_sem, hc2.c0, hc2.c1]) rfl ⟨_, rfl, hm, by omega, hx2⟩
set_option maxRecDepth 100000 in
set_option maxHeartbeats 2000000 in
theorem cntAdd_any (b1 b2 n : Nat) (g : List Int → Int) (f1 f2 : ByteArray → Option Value) (a : Option Addr) (m c : Nat) (x : List Int) (d : Int) (w : World) (hC : Counts w b1 b2 n g f1 f2) (hk : KeyOk x) (hi : IntsAt w a m x) (ha : a = none → c = 0)
    (hn : n ≤ 1000000000) (hr0 : -9223372036854775808 ≤ g x + d) (hr1 : g x + d ≤ 9223372036854775807) (ht : Tab w) :
    Calls Tryz.prog 27 #[cntV b1 b2, .slice a m c, .int .i64 d] w fun e w' => e = .returned (.tuple #[]) ∧ (∃ f1' f2', Counts w' b1 b2 (n + 1) (addG g x d) f1' f2') ∧ ExtM b1 b2 w w' := by
  obtain rfl : m = x.length := hi.len.symm
  have hxa := Ext.alloc w (.cells #[.map (some b1), .map (some b2)] 51)
  have HC := hidP (hC.below hxa)
  have HI := hidP (hi.below hxa)
  have HA := hidP (CntAt.new w _ rfl b1 b2 51)
  have HK := hidP hk
  have HN := hidP ha
  have HF := hidP (formatInts_any a x.length c x _ (hi.below hxa) hk.1 (by have := hk.2; omega) (ht.below hxa))
  have HX := hidP hxa
  clear hxa hC hi hk ha ht
  go_enter Tryz.func27, Tryz.ntmps27
  go_wp2_with fail
  refine HF.out.mono ?_
  rintro e w1 ⟨rfl, hx1⟩
  have HX1 := hidP hx1
  have HC1 := hidP (HC.out.below hx1)
  have HI1 := hidP (HI.out.below hx1)
  have HA1 := hidP (HA.out.below hx1)
  obtain ⟨f0, f1'⟩ := HA1.out
  clear hx1 HF
  have hks := HK.out.size
  have HW := hidP (HC1.out.num x HK.out)
  go_wp2_with (first | (at_mapUpdate; refine wpList_updateS _ rfl _ _ _ 48 9 22 rfl Tryz.underlying9 Tryz.underlying48 b1 n f1 rfl HC1.out.m1 (by unfold maxLen; omega) (keyI x) rfl hks (.slice a x.length c) rfl ?_; intro w2 hm2 hg2; have q1 := (ExtM.of_left (b2 := b2) hg2).cell HC1.out.m1.is HC1.out.m2.is f1'; have HM2 := hidP hm2; have HG2 := hidP hg2; have HL2 := hidP (HC1.out.m2.kept hg2 (by simpa using HC1.out.ne.symm)); clear hm2 hg2) | (at_lookup; refine wpList_lookupS _ rfl _ _ 49 9 3 rfl Tryz.underlying9 Tryz.underlying49 (.int .i64 0) (zero_int _) b2 n f2 rfl HL2.out (keyI x) rfl hks ?_; rw [HW.out]) | (at_mapUpdate; refine wpList_updateS _ rfl _ _ _ 49 9 3 rfl Tryz.underlying9 Tryz.underlying49 b2 n f2 rfl HL2.out (by unfold maxLen; omega) (keyI x) rfl hks (.int .i64 (g x + d)) rfl ?_; intro w3 hm3 hg3; have HM3 := hidP hm3; have HG3 := hidP hg3; clear hm3 hg3) | fail)
  go_end0
  have hst := HC1.out.stored HK.out HI1.out HN.out HM2.out HG2.out HM3.out HG3.out
  exact ⟨rfl, ⟨_, _, hst⟩, ((ExtM.of_ext HX.out).trans (ExtM.of_ext HX1.out)).trans ((ExtM.of_left HG2.out).trans (ExtM.of_right HG3.out))⟩
end Go.Proofs.YtdhlapppahkjeaaGreatDoor

namespace Go.Proofs.YtdhlapppahkjeaaGreatDoor
open Go.RowKit

/-- a new slice without elements -/
theorem OwnK.made0 {α : Type} (K : Knd α) (w : World) : OwnK K (w.alloc (.cells #[] K.E)) w.heap.size (w.alloc (.cells #[] K.E)).heap.size (some ⟨w.heap.size, 0, none⟩) 0 0 [] [] := by
  refine ⟨⟨by simp [Knd.all], .inr ⟨w.heap.size, 0, #[], rfl, Nat.le_refl _, heap_alloc_new _ _, Nat.le_refl _, by unfold maxLen; omega, by simp, by simp [Knd.all]⟩⟩, rfl, rfl, fun i h => by omega, fun i j h => by omega, fun i h => by omega, fun b o e => ?_⟩
  simp only [Option.some.injEq, Addr.mk.injEq, and_true] at e
  simp [← e.1]

/-- the step 'append(rows, row)', row new -/
theorem OwnK.below_grown {α : Type} {K : Knd α} {w w' w0 : World} {B U : Nat} {a : Option Addr} {n c : Nat} {hs : List Hdr} {xs : List α} (h : OwnK K w B U a n c hs xs) (hg : w.grownBy w' (Value.slice a n c).ownBlock) (hb : Below B w0 w) (hB : B ≤ w.heap.size) : Below B w0 w' := by
  refine Below.grown hb hg hB fun k hk => ?_
  rcases h.form with ⟨rfl, _⟩ | ⟨g, cur, rfl, hBg, _⟩
  · simp [Value.ownBlock] at hk
  · simp [Value.ownBlock] at hk
    subst hk
    exact hBg

variable {α : Type}

/-- a' is a, or lies in a block from N on -/
def OrNew (N : Nat) (a a' : Option Addr) : Prop := a' = a ∨ ∀ b o, a' = some ⟨b, o, none⟩ → N ≤ b

theorem OwnK.snoc_of {K : Knd α} {w w' : World} {B U : Nat} {a : Option Addr} {n c : Nat} {hs : List Hdr} {xs : List α} (hown : OwnK K w B U a n c hs xs) {v' : Value} {h1 : Hdr} {x1 : α}
    (hr : w'.ownsRow B K.E K.size v' (n + 1) (K.all hs xs ++ K.cells h1.1 h1.2 x1)) (hg : w.grownBy w' (Value.slice a n c).ownBlock)
    (hi1 : OwnI w B h1.1 (K.ints x1).length h1.2 (K.ints x1)) (hap : ∀ i, i < n → Apart (hs.getD i (none, 0)).1 h1.1) (hfar : Apart a h1.1) :
    ∃ a' c', v' = .slice a' (n + 1) c' ∧ OwnK K w' B w'.heap.size a' (n + 1) c' (hs ++ [h1]) (xs ++ [x1]) := by
  rw [← K.all_snoc hs xs (hown.hl.trans hown.xl.symm)] at hr
  obtain ⟨a', c', rfl⟩ : ∃ a' c', v' = .slice a' (n + 1) c' := by
    rcases hr.2 with ⟨_, h0⟩ | ⟨g', cap, cur, he, _⟩
    · omega
    · exact ⟨_, _, he⟩
  refine ⟨a', c', rfl, ?_⟩
  have hxl := hown.xl
  have hhl := hown.hl
  have gd : ∀ {β : Type} (l : List β) (i : Nat) (x d : β), i < l.length → (l ++ [x]).getD i d = l.getD i d := fun l i x d hi => by simp [List.getD_eq_getElem?_getD, List.getElem?_append_left hi]
  have gl : ∀ {β : Type} (l : List β) (x d : β), (l ++ [x]).getD l.length d = x := fun l x d => by simp [List.getD_eq_getElem?_getD]
  have hne : ∀ q, q < n → ∀ b o, (hs.getD q (none, 0)).1 = some ⟨b, o, none⟩ → some b ≠ (Value.slice a n c).ownBlock := fun q hq b o e => by
    rcases hown.form with ⟨rfl, _⟩ | ⟨g', cur, rfl, _⟩
    · simp [Value.ownBlock]
    · have := hown.far q hq g' 0 b o rfl e
      simp only [Value.ownBlock, ne_eq, Option.some.injEq]
      omega
  have hne1 : ∀ b o, h1.1 = some ⟨b, o, none⟩ → some b ≠ (Value.slice a n c).ownBlock := fun b o e => by
    rcases hown.form with ⟨rfl, _⟩ | ⟨g', cur, rfl, _⟩
    · simp [Value.ownBlock]
    · have := hfar g' 0 b o rfl e
      simp only [Value.ownBlock, ne_eq, Option.some.injEq]
      omega
  have hev : ∀ q, q < n + 1 → OwnI w' B ((hs ++ [h1]).getD q (none, 0)).1 (K.ints ((xs ++ [x1]).getD q K.dft)).length ((hs ++ [h1]).getD q (none, 0)).2 (K.ints ((xs ++ [x1]).getD q K.dft)) := fun q hq => by
    rcases Nat.lt_succ_iff_lt_or_eq.1 hq with h3 | rfl
    · rw [gd _ _ _ _ (by omega), gd _ _ _ _ (by omega)]
      exact (hown.each q h3).grown hg fun b o e => hne q h3 b o e
    · have e1 : (hs ++ [h1]).getD q (none, 0) = h1 := by rw [← hhl]; exact gl _ _ _
      have e2 : (xs ++ [x1]).getD q K.dft = x1 := by rw [← hxl]; exact gl _ _ _
      rw [e1, e2]
      exact hi1.grown hg fun b o e => hne1 b o e
  refine ⟨hr, by simp [hhl], by simp [hxl], hev, fun q r hq hr' hqr => ?_, fun q hq b o e => ((hev q hq).at_base b o e).2, fun b o e => ?_⟩
  · rcases Nat.lt_succ_iff_lt_or_eq.1 hq with h3 | rfl
    · rw [gd hs q _ _ (by omega)]
      rcases Nat.lt_succ_iff_lt_or_eq.1 hr' with h4 | rfl
      · rw [gd hs r _ _ (by omega)]; exact hown.apart q r h3 h4 hqr
      · have e1 : (hs ++ [h1]).getD r (none, 0) = h1 := by rw [← hhl]; exact gl _ _ _
        rw [e1]; exact hap q h3
    · have e1 : (hs ++ [h1]).getD q (none, 0) = h1 := by rw [← hhl]; exact gl _ _ _
      rw [e1, gd hs r _ _ (by omega)]
      exact (hap r (by omega)).symm
  · rcases hr.2 with ⟨_, h0⟩ | ⟨g', cap, cur, he, _, hg', _⟩
    · omega
    · simp only [Value.slice.injEq] at he
      rw [e] at he
      simp only [Option.some.injEq, Addr.mk.injEq, and_true] at he
      obtain ⟨⟨rfl, _⟩, _⟩ := he
      exact (Array.getElem?_eq_some_iff.1 hg').1

/-- append of one element, whose cells lie in a new block, to an owned slice of such -/
theorem wpList_append_elem2 {ops : Array Oper} {rest : List Oper} {o : Oper} {av : Act} {Q : Exit → Act → World → Prop} {w : World} (K : Knd α) (T : TypeId) (z : Value) (bytes : Nat) (hgd : o.guard = none) (s x : Operand)
    (ho : o.op = .call { callee := .builtin .append, args := #[s, x], argTypes := #[T, T] }) (hT : Tryz.prog.underlying T = some (.slice K.E)) (hinfo : (Tryz.prog.info? K.E).map (fun i => (i.zero, i.size, i.bytes)) = some (some z, K.size, bytes))
    (hz : z.cells.size = K.size) (hbp : bytes ≤ 1000)
    (B U : Nat) (a : Option Addr) (n c : Nat) (hs : List Hdr) (xs : List α) (hsv : av.eval s = .slice a n c) (hown : OwnK K w B U a n c hs xs)
    (g m : Nat) (h1 : Hdr) (x1 : α) (hx : av.eval x = .slice (some ⟨g, 0, none⟩) 1 m) (hcl : ∀ j, j < K.size → w.cell? ⟨g, j, none⟩ = (K.cells h1.1 h1.2 x1)[j]?)
    (hi1 : OwnI w B h1.1 (K.ints x1).length h1.2 (K.ints x1)) (hap : ∀ i, i < n → Apart (hs.getD i (none, 0)).1 h1.1) (hfar : Apart a h1.1) (hsm : n ≤ 1000000000) (hB : B ≤ w.heap.size)
    (h : ∀ a' c' w', OwnK K w' B w'.heap.size a' (n + 1) c' (hs ++ [h1]) (xs ++ [x1]) → w.grownBy w' (Value.slice a n c).ownBlock → OrNew w.heap.size a a' → wpList Tryz.prog ops Q rest (av.put o.dst (.slice a' (n + 1) c')) w') : wpList Tryz.prog ops Q (o :: rest) av w := by
  obtain ⟨i, hi, hz0, hz1, hz2⟩ := info_parts hinfo
  have hcells : ∀ j u, (K.cells h1.1 h1.2 x1)[j]? = some u → w.cell? ((⟨g, 0, none⟩ : Addr).add j) = some u := by
    intro j u hu
    have hj : j < K.size := by have := (List.getElem?_eq_some_iff.1 hu).1; rwa [K.len] at this
    rw [add_none, Nat.zero_add, hcl j hj]
    exact hu
  by_cases hroom : n + 1 ≤ c
  · rcases hown.form with ⟨_, _, h0⟩ | ⟨g0, cur, rfl, _⟩
    · omega
    · refine wpList_append_fits w hgd s x T ho B K.E i K.size hT hi hz1 g0 n c (K.all hs xs) hsv hown.row ⟨g, 0, none⟩ 1 m (K.cells h1.1 h1.2 x1) hx (by rw [K.len, Nat.one_mul]) hcells (K.one _ _ _) hroom ?_
      intro w' hr hg
      obtain ⟨a', c', e, hk⟩ := hown.snoc_of hr hg hi1 hap hfar
      simp only [Value.slice.injEq] at e
      obtain ⟨rfl, _, rfl⟩ := e
      exact h _ _ w' hk hg (.inl rfl)
  · have hlx := K.all_length hs xs (hown.hl.trans hown.xl.symm)
    rw [hown.xl] at hlx
    refine wpList_append_grows w hgd s x T ho K.E i z K.size bytes hT hi hz0 hz1 hz2 hz K.pos a n c (K.all hs xs) hsv ?_ hlx ?_ ⟨g, 0, none⟩ 1 m (K.cells h1.1 h1.2 x1) hx (by rw [K.len, Nat.one_mul]) hcells (K.one _ _ _) (by omega) (by unfold maxLen; omega)
      (by calc (n + 1) * bytes ≤ 1000000001 * 1000 := Nat.mul_le_mul (by omega) hbp
            _ ≤ _ := by omega) ?_
    · intro e
      rcases hown.form with ⟨_, h1, h2⟩ | ⟨g0, cur, e2, _⟩
      · exact ⟨h1, h2⟩
      · rw [e] at e2; cases e2
    · intro b e j u hu
      rcases hown.form with ⟨e2, _⟩ | ⟨g0, cur, e2, _⟩
      · rw [e] at e2; cases e2
      · rw [e] at e2
        simp only [Option.some.injEq] at e2
        subst e2
        have hj : j < n * K.size := by have := (List.getElem?_eq_some_iff.1 hu).1; rwa [hlx] at this
        subst e
        rw [add_none, Nat.zero_add, hown.row.cellAt j hj]
        exact hu
    · intro v' w' hr hg0
      have hg : w.grownBy w' (Value.slice a n c).ownBlock := ⟨hg0.os, hg0.tape, hg0.output, hg0.size, fun k hk _ => hg0.block k hk (by simp)⟩
      have hr2 : w'.ownsRow B K.E K.size v' (n + 1) (K.all hs xs ++ K.cells h1.1 h1.2 x1) := by
        refine ⟨hr.1, ?_⟩
        rcases hr.2 with h2 | ⟨g', cap, cur, he, hB', r⟩
        · exact .inl h2
        · exact .inr ⟨g', cap, cur, he, Nat.le_trans hB hB', r⟩
      obtain ⟨a', c', rfl, hk⟩ := hown.snoc_of hr2 hg hi1 hap hfar
      refine h a' c' w' hk hg (.inr fun b o e => ?_)
      rcases hr.2 with ⟨_, h0⟩ | ⟨g', cap, cur, he, hB', _⟩
      · omega
      · simp only [Value.slice.injEq] at he
        rw [e] at he
        simp only [Option.some.injEq, Addr.mk.injEq, and_true] at he
        obtain ⟨⟨rfl, _⟩, _⟩ := he
        exact hB'
end Go.Proofs.YtdhlapppahkjeaaGreatDoor

namespace Go.Proofs.YtdhlapppahkjeaaGreatDoor
open Go.RowKit

/-- a slice of structs of a word and a number reads as us -/
structure TermsAt (w : World) (a : Option Addr) (n : Nat) (us : List (List Int × Int)) : Prop where
  len : us.length = n
  get : ∀ i, i < n → ∃ b o aw cw, a = some ⟨b, o, none⟩ ∧ w.cell? ⟨b, o + i * 2, none⟩ = some (.slice aw (us.getD i ([], 0)).1.length cw) ∧ w.cell? ⟨b, o + i * 2 + 1, none⟩ = some (.int .i64 (us.getD i ([], 0)).2) ∧
    IntsAt w aw (us.getD i ([], 0)).1.length (us.getD i ([], 0)).1 ∧ (us.getD i ([], 0)).1.length ≤ 9223372036854775807
theorem TermsAt.below {w w' : World} {a : Option Addr} {n : Nat} {us : List (List Int × Int)} (h : TermsAt w a n us) (hb : Ext w w') : TermsAt w' a n us := by
  refine ⟨h.len, fun i hi => ?_⟩
  obtain ⟨b, o, aw, cw, rfl, h1, h2, h3, h4⟩ := h.get i hi
  have hl := World.block_lt_of_cell? w _ h1
  exact ⟨b, o, aw, cw, rfl, (hb.cell (p := ⟨b, o + i * 2, none⟩) hl).trans h1, (hb.cell (p := ⟨b, o + i * 2 + 1, none⟩) hl).trans h2, h3.below hb, h4⟩

theorem TermsAt.atc {w : World} {b o n : Nat} {us : List (List Int × Int)} (h : TermsAt w (some ⟨b, o, none⟩) n us) (i : Nat) (hi : i < n) :
    ∃ aw cw, w.cell? ⟨b, o + i * 2, none⟩ = some (.slice aw (us.getD i ([], 0)).1.length cw) ∧ w.cell? ⟨b, o + i * 2 + 1, none⟩ = some (.int .i64 (us.getD i ([], 0)).2) ∧
    IntsAt w aw (us.getD i ([], 0)).1.length (us.getD i ([], 0)).1 ∧ (us.getD i ([], 0)).1.length ≤ 9223372036854775807 := by
  obtain ⟨b', o', aw, cw, e, h1, h2, h3, h4⟩ := h.get i hi
  simp only [Option.some.injEq, Addr.mk.injEq, and_true] at e
  obtain ⟨rfl, rfl⟩ := e
  exact ⟨aw, cw, h1, h2, h3, h4⟩
/-- what stands at a place stays in later worlds -/
theorem TermsAt.keeps {w : World} {b o n : Nat} {us : List (List Int × Int)} (h : TermsAt w (some ⟨b, o, none⟩) n us) (i : Nat) (hi : i < n) :
    ∃ aw cw, (us.getD i ([], 0)).1.length ≤ 9223372036854775807 ∧ ∀ w', Ext w w' → w'.cell? ⟨b, o + i * 2, none⟩ = some (.slice aw (us.getD i ([], 0)).1.length cw) ∧ w'.cell? ⟨b, o + i * 2 + 1, none⟩ = some (.int .i64 (us.getD i ([], 0)).2) ∧
    IntsAt w' aw (us.getD i ([], 0)).1.length (us.getD i ([], 0)).1 := by
  obtain ⟨aw, cw, h1, h2, h3, h4⟩ := h.atc i hi
  have hl := World.block_lt_of_cell? w _ h1
  exact ⟨aw, cw, h4, fun w' hx => ⟨(hx.cell (p := ⟨b, o + i * 2, none⟩) hl).trans h1, (hx.cell (p := ⟨b, o + i * 2 + 1, none⟩) hl).trans h2, h3.below hx⟩⟩
end Go.Proofs.YtdhlapppahkjeaaGreatDoor

namespace Go.Proofs.YtdhlapppahkjeaaGreatDoor

abbrev Stp := List Int × Int
def wayAt (p : List Stp) (k : Nat) : List Int := (p.getD k ([], 0)).1
def lenAt (p : List Stp) (k : Nat) : Int := (p.getD k ([], 0)).2
def wayB (r : Nat) (w : List Int) : Bool := decide (w.length = r) && w.all fun x => decide (-1000 ≤ x ∧ x ≤ 1000)
/-- the time at the beginning of step k -/
def timeAt (p : List Stp) : Nat → Int
  | 0 => 0
  | k + 1 => timeAt p k + lenAt p k
def htAt (i : Nat) (p : List Stp) : Nat → Int
  | 0 => 0
  | k + 1 => htAt i p k + lenAt p k * (wayAt p k).getD i 0
def stepB (r : Nat) (p : List Stp) (k : Nat) : Bool := wayB r (wayAt p k) && (decide (1 ≤ lenAt p k ∧ lenAt p k ≤ 83160) && (decide (k = 0) || wayAt p (k - 1) != wayAt p k))
def pathB (r : Nat) (p : List Stp) : Bool := decide (p.length ≤ 60) && (List.range p.length).all (stepB r p) && (decide (timeAt p p.length % 27720 = 0) && decide (timeAt p p.length ≤ 83160))

structure PathP (r : Nat) (p : List Stp) : Prop where
  len : p.length ≤ 60
  way : ∀ k, k < p.length → (wayAt p k).length = r ∧ ∀ j, j < r → -1000 ≤ (wayAt p k).getD j 0 ∧ (wayAt p k).getD j 0 ≤ 1000
  dur : ∀ k, k < p.length → 1 ≤ lenAt p k ∧ lenAt p k ≤ 83160
  ne : ∀ k, k + 1 < p.length → wayAt p k ≠ wayAt p (k + 1)
  tot : timeAt p p.length % 27720 = 0
  tle : timeAt p p.length ≤ 83160
theorem wayB_iff {r : Nat} {w : List Int} : wayB r w = true ↔ w.length = r ∧ ∀ j, j < r → -1000 ≤ w.getD j 0 ∧ w.getD j 0 ≤ 1000 := by
  simp only [wayB, Bool.and_eq_true, decide_eq_true_eq, List.all_eq_true]
  constructor
  · rintro ⟨h1, h2⟩
    refine ⟨h1, fun j hj => ?_⟩
    have hj' : j < w.length := by omega
    rw [List.getD_eq_getElem?_getD, List.getElem?_eq_getElem hj', Option.getD_some]
    exact h2 _ (List.getElem_mem hj')
  · rintro ⟨h1, h2⟩
    refine ⟨h1, fun x hx => ?_⟩
    obtain ⟨j, hj, rfl⟩ := List.mem_iff_getElem.1 hx
    have := h2 j (by omega)
    rwa [List.getD_eq_getElem?_getD, List.getElem?_eq_getElem hj, Option.getD_some] at this
theorem pathB_iff {r : Nat} {p : List Stp} : pathB r p = true ↔ PathP r p := by
  simp only [pathB, Bool.and_eq_true, decide_eq_true_eq, List.all_eq_true, List.mem_range, stepB, Bool.or_eq_true, bne_iff_ne, ne_eq]
  constructor
  · rintro ⟨⟨h1, h2⟩, h3, h4⟩
    refine ⟨h1, fun k hk => wayB_iff.1 (h2 k hk).1, fun k hk => (h2 k hk).2.1, fun k hk => ?_, h3, h4⟩
    rcases (h2 (k + 1) hk).2.2 with h | h
    · omega
    · exact h
  · rintro ⟨h1, h2, h3, h4, h5, h6⟩
    refine ⟨⟨h1, fun k hk => ⟨wayB_iff.2 (h2 k hk), h3 k hk, ?_⟩⟩, h5, h6⟩
    rcases Nat.eq_zero_or_pos k with h | h
    · exact .inl h
    · right
      have := h4 (k - 1) (by omega)
      rwa [show k - 1 + 1 = k by omega] at this

/-! ### steps put together -/
/-- a step behind others -/
def addS (out : List Stp) (s : Stp) : List Stp :=
  if s.2 = 0 then out else
  match out.getLast? with
  | some l => if l.1 = s.1 then out.dropLast ++ [(l.1, l.2 + s.2)] else out ++ [s]
  | none => [s]
def joinS (p : List Stp) : List Stp := p.foldl addS []
/-- what is checked -/
def checkS (r : Nat) (p : List Stp) : Option (List Stp) := if pathB r (joinS p) then some (joinS p) else none

def expand (p : List Stp) : List (List Int) := p.flatMap fun s => List.replicate s.2.toNat s.1
/-- no step of no time, no neighbours of one direction -/
def Normal (p : List Stp) : Prop := (∀ s ∈ p, 0 < s.2) ∧ p.Pairwise (fun _ _ => True) ∧ ∀ k, k + 1 < p.length → wayAt p k ≠ wayAt p (k + 1)

theorem addS_zero (out : List Stp) (s : Stp) (h : s.2 = 0) : addS out s = out := by unfold addS; rw [if_pos h]
theorem addS_nil (s : Stp) (h : s.2 ≠ 0) : addS [] s = [s] := by unfold addS; rw [if_neg h]; rfl
theorem addS_snoc (o : List Stp) (l s : Stp) (h : s.2 ≠ 0) : addS (o ++ [l]) s = if l.1 = s.1 then o ++ [(l.1, l.2 + s.2)] else o ++ [l] ++ [s] := by
  unfold addS
  rw [if_neg h]
  simp
theorem snoc_cases {α : Type} (o : List α) : o = [] ∨ ∃ o' l, o = o' ++ [l] := by
  rcases o.eq_nil_or_concat with h | ⟨o', l, h⟩
  · exact .inl h
  · exact .inr ⟨o', l, by simpa using h⟩
theorem wayAt_snoc (o : List Stp) (l : Stp) : wayAt (o ++ [l]) o.length = l.1 := by simp [wayAt, List.getD_eq_getElem?_getD]
theorem lenAt_snoc (o : List Stp) (l : Stp) : lenAt (o ++ [l]) o.length = l.2 := by simp [lenAt, List.getD_eq_getElem?_getD]
theorem wayAt_app (o q : List Stp) (k : Nat) (h : k < o.length) : wayAt (o ++ q) k = wayAt o k := by simp [wayAt, List.getD_eq_getElem?_getD, List.getElem?_append_left h]
theorem lenAt_app (o q : List Stp) (k : Nat) (h : k < o.length) : lenAt (o ++ q) k = lenAt o k := by simp [lenAt, List.getD_eq_getElem?_getD, List.getElem?_append_left h]
theorem Normal.nil : Normal [] := ⟨by simp, by simp, fun k h => by simp at h⟩
theorem Normal.snoc {o : List Stp} {l : Stp} (h : Normal o) (hl : 0 < l.2) (hne : ∀ o' l', o = o' ++ [l'] → l'.1 ≠ l.1) : Normal (o ++ [l]) := by
  refine ⟨?_, by simp [List.pairwise_iff_forall_sublist], fun k hk => ?_⟩
  · intro s hs
    simp only [List.mem_append, List.mem_singleton] at hs
    rcases hs with hs | rfl
    · exact h.1 s hs
    · exact hl
  · rw [List.length_append, List.length_cons, List.length_nil] at hk
    rw [wayAt_app _ _ _ (by omega)]
    by_cases e : k + 1 < o.length
    · rw [wayAt_app _ _ _ e]
      exact h.2.2 k e
    · have e : k + 1 = o.length := by omega
      rw [e, wayAt_snoc]
      rcases snoc_cases o with rfl | ⟨o', l', rfl⟩
      · simp at e
      · have : k = o'.length := by simp at e; exact e
        subst this
        rw [wayAt_snoc]
        exact hne o' l' rfl
theorem Normal.init {o : List Stp} {l : Stp} (h : Normal (o ++ [l])) : Normal o ∧ 0 < l.2 ∧ ∀ o' l', o = o' ++ [l'] → l'.1 ≠ l.1 := by
  refine ⟨⟨fun s hs => h.1 s (by simp [hs]), by simp [List.pairwise_iff_forall_sublist], fun k hk => ?_⟩, h.1 l (by simp), ?_⟩
  · have := h.2.2 k (by simp; omega)
    rwa [wayAt_app _ _ _ (by omega), wayAt_app _ _ _ hk] at this
  · rintro o' l' rfl
    have := h.2.2 o'.length (by simp)
    rw [wayAt_app _ _ _ (by simp), wayAt_snoc] at this
    rw [show o'.length + 1 = (o' ++ [l']).length by simp, wayAt_snoc] at this
    exact this
theorem expand_append (p q : List Stp) : expand (p ++ q) = expand p ++ expand q := by simp [expand]
theorem expand_one (s : Stp) : expand [s] = List.replicate s.2.toNat s.1 := by simp [expand]
theorem addS_normal {o : List Stp} {s : Stp} (h : Normal o) (hs : 0 ≤ s.2) : Normal (addS o s) ∧ expand (addS o s) = expand o ++ expand [s] := by
  by_cases h0 : s.2 = 0
  · rw [addS_zero _ _ h0]
    exact ⟨h, by simp [expand_one, h0]⟩
  · rcases snoc_cases o with rfl | ⟨o, l, rfl⟩
    · rw [addS_nil _ h0]
      refine ⟨?_, by simp [expand]⟩
      have := Normal.snoc (l := s) Normal.nil (by omega) (fun o' l' e => by simp at e)
      simpa using this
    · rw [addS_snoc _ _ _ h0]
      obtain ⟨h1, h2, h3⟩ := h.init
      by_cases e : l.1 = s.1
      · rw [if_pos e]
        refine ⟨h1.snoc (by show 0 < l.2 + s.2; omega) h3, ?_⟩
        rw [expand_append, expand_append, expand_one, expand_one, expand_one, List.append_assoc, e, List.replicate_append_replicate]
        congr 2
        show (l.2 + s.2).toNat = _
        omega
      · rw [if_neg e]
        refine ⟨h.snoc (by omega) ?_, by rw [expand_append]⟩
        intro o' l' e'
        obtain ⟨_, e2⟩ := List.append_inj' e' rfl
        simp only [List.cons.injEq, and_true] at e2
        subst e2
        exact e
theorem foldl_normal : ∀ (p o : List Stp), Normal o → (∀ s ∈ p, 0 ≤ s.2) → Normal (p.foldl addS o) ∧ expand (p.foldl addS o) = expand o ++ expand p
  | [], o, h, _ => ⟨h, by simp [expand]⟩
  | s :: p, o, h, hp => by
    obtain ⟨h1, h2⟩ := addS_normal (s := s) h (hp s (by simp))
    obtain ⟨h3, h4⟩ := foldl_normal p (addS o s) h1 fun t ht => hp t (by simp [ht])
    refine ⟨h3, ?_⟩
    rw [List.foldl_cons, h4, h2, List.append_assoc, ← expand_append]
    rfl
theorem join_normal {p : List Stp} (hp : ∀ s ∈ p, 0 ≤ s.2) : Normal (joinS p) ∧ expand (joinS p) = expand p := by
  have := foldl_normal p [] Normal.nil hp
  exact ⟨this.1, by unfold joinS; rw [this.2]; simp [expand]⟩
theorem expand_last {o : List Stp} {l : Stp} (h : 0 < l.2) : ∃ e, expand (o ++ [l]) = e ++ [l.1] := by
  rw [expand_append, expand_one]
  obtain ⟨n, hn⟩ : ∃ n, l.2.toNat = n + 1 := ⟨l.2.toNat - 1, by omega⟩
  rw [hn, List.replicate_succ']
  exact ⟨expand o ++ List.replicate n l.1, by simp⟩
theorem strip (n : Nat) : ∀ (w : List Int) (p q : List Stp) (m : Nat), (∀ p' l, p = p' ++ [l] → l.1 ≠ w ∧ 0 < l.2) → (∀ p' l, q = p' ++ [l] → l.1 ≠ w ∧ 0 < l.2) →
    expand p ++ List.replicate n w = expand q ++ List.replicate m w → n = m ∧ expand p = expand q := by
  induction n with
  | zero =>
    intro w p q m hp hq he
    cases m with
    | zero => exact ⟨rfl, by simpa using he⟩
    | succ m =>
      exfalso
      rw [List.replicate_succ', ← List.append_assoc] at he
      rcases snoc_cases p with rfl | ⟨p', l, rfl⟩
      · simp [expand] at he
      · obtain ⟨h1, h2⟩ := hp p' l rfl
        obtain ⟨e, hx⟩ := expand_last (o := p') h2
        rw [hx] at he
        simp only [List.replicate_zero, List.append_nil] at he
        obtain ⟨_, h3⟩ := List.append_inj' he rfl
        simp only [List.cons.injEq, and_true] at h3
        exact h1 h3
  | succ n ih =>
    intro w p q m hp hq he
    cases m with
    | zero =>
      exfalso
      rw [List.replicate_succ', ← List.append_assoc] at he
      rcases snoc_cases q with rfl | ⟨p', l, rfl⟩
      · simp [expand] at he
      · obtain ⟨h1, h2⟩ := hq p' l rfl
        obtain ⟨e, hx⟩ := expand_last (o := p') h2
        rw [hx] at he
        simp only [List.replicate_zero, List.append_nil] at he
        obtain ⟨_, h3⟩ := List.append_inj' he rfl
        simp only [List.cons.injEq, and_true] at h3
        exact h1 h3.symm
    | succ m =>
      rw [List.replicate_succ', List.replicate_succ', ← List.append_assoc, ← List.append_assoc] at he
      obtain ⟨h3, _⟩ := List.append_inj' he rfl
      obtain ⟨h4, h5⟩ := ih w p q m hp hq h3
      exact ⟨by omega, h5⟩
theorem normal_unique (n : Nat) : ∀ (p q : List Stp), p.length ≤ n → Normal p → Normal q → expand p = expand q → p = q := by
  induction n with
  | zero =>
    intro p q hl hp hq he
    obtain rfl : p = [] := List.eq_nil_of_length_eq_zero (by omega)
    rcases snoc_cases q with rfl | ⟨q, l, rfl⟩
    · rfl
    · exfalso
      obtain ⟨e, hx⟩ := expand_last (o := q) hq.init.2.1
      rw [hx] at he
      simp [expand] at he
  | succ n ih =>
    intro p q hl hp hq he
    rcases snoc_cases p with rfl | ⟨p, l, rfl⟩
    · rcases snoc_cases q with rfl | ⟨q, l, rfl⟩
      · rfl
      · exfalso
        obtain ⟨e, hx⟩ := expand_last (o := q) hq.init.2.1
        rw [hx] at he
        simp [expand] at he
    · rcases snoc_cases q with rfl | ⟨q, m, rfl⟩
      · exfalso
        obtain ⟨e, hx⟩ := expand_last (o := p) hp.init.2.1
        rw [hx] at he
        simp [expand] at he
      · obtain ⟨p1, p2, p3⟩ := hp.init
        obtain ⟨q1, q2, q3⟩ := hq.init
        obtain ⟨e, hx⟩ := expand_last (o := p) p2
        obtain ⟨e', hx'⟩ := expand_last (o := q) q2
        have hw : l.1 = m.1 := by
          rw [hx, hx'] at he
          obtain ⟨_, h3⟩ := List.append_inj' he rfl
          simpa using h3
        rw [expand_append, expand_append, expand_one, expand_one, ← hw] at he
        obtain ⟨h4, h5⟩ := strip l.2.toNat l.1 p q m.2.toNat (fun p' l' e => ⟨p3 p' l' e, by subst e; exact p1.1 l' (by simp)⟩) (fun p' l' e => ⟨by rw [hw]; exact q3 p' l' e, by subst e; exact q1.1 l' (by simp)⟩) he
        rw [ih p q (by simp at hl; omega) p1 q1 h5]
        congr 2
        exact Prod.ext hw (by omega)
theorem join_unique {p q : List Stp} (hp : ∀ s ∈ p, 0 ≤ s.2) (hq : Normal q) (he : expand p = expand q) : joinS p = q := by
  obtain ⟨h1, h2⟩ := join_normal hp
  exact normal_unique _ _ _ (Nat.le_refl _) h1 hq (by rw [h2, he])
theorem join_congr {p q : List Stp} (hp : ∀ s ∈ p, 0 ≤ s.2) (hq : ∀ s ∈ q, 0 ≤ s.2) (he : expand p = expand q) : joinS p = joinS q := by
  obtain ⟨h1, h2⟩ := join_normal hq
  exact join_unique hp h1 (by rw [he, h2])

/-! ### gone back -/
end Go.Proofs.YtdhlapppahkjeaaGreatDoor

namespace Go.Proofs.YtdhlapppahkjeaaGreatDoor
open Go.RowKit

def stepK : Knd Stp where
  E := 73
  size := 2
  dft := ([], 0)
  ints := fun x => x.1
  put := fun x ys => (ys, x.2)
  cells := fun a c x => [.slice a x.1.length c, .int .i64 x.2]
  len := fun _ _ _ => rfl
  pos := by decide
  ne := by decide
  put_ints := fun _ _ => rfl
  put_cells := fun a c x ys h => by show [Value.slice a ys.length c, Value.int .i64 x.2] = _; rw [h]
  one := fun a c x u hu => by
    simp only [List.mem_cons, List.not_mem_nil, or_false] at hu
    rcases hu with rfl | rfl <;> rfl
theorem OwnI.small {w : World} {B : Nat} {a : Option Addr} {n c : Nat} {xs : List Int} (h : OwnI w B a n c xs) : n ≤ 9223372036854775807 := by
  rcases h.row.2 with ⟨_, h0⟩ | ⟨g, cap, cur, _, _, _, hnc, hcm, _⟩
  · omega
  · unfold maxLen at hcm; omega
theorem OwnK.termsAt {w : World} {B U : Nat} {a : Option Addr} {n c : Nat} {hs : List Hdr} {xs : List Stp} (h : OwnK stepK w B U a n c hs xs) : TermsAt w a n xs := by
  refine ⟨h.xl, fun i hi => ?_⟩
  obtain ⟨g, rfl, hc, _⟩ := h.cell i 0 hi (by decide)
  obtain ⟨g', e, hc', _⟩ := h.cell i 1 hi (by decide)
  simp only [Option.some.injEq, Addr.mk.injEq, and_true] at e
  subst e
  rw [show i * stepK.size + 0 = i * 2 from rfl] at hc
  rw [show i * stepK.size + 1 = i * 2 + 1 from rfl] at hc'
  exact ⟨g, 0, (hs.getD i (none, 0)).1, (hs.getD i (none, 0)).2, rfl, by rw [Nat.zero_add]; exact hc, by rw [Nat.zero_add]; exact hc', (h.each i hi).ints, (h.each i hi).small⟩

variable {α : Type}
theorem Knd.all_append (K : Knd α) (hs hs2 : List Hdr) (xs xs2 : List α) (h : hs.length = xs.length) : K.all (hs ++ hs2) (xs ++ xs2) = K.all hs xs ++ K.all hs2 xs2 := by
  induction hs generalizing xs with
  | nil => cases xs <;> simp_all [Knd.all]
  | cons a hs ih =>
    cases xs with
    | nil => simp at h
    | cons x xs => simp only [Knd.all, List.cons_append, List.append_assoc]; rw [ih xs (by simpa using h)]
theorem getD_left {β : Type} (l k : List β) (i : Nat) (x : β) (h : i < l.length) : (l ++ k).getD i x = l.getD i x := by simp [List.getD_eq_getElem?_getD, List.getElem?_append_left h]
theorem getD_right {β : Type} (l k : List β) (i : Nat) (x : β) (h : l.length ≤ i) : (l ++ k).getD i x = k.getD (i - l.length) x := by simp [List.getD_eq_getElem?_getD, List.getElem?_append_right h]
theorem OwnK.off_ints {K : Knd α} {w : World} {B U B' : Nat} {a a' : Option Addr} {n c n' c' : Nat} {hs : List Hdr} {xs : List α} {ys : List Int} (h : OwnK K w B U a n c hs xs) (k : OwnI w B' a' n' c' ys) : Apart a a' := by
  intro b o b' o' e e' hb
  subst hb
  obtain ⟨cur', hg'⟩ := k.block e'
  rcases h.form with ⟨rfl, _⟩ | ⟨g, cur, rfl, _, _, hg, _⟩
  · cases e
  · simp only [Option.some.injEq, Addr.mk.injEq, and_true] at e
    obtain ⟨rfl, _⟩ := e
    rw [hg] at hg'
    simp only [Option.some.injEq, Obj.cells.injEq] at hg'
    exact K.ne hg'.2.1
theorem OwnK.cat_of {K : Knd α} {w w' : World} {B U U2 : Nat} {a a2 : Option Addr} {n c m c2 : Nat} {hs hs2 : List Hdr} {xs xs2 : List α} (hown : OwnK K w B U a n c hs xs) (h2 : OwnK K w B U2 a2 m c2 hs2 xs2) {v' : Value}
    (hr : w'.ownsRow B K.E K.size v' (n + m) (K.all hs xs ++ K.all hs2 xs2)) (hg : w.grownBy w' (Value.slice a n c).ownBlock)
    (hap : ∀ i j, i < n → j < m → Apart (hs.getD i (none, 0)).1 (hs2.getD j (none, 0)).1) (hsl : ∃ a' c', v' = .slice a' (n + m) c') :
    ∃ a' c', v' = .slice a' (n + m) c' ∧ OwnK K w' B w'.heap.size a' (n + m) c' (hs ++ hs2) (xs ++ xs2) := by
  rw [← K.all_append hs hs2 xs xs2 (hown.hl.trans hown.xl.symm)] at hr
  obtain ⟨a', c', rfl⟩ := hsl
  refine ⟨a', c', rfl, ?_⟩
  have hxl := hown.xl
  have hhl := hown.hl
  have hxl2 := h2.xl
  have hhl2 := h2.hl
  have hne : ∀ {p : Option Addr} {k q : Nat} {ys : List Int}, OwnI w B p k q ys → ∀ b o, p = some ⟨b, o, none⟩ → some b ≠ (Value.slice a n c).ownBlock := fun hk b o e => by
    rcases hown.form with ⟨rfl, _⟩ | ⟨g', cur, rfl, _⟩
    · simp [Value.ownBlock]
    · have := hown.off_ints hk g' 0 b o rfl e
      simp only [Value.ownBlock, ne_eq, Option.some.injEq]
      omega
  have hev : ∀ q, q < n + m → OwnI w' B ((hs ++ hs2).getD q (none, 0)).1 (K.ints ((xs ++ xs2).getD q K.dft)).length ((hs ++ hs2).getD q (none, 0)).2 (K.ints ((xs ++ xs2).getD q K.dft)) := fun q hq => by
    by_cases h3 : q < n
    · rw [getD_left _ _ _ _ (by omega), getD_left _ _ _ _ (by omega)]
      exact (hown.each q h3).grown hg fun b o e => hne (hown.each q h3) b o e
    · rw [getD_right _ _ _ _ (by omega), getD_right _ _ _ _ (by omega), hhl, hxl]
      exact (h2.each _ (by omega)).grown hg fun b o e => hne (h2.each _ (by omega)) b o e
  refine ⟨hr, by simp [hhl, hhl2], by simp [hxl, hxl2], hev, fun q r hq hr' hqr => ?_, fun q hq b o e => ((hev q hq).at_base b o e).2, fun b o e => ?_⟩
  · by_cases h3 : q < n
    · rw [getD_left hs _ q _ (by omega)]
      by_cases h4 : r < n
      · rw [getD_left hs _ r _ (by omega)]; exact hown.apart q r h3 h4 hqr
      · rw [getD_right hs _ r _ (by omega)]; exact hap q _ h3 (by omega)
    · rw [getD_right hs _ q _ (by omega)]
      by_cases h4 : r < n
      · rw [getD_left hs _ r _ (by omega)]; exact (hap r _ h4 (by omega)).symm
      · rw [getD_right hs _ r _ (by omega)]; exact h2.apart _ _ (by omega) (by omega) (by omega)
  · rcases hr.2 with ⟨h5, h0⟩ | ⟨g', cap, cur, he, _, hg', _⟩
    · simp only [Value.slice.injEq] at h5
      rw [h5.1] at e
      cases e
    · simp only [Value.slice.injEq] at he
      rw [e] at he
      simp only [Option.some.injEq, Addr.mk.injEq, and_true] at he
      obtain ⟨⟨rfl, _⟩, _⟩ := he
      exact (Array.getElem?_eq_some_iff.1 hg').1

/-- append of an owned slice's elements to another one -/
theorem wpList_append_elems {ops : Array Oper} {rest : List Oper} {o : Oper} {av : Act} {Q : Exit → Act → World → Prop} {w : World} (K : Knd α) (T : TypeId) (z : Value) (bytes : Nat) (hgd : o.guard = none) (s x : Operand)
    (ho : o.op = .call { callee := .builtin .append, args := #[s, x], argTypes := #[T, T] }) (hT : Tryz.prog.underlying T = some (.slice K.E)) (hinfo : (Tryz.prog.info? K.E).map (fun i => (i.zero, i.size, i.bytes)) = some (some z, K.size, bytes))
    (hz : z.cells.size = K.size) (hbp : bytes ≤ 1000)
    (B U U2 : Nat) (a : Option Addr) (n c : Nat) (hs hs2 : List Hdr) (xs xs2 : List α) (hsv : av.eval s = .slice a n c) (hown : OwnK K w B U a n c hs xs)
    (g m c2 : Nat) (hx : av.eval x = .slice (some ⟨g, 0, none⟩) m c2) (h2 : OwnK K w B U2 (some ⟨g, 0, none⟩) m c2 hs2 xs2)
    (hap : ∀ i j, i < n → j < m → Apart (hs.getD i (none, 0)).1 (hs2.getD j (none, 0)).1) (hsm : n + m ≤ 1000000000) (ha : a ≠ none) (hB : B ≤ w.heap.size)
    (h : ∀ a' c' w', OwnK K w' B w'.heap.size a' (n + m) c' (hs ++ hs2) (xs ++ xs2) → w.grownBy w' (Value.slice a n c).ownBlock → OrNew w.heap.size a a' → wpList Tryz.prog ops Q rest (av.put o.dst (.slice a' (n + m) c')) w') : wpList Tryz.prog ops Q (o :: rest) av w := by
  obtain ⟨i, hi, hz0, hz1, hz2⟩ := info_parts hinfo
  have hl2 := K.all_length hs2 xs2 (h2.hl.trans h2.xl.symm)
  rw [h2.xl] at hl2
  have hcells : ∀ j u, (K.all hs2 xs2)[j]? = some u → w.cell? ((⟨g, 0, none⟩ : Addr).add j) = some u := by
    intro j u hu
    have hj : j < m * K.size := by have := (List.getElem?_eq_some_iff.1 hu).1; rwa [hl2] at this
    rw [add_none, Nat.zero_add, h2.row.cellAt j hj]
    exact hu
  by_cases hroom : n + m ≤ c
  · rcases hown.form with ⟨e0, _⟩ | ⟨g0, cur, rfl, _⟩
    · exact absurd e0 ha
    · refine wpList_append_fits w hgd s x T ho B K.E i K.size hT hi hz1 g0 n c (K.all hs xs) hsv hown.row ⟨g, 0, none⟩ m c2 (K.all hs2 xs2) hx hl2 hcells (K.all_one _ _) hroom ?_
      intro w' hr hg
      obtain ⟨a', c', e, hk⟩ := hown.cat_of h2 hr hg hap ⟨_, _, rfl⟩
      simp only [Value.slice.injEq] at e
      obtain ⟨rfl, _, rfl⟩ := e
      exact h _ _ w' hk hg (.inl rfl)
  · have hlx := K.all_length hs xs (hown.hl.trans hown.xl.symm)
    rw [hown.xl] at hlx
    refine wpList_append_grows w hgd s x T ho K.E i z K.size bytes hT hi hz0 hz1 hz2 hz K.pos a n c (K.all hs xs) hsv ?_ hlx ?_ ⟨g, 0, none⟩ m c2 (K.all hs2 xs2) hx hl2 hcells (K.all_one _ _) (by omega) (by unfold maxLen; omega)
      (by calc (n + m) * bytes ≤ 1000000000 * 1000 := Nat.mul_le_mul (by omega) hbp
            _ ≤ _ := by omega) ?_
    · intro e
      rcases hown.form with ⟨_, h1, h2⟩ | ⟨g0, cur, e2, _⟩
      · exact ⟨h1, h2⟩
      · rw [e] at e2; cases e2
    · intro b e j u hu
      rcases hown.form with ⟨e2, _⟩ | ⟨g0, cur, e2, _⟩
      · rw [e] at e2; cases e2
      · rw [e] at e2
        simp only [Option.some.injEq] at e2
        subst e2
        have hj : j < n * K.size := by have := (List.getElem?_eq_some_iff.1 hu).1; rwa [hlx] at this
        subst e
        rw [add_none, Nat.zero_add, hown.row.cellAt j hj]
        exact hu
    · intro v' w' hr hg0
      have hg : w.grownBy w' (Value.slice a n c).ownBlock := ⟨hg0.os, hg0.tape, hg0.output, hg0.size, fun k hk _ => hg0.block k hk (by simp)⟩
      have hr2 : w'.ownsRow B K.E K.size v' (n + m) (K.all hs xs ++ K.all hs2 xs2) := by
        refine ⟨hr.1, ?_⟩
        rcases hr.2 with h2 | ⟨g', cap, cur, he, hB', r⟩
        · exact .inl h2
        · exact .inr ⟨g', cap, cur, he, Nat.le_trans hB hB', r⟩
      obtain ⟨a', c', rfl, hk⟩ := hown.cat_of h2 hr2 hg hap (by
        rcases hr.2 with ⟨e5, h0⟩ | ⟨g', cap, cur, he, hB', _⟩
        · omega
        · exact ⟨_, _, he⟩)
      refine h a' c' w' hk hg (.inr fun b o e => ?_)
      rcases hr.2 with ⟨_, h0⟩ | ⟨g', cap, cur, he, hB', _⟩
      · omega
      · simp only [Value.slice.injEq] at he
        rw [e] at he
        simp only [Option.some.injEq, Addr.mk.injEq, and_true] at he
        obtain ⟨⟨rfl, _⟩, _⟩ := he
        exact hB'
end Go.Proofs.YtdhlapppahkjeaaGreatDoor

namespace Go.Proofs.YtdhlapppahkjeaaGreatDoor
open Go.RowKit

/-- a Cartan matrix's value -/
abbrev carV (r : Int) (a : Option Addr) (n c : Nat) : Value := .agg #[.int .i64 r, .slice a n c]
/-- the two cells of one in a variable of its own -/
structure CarAt (w : World) (b : Nat) (r : Int) (a : Option Addr) (n c : Nat) : Prop where
  c0 : w.cell? ⟨b, 0, none⟩ = some (.int .i64 r)
  c1 : w.cell? ⟨b, 1, none⟩ = some (.slice a n c)
theorem CarAt.below {w w' : World} {b : Nat} {r : Int} {a : Option Addr} {n c : Nat} (h : CarAt w b r a n c) (hb : Ext w w') : CarAt w' b r a n c :=
  have hl := World.block_lt_of_cell? w _ h.c0
  ⟨(hb.cell (p := ⟨b, 0, none⟩) hl).trans h.c0, (hb.cell (p := ⟨b, 1, none⟩) hl).trans h.c1⟩
theorem CarAt.new (w : World) (b : Nat) (hb : b = w.heap.size) (r : Int) (a : Option Addr) (n c : Nat) (E : TypeId) : CarAt (w.alloc (.cells #[.int .i64 r, .slice a n c] E)) b r a n c :=
  ⟨(cell_top _ _ _ _ _ hb).trans rfl, (cell_top _ _ _ _ _ hb).trans rfl⟩
end Go.Proofs.YtdhlapppahkjeaaGreatDoor

namespace Go.Proofs.YtdhlapppahkjeaaGreatDoor
open Go.RowKit

set_option maxHeartbeats 1000000 in
theorem l1Same_any (a1 a2 : Option Addr) (n1 n2 c1 c2 : Nat) (xs ys : List Int) (w : World) (h1 : IntsAt w a1 n1 xs) (h2 : IntsAt w a2 n2 ys) (hm1 : n1 ≤ 9223372036854775807) (hm2 : n2 ≤ 9223372036854775807) :
    Calls Tryz.prog 48 #[.slice a1 n1 c1, .slice a2 n2 c2] w fun e w' => e = .returned (.bool (xs == ys)) ∧ ∃ m, w' = w.drewN m := by
  obtain ⟨l1, g1⟩ := h1
  obtain ⟨l2, g2⟩ := h2
  have G1 := hidP g1
  have G2 := hidP g2
  have L1 := hidP l1
  have L2 := hidP l2
  clear g1 g2 l1 l2
  by_cases hne : n1 = n2
  · subst hne
    go_enter Tryz.func48, Tryz.ntmps48
    go_wp2
    go_loopw [5] (fun i wr => ∃ k m : Nat, k ≤ n1 ∧ Hid (∀ j, j < k → xs.getD j 0 = ys.getD j 0) ∧ i = .int .i64 k ∧ wr = w.drewN m) (fun i _ => n1 - (intOf i).toNat)
    case atStart => exact ⟨0, 0, Nat.zero_le _, fun j h => by omega, rfl, rfl⟩
    case round =>
      obtain ⟨k, m, hk, HJ, rfl, rfl⟩ := hrel
      by_cases hlt : k < n1
      · obtain ⟨b1, o1, rfl, q1⟩ := G1.out k hlt
        obtain ⟨b2, o2, rfl, q2⟩ := G2.out k hlt
        by_cases hd : xs.getD k 0 = ys.getD k 0
        · have hb : (xs[k]?.getD 0 != ys[k]?.getD 0) = false := by simpa [List.getD_eq_getElem?_getD] using hd
          have HD := hidP hd
          clear hd
          go_wp2
          go_quiet (fail)
          go_wp2
          go_roundw
          case rel =>
            refine ⟨k + 1, m + nq, by omega, fun j hj => ?_, by go_num, by simp⟩
            rcases Nat.lt_succ_iff_lt_or_eq.1 hj with h3 | rfl
            · exact HJ.out j h3
            · exact HD.out
          case measure => simp [intOf]; omega
        · have hb : (xs[k]?.getD 0 != ys[k]?.getD 0) = true := by simpa [List.getD_eq_getElem?_getD] using hd
          have HB : Hid ((xs == ys) = false) := by
            show _ = _
            rw [beq_eq_false_iff_ne]
            exact fun e => hd (by rw [e])
          clear hd
          go_wp2
          go_quiet (fail)
          go_wp2
          go_ret
          exact ⟨ret_bool HB.out.symm, _, by simp only [World.drewN_drewN]; rfl⟩
      · have HB : Hid ((xs == ys) = true) := by
          show _ = _
          rw [beq_iff_eq]
          exact ints_ext (L1.out.trans L2.out.symm) fun j hj => HJ.out j (by have := L1.out; omega)
        go_wp2
        go_ret
        exact ⟨ret_bool HB.out.symm, _, rfl⟩
  · have HB : Hid ((xs == ys) = false) := by
      show _ = _
      rw [beq_eq_false_iff_ne]
      exact fun e => hne (by rw [← L1.out, ← L2.out, e])
    have hb : (((n1 : Nat) : Int) != (n2 : Nat)) = true := bne_iff_ne.2 (by omega)
    clear hne
    go_enter Tryz.func48, Tryz.ntmps48
    go_wp2
    go_ret
    exact ⟨ret_bool HB.out.symm, 0, rfl⟩

def wayIn (x : Int) : Bool := insB x (-1000) 1000
theorem wayB_eq (r : Nat) (w : List Int) : wayB r w = (decide (w.length = r) && w.all wayIn) := by
  unfold wayB
  congr 1
theorem wayB_len {r : Nat} {w : List Int} (h : w.length ≠ r) : wayB r w = false := by simp [wayB_eq, h]
theorem wayB_bad {r : Nat} {w : List Int} (k : Nat) (hk : k < w.length) (h : wayIn (w.getD k 0) = false) : wayB r w = false := by
  rw [wayB_eq, Bool.and_eq_false_iff]
  right
  rw [List.all_eq_false]
  exact ⟨w.getD k 0, by rw [getD_lt _ hk]; exact List.getElem_mem hk, by rw [h]; exact Bool.false_ne_true⟩
theorem wayB_good {r : Nat} {w : List Int} (hl : w.length = r) (h : ∀ k, k < w.length → wayIn (w.getD k 0) = true) : wayB r w = true := by
  rw [wayB_eq, Bool.and_eq_true, List.all_eq_true]
  refine ⟨by simp [hl], fun x hx => ?_⟩
  obtain ⟨k, hk, rfl⟩ := List.mem_iff_getElem.1 hx
  rw [← getD_lt _ hk]
  exact h k hk

set_option maxRecDepth 100000 in
set_option maxHeartbeats 1000000 in
theorem l5Lattice_any (r : Nat) (ta : Option Addr) (tn tc : Nat) (a : Option Addr) (n c : Nat) (xs : List Int) (w : World) (h : IntsAt w a n xs) (hn : n ≤ 9223372036854775807) (_hr : r ≤ 1000000) :
    Calls Tryz.prog 60 #[carV r ta tn tc, .slice a n c] w fun e w' => e = .returned (.bool (wayB r xs)) ∧ Ext w w' := by
  have hX := Ext.alloc w (.cells #[.int .i64 r, .slice ta tn tc] 29)
  have G := hidP (h.below hX)
  have HX := hidP hX
  have L := hidP h.len
  obtain ⟨f0, f1⟩ := CarAt.new w _ rfl (r : Int) ta tn tc 29
  clear hX h
  go_enter Tryz.func60, Tryz.ntmps60
  by_cases hnr : n = r
  · have hne : ((n : Int) != (r : Int)) = false := by simp [hnr]
    have HN := hidP hnr
    clear hnr
    go_wp2
    go_loopw [5] (fun i wr => ∃ k : Nat, k ≤ n ∧ Hid (∀ j, j < k → wayIn (xs.getD j 0) = true) ∧ i = .int .i64 k ∧ wr = w.alloc (.cells #[.int .i64 r, .slice ta tn tc] 29)) (fun i _ => n - (intOf i).toNat)
    case atStart => exact ⟨0, Nat.zero_le _, fun j h => by omega, rfl, rfl⟩
    case round =>
      obtain ⟨k, hk, HJ, rfl, rfl⟩ := hrel
      by_cases hlt : k < n
      · obtain ⟨b, o, rfl, q⟩ := G.out.get k hlt
        cases hin : wayIn (xs.getD k 0)
        · have HB := hidP (wayB_bad (r := r) k (by have := L.out; omega) hin)
          have hin' : insB (xs[k]?.getD 0) (-1000) 1000 = false := by simpa [wayIn, List.getD_eq_getElem?_getD] using hin
          clear hin
          go_wp2_with (go_at_call 57; refine (l1In_any _ _ _ _).mono ?_; rintro e w' ⟨rfl, rfl⟩)
          go_ret
          exact ⟨ret_bool HB.out.symm, HX.out⟩
        · have hin' : insB (xs[k]?.getD 0) (-1000) 1000 = true := by simpa [wayIn, List.getD_eq_getElem?_getD] using hin
          have HI := hidP hin
          clear hin
          go_wp2_with (go_at_call 57; refine (l1In_any _ _ _ _).mono ?_; rintro e w' ⟨rfl, rfl⟩)
          go_roundw
          case rel =>
            refine ⟨k + 1, by omega, fun j hj => ?_, by go_num, trivial⟩
            rcases Nat.lt_succ_iff_lt_or_eq.1 hj with h3 | rfl
            · exact HJ.out j h3
            · exact HI.out
          case measure => simp [intOf]; omega
      · have HB := hidP (wayB_good (r := r) (w := xs) (by have := L.out; have := HN.out; omega) (fun j hj => HJ.out j (by have := L.out; omega)))
        go_wp2
        go_ret
        exact ⟨ret_bool HB.out.symm, HX.out⟩
  · have hne : ((n : Int) != (r : Int)) = true := bne_iff_ne.2 (by omega)
    have HB := hidP (wayB_len (r := r) (w := xs) (by have := L.out; omega))
    go_wp2
    go_ret
    exact ⟨ret_bool HB.out.symm, HX.out⟩

theorem timeAt_bounds {p : List Stp} {n : Nat} (h : ∀ k, k < n → 0 ≤ lenAt p k ∧ lenAt p k ≤ 1000000) : ∀ k, k ≤ n → 0 ≤ timeAt p k ∧ timeAt p k ≤ 1000000 * k
  | 0, _ => ⟨Int.le_refl _, Int.le_refl _⟩
  | k + 1, hk => by
    have h1 := timeAt_bounds h k (by omega)
    have h2 := h k (by omega)
    rw [timeAt]
    omega

set_option maxHeartbeats 1000000 in
theorem l9Time_any (a : Option Addr) (n c : Nat) (xs : List Stp) (w : World) (h : TermsAt w a n xs) (hn : n ≤ 1000000) (hb : ∀ k, k < n → 0 ≤ lenAt xs k ∧ lenAt xs k ≤ 1000000) :
    Calls Tryz.prog 84 #[.slice a n c] w fun e w' => e = .returned (.int .i64 (timeAt xs n)) ∧ w' = w := by
  have G := hidP h
  have HB := hidP (timeAt_bounds hb)
  have HD := hidP hb
  clear h hb
  go_enter Tryz.func84, Tryz.ntmps84
  go_wp2
  go_loopw [3, 4] (fun t i wr => ∃ k : Nat, k ≤ n ∧ t = .int .i64 (timeAt xs k) ∧ i = .int .i64 k ∧ wr = w) (fun _ i _ => n - (intOf i).toNat)
  case atStart => exact ⟨0, Nat.zero_le _, rfl, rfl, rfl⟩
  case round =>
    obtain ⟨k, hk, rfl, rfl, rfl⟩ := hrel
    by_cases hlt : k < n
    · obtain ⟨b, o, aw, cw, rfl, q1, q2, _, _⟩ := G.out.get k hlt
      have hT : Hid (timeAt xs (k + 1) = timeAt xs k + lenAt xs k) := rfl
      have hb1 := HB.out k hk
      have hb2 := HD.out k hlt
      obtain ⟨T, hT0⟩ : ∃ T, T = timeAt xs k := ⟨_, rfl⟩
      have HLe : Hid ((xs.getD k ([], 0)).2 = lenAt xs k) := rfl
      rw [HLe.out] at q2
      rw [← hT0] at hb1 hT ⊢
      clear hT0
      generalize lenAt xs k = L at hb2 q2 hT
      go_wp2
      go_roundw
      case rel => exact ⟨k + 1, by omega, by rw [hT.out], by go_num, trivial⟩
      case measure => simp [intOf]; omega
    · obtain rfl : k = n := by omega
      go_wp2
      go_ret
      exact ⟨rfl, rfl⟩

/-- one step of a path that is read -/
theorem TermsAt.way {w : World} {a : Option Addr} {n : Nat} {xs : List Stp} (h : TermsAt w a n xs) (k : Nat) (hk : k < n) :
    ∃ b o aw cw, ∃ W : List Int, ∃ L : Int, a = some ⟨b, o, none⟩ ∧ Hid (wayAt xs k = W) ∧ Hid (lenAt xs k = L) ∧ W.length ≤ 9223372036854775807 ∧ ∀ w', Ext w w' → w'.cell? ⟨b, o + k * 2, none⟩ = some (.slice aw W.length cw) ∧ w'.cell? ⟨b, o + k * 2 + 1, none⟩ = some (.int .i64 L) ∧ IntsAt w' aw W.length W := by
  obtain ⟨b, o, _, _, rfl, _⟩ := h.get k hk
  obtain ⟨aw, cw, h1, h2⟩ := h.keeps k hk
  exact ⟨b, o, aw, cw, wayAt xs k, lenAt xs k, rfl, rfl, rfl, h1, h2⟩
theorem pathB_long {r : Nat} {p : List Stp} (h : ¬ p.length ≤ 60) : pathB r p = false := by simp [pathB, h]
theorem pathB_bad {r : Nat} {p : List Stp} (k : Nat) (hk : k < p.length) (h : stepB r p k = false) : pathB r p = false := by
  have : (List.range p.length).all (stepB r p) = false := by
    rw [List.all_eq_false]
    exact ⟨k, List.mem_range.2 hk, by simp [h]⟩
  simp [pathB, this]
theorem pathB_end {r : Nat} {p : List Stp} {n : Nat} (hn : p.length = n) (h60 : n ≤ 60) (h : ∀ j, j < n → stepB r p j = true) : pathB r p = (decide (timeAt p n % 27720 = 0) && decide (timeAt p n ≤ 83160)) := by
  subst hn
  have : (List.range p.length).all (stepB r p) = true := by
    rw [List.all_eq_true]
    exact fun j hj => h j (List.mem_range.1 hj)
  unfold pathB
  rw [this, decide_eq_true h60, Bool.true_and, Bool.true_and]
theorem stepB_len {r : Nat} {p : List Stp} {k : Nat} (h : stepB r p k = true) : 0 ≤ lenAt p k ∧ lenAt p k ≤ 1000000 := by
  simp only [stepB, Bool.and_eq_true, decide_eq_true_eq] at h
  omega
theorem stepB_way {r : Nat} {p : List Stp} {k : Nat} (h : stepB r p k = true) : (wayAt p k).length = r := by
  simp only [stepB, Bool.and_eq_true] at h
  exact (wayB_iff.1 h.1).1

set_option maxRecDepth 100000 in
set_option maxHeartbeats 4000000 in
theorem l9Ok_any (r : Nat) (ta : Option Addr) (tn tc : Nat) (a : Option Addr) (n c : Nat) (xs : List Stp) (w : World) (h : TermsAt w a n xs) (hn : n ≤ 9223372036854775807) (hr : r ≤ 1000000) :
    Calls Tryz.prog 58 #[carV r ta tn tc, .slice a n c] w fun e w' => e = .returned (.bool (pathB r xs)) ∧ Ext w w' := by
  have hx1 := Ext.alloc w (.cells #[.int .i64 r, .slice ta tn tc] 29)
  have G := hidP (h.below hx1)
  have L0 := hidP h.len
  have HC := hidP (fun w' (hx : Ext (w.alloc (.cells #[.int .i64 r, .slice ta tn tc] 29)) w') => (CarAt.new w _ rfl (r : Int) ta tn tc 29).below hx)
  have HX1 := hidP hx1
  clear h hx1
  go_enter Tryz.func58, Tryz.ntmps58
  by_cases h60 : n ≤ 60
  · have h60' : ¬ (60 < (n : Int)) := by omega
    go_wp2
    obtain ⟨w1, hw1⟩ : ∃ w1, w1 = w.alloc (.cells #[.int .i64 r, .slice ta tn tc] 29) := ⟨_, rfl⟩
    rw [← hw1] at G HC HX1 ⊢
    clear hw1
    have hst : Hid (Ext w1 w1) := hidP (Ext.refl w1)
    go_loopw [5] (fun i wr => ∃ k : Nat, k ≤ n ∧ Hid (∀ j, j < k → stepB r xs j = true) ∧ i = .int .i64 k ∧ Hid (Ext w1 wr)) (fun i _ => n - (intOf i).toNat)
    case atStart => exact ⟨0, Nat.zero_le _, fun j h => by omega, rfl, hst⟩
    case round =>
      clear hst
      obtain ⟨k, hk, HJ, rfl, HX⟩ := hrel
      by_cases hlt : k < n
      · obtain ⟨b, o, aw, cw, W, L, rfl, HW, HL, hwl, hq⟩ := (G.out.below HX.out).way k hlt
        have HQ := hidP hq
        clear hq
        have HCr := hidP (fun w' (hx : Ext wr w') => HC.out w' (HX.out.trans hx))
        have HLat := hidP (fun w' (hx : Ext wr w') => l5Lattice_any r ta tn tc aw W.length cw W w' (HQ.out w' hx).2.2 hwl hr)
        have HSB : Hid (stepB r xs k = (wayB r W && (insB L 1 83160 && (decide (k = 0) || wayAt xs (k - 1) != W)))) := by
          show _ = _
          unfold stepB
          rw [HW.out, HL.out]
          rfl
        cases hA : wayB r W
        · rw [hA] at HLat HSB
          have HB := hidP (pathB_bad (r := r) k (by have := L0.out; omega) HSB.out)
          clear hA
          go_wp2
          have hE : Ext wr wr.drew := Ext.drew wr
          (refine walkR_start (fun w' => Ext wr w') 34 (by kernel_rfl) ?_; simp only [numbered, List.take_succ_cons, List.take_zero, Nat.zero_add, Nat.reduceAdd, List.length_cons, List.length_nil])
          (repeat (first | (refine walkR_still (v := ?_) rfl (by decide +kernel) rfl (fun _ _ _ h => h) hE ?_ ?_; rotate_left; (focus (intro w' hw'; obtain ⟨f0, f1⟩ := HCr.out w' hw'; obtain ⟨q1, q2, _⟩ := HQ.out w' hw'; go_simp; all_goals (with_reducible rfl))); simp only [Act.put, List.setIfInBounds_toArray, List.set_cons_zero, List.set_cons_succ]) | (refine walkR_skip rfl (by decide +kernel) rfl (fun _ _ _ h => h) hE ?_; simp only [Act.put, List.setIfInBounds_toArray, List.set_cons_zero, List.set_cons_succ])))
          (refine walkR_only (fun w' => Ext wr w') rfl (by decide +kernel) rfl (fun _ h => h) ?_; intro K hK; go_simp; refine (HLat.out _ hE).mono ?_; rintro e w2 ⟨rfl, hx2⟩; refine hK _ _ (hE.trans hx2) ?_; clear hK K; (try simp only [Act.put, List.setIfInBounds_toArray, List.set_cons_zero, List.set_cons_succ]))
          have hE2 := hE.trans hx2
          (repeat (first | (refine walkR_still (v := ?_) rfl (by decide +kernel) rfl (fun _ _ _ h => h) hE2 ?_ ?_; rotate_left; (focus (intro w' hw'; obtain ⟨f0, f1⟩ := HCr.out w' hw'; obtain ⟨q1, q2, _⟩ := HQ.out w' hw'; go_simp; all_goals (with_reducible rfl))); simp only [Act.put, List.setIfInBounds_toArray, List.set_cons_zero, List.set_cons_succ]) | (refine walkR_skip rfl (by decide +kernel) rfl (fun _ _ _ h => h) hE2 ?_; simp only [Act.put, List.setIfInBounds_toArray, List.set_cons_zero, List.set_cons_succ])))
          (refine walkR_tail (by rfl) (by kernel_rfl) ?_; simp only [List.drop_succ_cons, List.drop_zero])
          go_wp2
          go_ret
          exact ⟨ret_bool HB.out.symm, HX1.out.trans (HX.out.trans hE2)⟩
        · rw [hA] at HLat HSB
          cases hI : insB L 1 83160
          · rw [hI] at HSB
            have HB := hidP (pathB_bad (r := r) k (by have := L0.out; omega) HSB.out)
            clear hA
            go_wp2
            have hE : Ext wr wr.drew := Ext.drew wr
            (refine walkR_start (fun w' => Ext wr w') 34 (by kernel_rfl) ?_; simp only [numbered, List.take_succ_cons, List.take_zero, Nat.zero_add, Nat.reduceAdd, List.length_cons, List.length_nil])
            (repeat (first | (refine walkR_still (v := ?_) rfl (by decide +kernel) rfl (fun _ _ _ h => h) hE ?_ ?_; rotate_left; (focus (intro w' hw'; obtain ⟨f0, f1⟩ := HCr.out w' hw'; obtain ⟨q1, q2, _⟩ := HQ.out w' hw'; go_simp; all_goals (with_reducible rfl))); simp only [Act.put, List.setIfInBounds_toArray, List.set_cons_zero, List.set_cons_succ]) | (refine walkR_skip rfl (by decide +kernel) rfl (fun _ _ _ h => h) hE ?_; simp only [Act.put, List.setIfInBounds_toArray, List.set_cons_zero, List.set_cons_succ])))
            (refine walkR_only (fun w' => Ext wr w') rfl (by decide +kernel) rfl (fun _ h => h) ?_; intro K hK; go_simp; refine (HLat.out _ hE).mono ?_; rintro e w2 ⟨rfl, hx2⟩; refine hK _ _ (hE.trans hx2) ?_; clear hK K; (try simp only [Act.put, List.setIfInBounds_toArray, List.set_cons_zero, List.set_cons_succ]))
            have hE2 := hE.trans hx2
            (repeat (first | (refine walkR_still (v := ?_) rfl (by decide +kernel) rfl (fun _ _ _ h => h) hE2 ?_ ?_; rotate_left; (focus (intro w' hw'; obtain ⟨f0, f1⟩ := HCr.out w' hw'; obtain ⟨q1, q2, _⟩ := HQ.out w' hw'; go_simp; all_goals (with_reducible rfl))); simp only [Act.put, List.setIfInBounds_toArray, List.set_cons_zero, List.set_cons_succ]) | (refine walkR_skip rfl (by decide +kernel) rfl (fun _ _ _ h => h) hE2 ?_; simp only [Act.put, List.setIfInBounds_toArray, List.set_cons_zero, List.set_cons_succ])))
            (refine walkR_only (fun w' => Ext wr w') rfl (by decide +kernel) rfl (fun _ h => h) ?_; intro K hK; go_simp; refine (l1In_any _ _ _ _).mono ?_; rintro e w3 ⟨rfl, rfl⟩; refine hK _ _ (hE2) ?_; clear hK K; (try simp only [Act.put, List.setIfInBounds_toArray, List.set_cons_zero, List.set_cons_succ]))
            (repeat (first | (refine walkR_still (v := ?_) rfl (by decide +kernel) rfl (fun _ _ _ h => h) hE2 ?_ ?_; rotate_left; (focus (intro w' hw'; obtain ⟨f0, f1⟩ := HCr.out w' hw'; obtain ⟨q1, q2, _⟩ := HQ.out w' hw'; go_simp; all_goals (with_reducible rfl))); simp only [Act.put, List.setIfInBounds_toArray, List.set_cons_zero, List.set_cons_succ]) | (refine walkR_skip rfl (by decide +kernel) rfl (fun _ _ _ h => h) hE2 ?_; simp only [Act.put, List.setIfInBounds_toArray, List.set_cons_zero, List.set_cons_succ])))
            (refine walkR_tail (by rfl) (by kernel_rfl) ?_; simp only [List.drop_succ_cons, List.drop_zero])
            go_wp2
            go_ret
            exact ⟨ret_bool HB.out.symm, HX1.out.trans (HX.out.trans hE2)⟩
          · rw [hI] at HSB
            clear hA
            cases k with
            | zero =>
              have HT : Hid (stepB r xs 0 = true) := HSB.out
              have HQ := hidP (by simpa only [Nat.zero_mul, Nat.add_zero] using HQ.out)
              go_wp2
              have hE : Ext wr wr.drew := Ext.drew wr
              (refine walkR_start (fun w' => Ext wr w') 34 (by kernel_rfl) ?_; simp only [numbered, List.take_succ_cons, List.take_zero, Nat.zero_add, Nat.reduceAdd, List.length_cons, List.length_nil])
              (repeat (first | (refine walkR_still (v := ?_) rfl (by decide +kernel) rfl (fun _ _ _ h => h) hE ?_ ?_; rotate_left; (focus (intro w' hw'; obtain ⟨f0, f1⟩ := HCr.out w' hw'; obtain ⟨q1, q2, _⟩ := HQ.out w' hw'; go_simp; all_goals (with_reducible rfl))); simp only [Act.put, List.setIfInBounds_toArray, List.set_cons_zero, List.set_cons_succ]) | (refine walkR_skip rfl (by decide +kernel) rfl (fun _ _ _ h => h) hE ?_; simp only [Act.put, List.setIfInBounds_toArray, List.set_cons_zero, List.set_cons_succ])))
              (refine walkR_only (fun w' => Ext wr w') rfl (by decide +kernel) rfl (fun _ h => h) ?_; intro K hK; go_simp; refine (HLat.out _ hE).mono ?_; rintro e w2 ⟨rfl, hx2⟩; refine hK _ _ (hE.trans hx2) ?_; clear hK K; (try simp only [Act.put, List.setIfInBounds_toArray, List.set_cons_zero, List.set_cons_succ]))
              have hE2 := hE.trans hx2
              (repeat (first | (refine walkR_still (v := ?_) rfl (by decide +kernel) rfl (fun _ _ _ h => h) hE2 ?_ ?_; rotate_left; (focus (intro w' hw'; obtain ⟨f0, f1⟩ := HCr.out w' hw'; obtain ⟨q1, q2, _⟩ := HQ.out w' hw'; go_simp; all_goals (with_reducible rfl))); simp only [Act.put, List.setIfInBounds_toArray, List.set_cons_zero, List.set_cons_succ]) | (refine walkR_skip rfl (by decide +kernel) rfl (fun _ _ _ h => h) hE2 ?_; simp only [Act.put, List.setIfInBounds_toArray, List.set_cons_zero, List.set_cons_succ])))
              (refine walkR_only (fun w' => Ext wr w') rfl (by decide +kernel) rfl (fun _ h => h) ?_; intro K hK; go_simp; refine (l1In_any _ _ _ _).mono ?_; rintro e w3 ⟨rfl, rfl⟩; refine hK _ _ (hE2) ?_; clear hK K; (try simp only [Act.put, List.setIfInBounds_toArray, List.set_cons_zero, List.set_cons_succ]))
              (repeat (first | (refine walkR_still (v := ?_) rfl (by decide +kernel) rfl (fun _ _ _ h => h) hE2 ?_ ?_; rotate_left; (focus (intro w' hw'; obtain ⟨f0, f1⟩ := HCr.out w' hw'; obtain ⟨q1, q2, _⟩ := HQ.out w' hw'; go_simp; all_goals (with_reducible rfl))); simp only [Act.put, List.setIfInBounds_toArray, List.set_cons_zero, List.set_cons_succ]) | (refine walkR_skip rfl (by decide +kernel) rfl (fun _ _ _ h => h) hE2 ?_; simp only [Act.put, List.setIfInBounds_toArray, List.set_cons_zero, List.set_cons_succ])))
              (refine walkR_tail (by rfl) (by kernel_rfl) ?_; simp only [List.drop_succ_cons, List.drop_zero])
              go_wp2
              go_roundw
              case rel =>
                refine ⟨1, by omega, fun j hj => ?_, by go_num, HX.out.trans hE2⟩
                obtain rfl : j = 0 := by omega
                exact HT.out
              case measure => simp [intOf]; omega
            | succ k =>
              have hk0 : (0 : Int) ≤ (k : Int) + 1 := by omega
              have hk1 : (0 : Int) < (k : Int) + 1 := by omega
              have hk2 : (k : Int) + 1 < n := by omega
              have hk3 : (k : Int) < n := by omega
              have hk4 : IntKind.i64.wrap (k : Int) = k := wrap_in (by omega) (by omega)
              obtain ⟨b', o', aV, cV, V, M, e', HV, _, hvl, hq⟩ := (G.out.below HX.out).way k (by omega)
              simp only [Option.some.injEq, Addr.mk.injEq, and_true] at e'
              obtain ⟨rfl, rfl⟩ := e'
              have HP := hidP hq
              clear hq
              have HSame := hidP (fun w' (hx : Ext wr w') => l1Same_any aV aw V.length W.length cV cw V W w' (HP.out w' hx).2.2 (HQ.out w' hx).2.2 hvl hwl)
              rw [show k + 1 - 1 = k from rfl, HV.out] at HSB
              cases hV : (V == W)
              · rw [hV] at HSame
                have HT : Hid (stepB r xs (k + 1) = true) := by
                  show _ = _
                  rw [HSB.out]
                  simp [bne, hV]
                clear hV HSB
                go_wp2
                have hE : Ext wr wr.drew := Ext.drew wr
                (refine walkR_start (fun w' => Ext wr w') 34 (by kernel_rfl) ?_; simp only [numbered, List.take_succ_cons, List.take_zero, Nat.zero_add, Nat.reduceAdd, List.length_cons, List.length_nil])
                (repeat (first | (refine walkR_still (v := ?_) rfl (by decide +kernel) rfl (fun _ _ _ h => h) hE ?_ ?_; rotate_left; (focus (intro w' hw'; obtain ⟨f0, f1⟩ := HCr.out w' hw'; obtain ⟨q1, q2, _⟩ := HQ.out w' hw'; obtain ⟨y1, y2, _⟩ := HP.out w' hw'; go_simp; all_goals (with_reducible rfl))); simp only [Act.put, List.setIfInBounds_toArray, List.set_cons_zero, List.set_cons_succ]) | (refine walkR_skip rfl (by decide +kernel) rfl (fun _ _ _ h => h) hE ?_; simp only [Act.put, List.setIfInBounds_toArray, List.set_cons_zero, List.set_cons_succ])))
                (refine walkR_only (fun w' => Ext wr w') rfl (by decide +kernel) rfl (fun _ h => h) ?_; intro K hK; go_simp; refine (HLat.out _ hE).mono ?_; rintro e w2 ⟨rfl, hx2⟩; refine hK _ _ (hE.trans hx2) ?_; clear hK K; (try simp only [Act.put, List.setIfInBounds_toArray, List.set_cons_zero, List.set_cons_succ]))
                have hE2 := hE.trans hx2
                (repeat (first | (refine walkR_still (v := ?_) rfl (by decide +kernel) rfl (fun _ _ _ h => h) hE2 ?_ ?_; rotate_left; (focus (intro w' hw'; obtain ⟨f0, f1⟩ := HCr.out w' hw'; obtain ⟨q1, q2, _⟩ := HQ.out w' hw'; obtain ⟨y1, y2, _⟩ := HP.out w' hw'; go_simp; all_goals (with_reducible rfl))); simp only [Act.put, List.setIfInBounds_toArray, List.set_cons_zero, List.set_cons_succ]) | (refine walkR_skip rfl (by decide +kernel) rfl (fun _ _ _ h => h) hE2 ?_; simp only [Act.put, List.setIfInBounds_toArray, List.set_cons_zero, List.set_cons_succ])))
                (refine walkR_only (fun w' => Ext wr w') rfl (by decide +kernel) rfl (fun _ h => h) ?_; intro K hK; go_simp; refine (l1In_any _ _ _ _).mono ?_; rintro e w3 ⟨rfl, rfl⟩; refine hK _ _ (hE2) ?_; clear hK K; (try simp only [Act.put, List.setIfInBounds_toArray, List.set_cons_zero, List.set_cons_succ]))
                (repeat (first | (refine walkR_still (v := ?_) rfl (by decide +kernel) rfl (fun _ _ _ h => h) hE2 ?_ ?_; rotate_left; (focus (intro w' hw'; obtain ⟨f0, f1⟩ := HCr.out w' hw'; obtain ⟨q1, q2, _⟩ := HQ.out w' hw'; obtain ⟨y1, y2, _⟩ := HP.out w' hw'; go_simp; all_goals (with_reducible rfl))); simp only [Act.put, List.setIfInBounds_toArray, List.set_cons_zero, List.set_cons_succ]) | (refine walkR_skip rfl (by decide +kernel) rfl (fun _ _ _ h => h) hE2 ?_; simp only [Act.put, List.setIfInBounds_toArray, List.set_cons_zero, List.set_cons_succ])))
                (refine walkR_only (fun w' => Ext wr w') rfl (by decide +kernel) rfl (fun _ h => h) ?_; intro K hK; go_simp; refine (HSame.out _ hE2).mono ?_; rintro e w4 ⟨rfl, m, rfl⟩; refine hK _ _ (hE2.trans (Ext.drewN _ _)) ?_; clear hK K; (try simp only [Act.put, List.setIfInBounds_toArray, List.set_cons_zero, List.set_cons_succ]))
                have hE3 := hE2.trans (Ext.drewN _ m)
                (repeat (first | (refine walkR_still (v := ?_) rfl (by decide +kernel) rfl (fun _ _ _ h => h) hE3 ?_ ?_; rotate_left; (focus (intro w' hw'; obtain ⟨f0, f1⟩ := HCr.out w' hw'; obtain ⟨q1, q2, _⟩ := HQ.out w' hw'; obtain ⟨y1, y2, _⟩ := HP.out w' hw'; go_simp; all_goals (with_reducible rfl))); simp only [Act.put, List.setIfInBounds_toArray, List.set_cons_zero, List.set_cons_succ]) | (refine walkR_skip rfl (by decide +kernel) rfl (fun _ _ _ h => h) hE3 ?_; simp only [Act.put, List.setIfInBounds_toArray, List.set_cons_zero, List.set_cons_succ])))
                (refine walkR_tail (by rfl) (by kernel_rfl) ?_; simp only [List.drop_succ_cons, List.drop_zero])
                go_wp2
                go_roundw
                case rel =>
                  refine ⟨k + 1 + 1, by omega, fun j hj => ?_, by go_num, HX.out.trans hE3⟩
                  rcases Nat.lt_succ_iff_lt_or_eq.1 hj with h3 | rfl
                  · exact HJ.out j h3
                  · exact HT.out
                case measure => simp [intOf]; omega
              · rw [hV] at HSame
                have HB := hidP (pathB_bad (r := r) (p := xs) (k + 1) (by have := L0.out; omega) (by rw [HSB.out]; simp [bne, hV]))
                clear hV HSB
                go_wp2
                have hE : Ext wr wr.drew := Ext.drew wr
                (refine walkR_start (fun w' => Ext wr w') 34 (by kernel_rfl) ?_; simp only [numbered, List.take_succ_cons, List.take_zero, Nat.zero_add, Nat.reduceAdd, List.length_cons, List.length_nil])
                (repeat (first | (refine walkR_still (v := ?_) rfl (by decide +kernel) rfl (fun _ _ _ h => h) hE ?_ ?_; rotate_left; (focus (intro w' hw'; obtain ⟨f0, f1⟩ := HCr.out w' hw'; obtain ⟨q1, q2, _⟩ := HQ.out w' hw'; obtain ⟨y1, y2, _⟩ := HP.out w' hw'; go_simp; all_goals (with_reducible rfl))); simp only [Act.put, List.setIfInBounds_toArray, List.set_cons_zero, List.set_cons_succ]) | (refine walkR_skip rfl (by decide +kernel) rfl (fun _ _ _ h => h) hE ?_; simp only [Act.put, List.setIfInBounds_toArray, List.set_cons_zero, List.set_cons_succ])))
                (refine walkR_only (fun w' => Ext wr w') rfl (by decide +kernel) rfl (fun _ h => h) ?_; intro K hK; go_simp; refine (HLat.out _ hE).mono ?_; rintro e w2 ⟨rfl, hx2⟩; refine hK _ _ (hE.trans hx2) ?_; clear hK K; (try simp only [Act.put, List.setIfInBounds_toArray, List.set_cons_zero, List.set_cons_succ]))
                have hE2 := hE.trans hx2
                (repeat (first | (refine walkR_still (v := ?_) rfl (by decide +kernel) rfl (fun _ _ _ h => h) hE2 ?_ ?_; rotate_left; (focus (intro w' hw'; obtain ⟨f0, f1⟩ := HCr.out w' hw'; obtain ⟨q1, q2, _⟩ := HQ.out w' hw'; obtain ⟨y1, y2, _⟩ := HP.out w' hw'; go_simp; all_goals (with_reducible rfl))); simp only [Act.put, List.setIfInBounds_toArray, List.set_cons_zero, List.set_cons_succ]) | (refine walkR_skip rfl (by decide +kernel) rfl (fun _ _ _ h => h) hE2 ?_; simp only [Act.put, List.setIfInBounds_toArray, List.set_cons_zero, List.set_cons_succ])))
                (refine walkR_only (fun w' => Ext wr w') rfl (by decide +kernel) rfl (fun _ h => h) ?_; intro K hK; go_simp; refine (l1In_any _ _ _ _).mono ?_; rintro e w3 ⟨rfl, rfl⟩; refine hK _ _ (hE2) ?_; clear hK K; (try simp only [Act.put, List.setIfInBounds_toArray, List.set_cons_zero, List.set_cons_succ]))
                (repeat (first | (refine walkR_still (v := ?_) rfl (by decide +kernel) rfl (fun _ _ _ h => h) hE2 ?_ ?_; rotate_left; (focus (intro w' hw'; obtain ⟨f0, f1⟩ := HCr.out w' hw'; obtain ⟨q1, q2, _⟩ := HQ.out w' hw'; obtain ⟨y1, y2, _⟩ := HP.out w' hw'; go_simp; all_goals (with_reducible rfl))); simp only [Act.put, List.setIfInBounds_toArray, List.set_cons_zero, List.set_cons_succ]) | (refine walkR_skip rfl (by decide +kernel) rfl (fun _ _ _ h => h) hE2 ?_; simp only [Act.put, List.setIfInBounds_toArray, List.set_cons_zero, List.set_cons_succ])))
                (refine walkR_only (fun w' => Ext wr w') rfl (by decide +kernel) rfl (fun _ h => h) ?_; intro K hK; go_simp; refine (HSame.out _ hE2).mono ?_; rintro e w4 ⟨rfl, m, rfl⟩; refine hK _ _ (hE2.trans (Ext.drewN _ _)) ?_; clear hK K; (try simp only [Act.put, List.setIfInBounds_toArray, List.set_cons_zero, List.set_cons_succ]))
                have hE3 := hE2.trans (Ext.drewN _ m)
                (repeat (first | (refine walkR_still (v := ?_) rfl (by decide +kernel) rfl (fun _ _ _ h => h) hE3 ?_ ?_; rotate_left; (focus (intro w' hw'; obtain ⟨f0, f1⟩ := HCr.out w' hw'; obtain ⟨q1, q2, _⟩ := HQ.out w' hw'; obtain ⟨y1, y2, _⟩ := HP.out w' hw'; go_simp; all_goals (with_reducible rfl))); simp only [Act.put, List.setIfInBounds_toArray, List.set_cons_zero, List.set_cons_succ]) | (refine walkR_skip rfl (by decide +kernel) rfl (fun _ _ _ h => h) hE3 ?_; simp only [Act.put, List.setIfInBounds_toArray, List.set_cons_zero, List.set_cons_succ])))
                (refine walkR_tail (by rfl) (by kernel_rfl) ?_; simp only [List.drop_succ_cons, List.drop_zero])
                go_wp2
                go_ret
                exact ⟨ret_bool HB.out.symm, HX1.out.trans (HX.out.trans hE3)⟩
      · obtain rfl : k = n := by omega
        have HE := hidP (pathB_end (r := r) (L0.out) h60 HJ.out)
        have HTm := hidP (l9Time_any a k c xs wr (G.out.below HX.out) (by omega) (fun j hj => stepB_len (HJ.out j hj)))
        have hbd := (timeAt_bounds (p := xs) (n := k) (fun j hj => stepB_len (HJ.out j hj)) k (Nat.le_refl k))
        obtain ⟨T, hT⟩ : ∃ T, T = timeAt xs k := ⟨_, rfl⟩
        rw [← hT] at HE HTm hbd
        have htm : Int.tmod T 27720 = T % 27720 := Int.tmod_eq_emod_of_nonneg hbd.1
        clear hT
        by_cases hz : T % 27720 = 0
        · have HR : Hid (pathB r xs = decide (T ≤ 83160)) := by show _ = _; rw [HE.out]; simp [hz]
          go_wp2_with (refine HTm.out.mono ?_; rintro e w' ⟨rfl, rfl⟩)
          go_ret
          exact ⟨ret_bool HR.out.symm, HX1.out.trans HX.out⟩
        · have HR : Hid (pathB r xs = false) := by show _ = _; rw [HE.out]; simp [hz]
          have hz' : (T % 27720 == 0) = false := by simpa using hz
          go_wp2_with (refine HTm.out.mono ?_; rintro e w' ⟨rfl, rfl⟩)
          go_ret
          exact ⟨ret_bool HR.out.symm, HX1.out.trans HX.out⟩
  · have HB := hidP (pathB_long (r := r) (p := xs) (by have := L0.out; omega))
    have h60' : 60 < (n : Int) := by omega
    go_wp2
    go_ret
    exact ⟨ret_bool HB.out.symm, HX1.out⟩
end Go.Proofs.YtdhlapppahkjeaaGreatDoor

namespace Go.Proofs.YtdhlapppahkjeaaGreatDoor
open Go.RowKit

theorem IntsAt.cells {w : World} {b o n : Nat} {xs : List Int} (h : IntsAt w (some ⟨b, o, none⟩) n xs) : ∀ j, j < xs.length → w.cell? ⟨b, o + j, none⟩ = some (.int .i64 (xs.getD j 0)) :=
  fun j hj => h.atc j (by rw [← h.len]; exact hj)
theorem IntsAt.zero {w : World} {a : Option Addr} {n : Nat} {xs : List Int} (h : IntsAt w a n xs) (h0 : n = 0) : xs = [] := List.eq_nil_of_length_eq_zero (by rw [h.len, h0])

theorem containsI_any (a : Option Addr) (n c : Nat) (xs : List Int) (x : Int) (w : World) (h : IntsAt w a n xs) (hn : n ≤ 1000000000000) :
    Calls Tryz.prog 113 #[.slice a n c, .int .i64 x] w fun e w' => e = .returned (.bool (xs.contains x)) ∧ w' = w := by
  have hl := h.len
  rcases Nat.eq_zero_or_pos n with rfl | h0
  · rw [h.zero rfl]
    exact (Tryz.slices_Contains_int_empty a c x w)
  · obtain ⟨b, o, rfl, _⟩ := h.get 0 h0
    refine (Tryz.slices_Contains_int b o n c xs x w (by omega) (by omega) h.cells).mono fun e w' ⟨he, hw⟩ => ⟨?_, hw⟩
    rw [he, List.take_of_length_le (by omega)]
theorem indexI_any (a : Option Addr) (n c : Nat) (xs : List Int) (x : Int) (w : World) (h : IntsAt w a n xs) (hn : n ≤ 1000000000000) :
    Calls Tryz.prog 138 #[.slice a n c, .int .i64 x] w fun e w' => e = .returned (.int .i64 (Lib.idxOf xs x)) ∧ w' = w := by
  have hl := h.len
  rcases Nat.eq_zero_or_pos n with rfl | h0
  · rw [h.zero rfl]
    exact (Tryz.slices_Index_int_empty a c x w)
  · obtain ⟨b, o, rfl, _⟩ := h.get 0 h0
    refine (Tryz.slices_Index_int b o n c xs x w (by omega) (by omega) h.cells).mono fun e w' ⟨he, hw⟩ => ⟨?_, hw⟩
    rw [he, List.take_of_length_le (by omega)]
theorem minI_any (a : Option Addr) (n c : Nat) (xs : List Int) (w : World) (h : IntsAt w a n xs) (h0 : 0 < n) (hn : n ≤ 1000000000000) :
    Calls Tryz.prog 71 #[.slice a n c] w fun e w' => e = .returned (.int .i64 (Lib.minOf xs)) ∧ w' = w := by
  have hl := h.len
  obtain ⟨b, o, rfl, _⟩ := h.get 0 h0
  refine (Tryz.slices_Min_int b o n c xs w h0 (by omega) (by omega) h.cells).mono fun e w' ⟨he, hw⟩ => ⟨?_, hw⟩
  rw [he, List.take_of_length_le (by omega)]
theorem equalI_any (a a' : Option Addr) (n c n' c' : Nat) (xs ys : List Int) (w : World) (h : IntsAt w a n xs) (h' : IntsAt w a' n' ys) (hn : n ≤ 1000000000000) (hn' : n' ≤ 1000000000000) :
    Calls Tryz.prog 67 #[.slice a n c, .slice a' n' c'] w fun e w' => e = .returned (.bool (xs == ys)) ∧ ∃ m, w' = w.drewN m := by
  have hl := h.len
  have hl' := h'.len
  by_cases hnn : n = n'
  · subst hnn
    rcases Nat.eq_zero_or_pos n with rfl | h0
    · rw [h.zero rfl, h'.zero rfl]
      exact (Tryz.slices_Equal_int_empty a a' c 0 c' w (by omega)).mono fun e w' ⟨he, hw⟩ => ⟨he, 0, hw⟩
    · obtain ⟨b, o, rfl, _⟩ := h.get 0 h0
      obtain ⟨b', o', rfl, _⟩ := h'.get 0 h0
      refine (Tryz.slices_Equal_int b o n c b' o' n c' xs ys w (by omega) (by omega) (by omega) (by omega) h.cells h'.cells).mono fun e w' ⟨he, hw⟩ => ⟨?_, hw⟩
      rw [he, List.take_of_length_le (by omega), List.take_of_length_le (by omega)]
  · have hb : (xs == ys) = false := by
      rw [beq_eq_false_iff_ne]
      intro e
      rw [e] at hl
      omega
    rw [hb]
    exact (Tryz.slices_Equal_int_lens a a' n c n' c' w hnn).mono fun e w' ⟨he, hw⟩ => ⟨he, 0, hw⟩
end Go.Proofs.YtdhlapppahkjeaaGreatDoor

namespace Go.Proofs.YtdhlapppahkjeaaGreatDoor

/-- a search for a list of m candidates, one after the other -/
def searchB (cand : List Nat) (m : Nat) (chk : List Nat → Nat → Bool) : Nat → List Nat → Bool
  | 0, used => decide (used.length = m)
  | f + 1, used => decide (used.length = m) || cand.any fun i => !used.contains i && chk used i && searchB cand m chk f (used ++ [i])

structure Found (cand : List Nat) (m : Nat) (chk : List Nat → Nat → Bool) (used full : List Nat) : Prop where
  len : full.length = m
  pre : ∃ ext, full = used ++ ext
  nodup : used.Nodup → full.Nodup
  sub : (∀ a ∈ used, a ∈ cand) → ∀ a ∈ full, a ∈ cand
  ok : ∀ p, used.length ≤ p → p < m → chk (full.take p) (full.getD p 0) = true

theorem searchB_sound {cand : List Nat} {m : Nat} {chk : List Nat → Nat → Bool} : ∀ (f : Nat) (used : List Nat), searchB cand m chk f used = true → ∃ full, Found cand m chk used full
  | 0, used, h => by
    have h' : used.length = m := by simpa [searchB] using h
    exact ⟨used, h', ⟨[], by simp⟩, id, id, fun p h1 h2 => by omega⟩
  | f + 1, used, h => by
    simp only [searchB, Bool.or_eq_true, decide_eq_true_eq, List.any_eq_true, Bool.and_eq_true, Bool.not_eq_true', List.contains_eq_mem, decide_eq_false_iff_not] at h
    rcases h with h | ⟨i, hi, ⟨hn, hc⟩, hs⟩
    · exact ⟨used, h, ⟨[], by simp⟩, id, id, fun p h1 h2 => by omega⟩
    · obtain ⟨full, h1, ⟨ext, rfl⟩, h3, h4, h5⟩ := searchB_sound f _ hs
      refine ⟨_, h1, ⟨i :: ext, by simp⟩, fun hd => h3 ?_, fun hu => h4 ?_, fun p hp hm => ?_⟩
      · rw [List.nodup_append]
        exact ⟨hd, by simp, fun a ha b hb => by simp at hb; subst hb; rintro rfl; exact hn ha⟩
      · intro a ha
        simp only [List.mem_append, List.mem_singleton] at ha
        rcases ha with ha | rfl
        · exact hu a ha
        · exact hi
      · rcases Nat.eq_or_lt_of_le hp with rfl | hp
        · simp only [List.append_assoc, List.take_left', List.singleton_append]
          rw [show (used ++ i :: ext).getD used.length 0 = i by simp [List.getD_eq_getElem?_getD]]
          exact hc
        · exact h5 p (by simp; omega) hm

theorem searchB_complete {cand : List Nat} {m : Nat} {chk : List Nat → Nat → Bool} : ∀ (f : Nat) (used ext : List Nat), (used ++ ext).length = m → ext.length ≤ f → (used ++ ext).Nodup → (∀ a ∈ ext, a ∈ cand) →
    (∀ p, used.length ≤ p → p < m → chk ((used ++ ext).take p) ((used ++ ext).getD p 0) = true) → searchB cand m chk f used = true
  | 0, used, ext, hl, hf, _, _, _ => by
    have : ext = [] := List.eq_nil_of_length_eq_zero (by omega)
    subst this
    simpa [searchB] using hl
  | f + 1, used, [], hl, _, _, _, _ => by simp [searchB]; left; simpa using hl
  | f + 1, used, i :: ext, hl, hf, hd, hc, hk => by
    simp only [searchB, Bool.or_eq_true, decide_eq_true_eq, List.any_eq_true, Bool.and_eq_true, Bool.not_eq_true', List.contains_eq_mem, decide_eq_false_iff_not]
    right
    refine ⟨i, hc i (by simp), ⟨?_, ?_⟩, ?_⟩
    · intro hm
      rw [List.nodup_append] at hd
      exact hd.2.2 i hm i (by simp) rfl
    · have := hk used.length (Nat.le_refl _) (by rw [← hl]; simp)
      simp only [List.take_left'] at this
      rw [show (used ++ i :: ext).getD used.length 0 = i by simp [List.getD_eq_getElem?_getD]] at this
      exact this
    · refine searchB_complete f (used ++ [i]) ext (by simpa using hl) (by simp at hf; omega) (by simpa using hd) (fun a ha => hc a (by simp [ha])) fun p hp hm => ?_
      have := hk p (by simp at hp; omega) hm
      simpa using this

/-! ### types -/
def atM (xs : List Int) (r i j : Nat) : Int := xs.getD (i * r + j) 0
def pNames : List (List UInt8) := [[65, 49], [65, 50], [65, 51], [65, 52], [66, 50], [66, 51], [66, 52], [67, 51], [67, 52], [68, 52], [70, 52], [71, 50]]
def pRanks : List Nat := [1, 2, 3, 4, 2, 3, 4, 3, 4, 4, 4, 2]
def pRank (k : Nat) : Nat := pRanks.getD k 0
def pMats : List (List Int) := [
  [2],
  [2, -1, -1, 2],
  [2, -1, 0, -1, 2, -1, 0, -1, 2],
  [2, -1, 0, 0, -1, 2, -1, 0, 0, -1, 2, -1, 0, 0, -1, 2],
  [2, -1, -2, 2],
  [2, -1, 0, -1, 2, -1, 0, -2, 2],
  [2, -1, 0, 0, -1, 2, -1, 0, 0, -1, 2, -1, 0, 0, -2, 2],
  [2, -1, 0, -1, 2, -2, 0, -1, 2],
  [2, -1, 0, 0, -1, 2, -1, 0, 0, -1, 2, -2, 0, 0, -1, 2],
  [2, -1, 0, 0, -1, 2, -1, -1, 0, -1, 2, 0, 0, -1, 0, 2],
  [2, -1, 0, 0, -1, 2, -1, 0, 0, -2, 2, -1, 0, 0, -1, 2],
  [2, -3, -1, 2]]
def pMat (k : Nat) : List Int := pMats.getD k []

/-- the lists of parts in ascending order, from one on, whose ranks are together so much -/
def typesL : Nat → Nat → Nat → List (List Nat)
  | 0, _, _ => []
  | f + 1, rank, lo => if rank = 0 then [[]] else
      (List.range (12 - lo)).flatMap fun d => if rank < pRank (lo + d) then [] else (typesL f (rank - pRank (lo + d)) (lo + d)).map ((lo + d) :: ·)

/-- the number in row p and column q of the matrix with blocks one after the other -/
def blockE : List Nat → Nat → Nat → Int
  | [], _, _ => 0
  | k :: ks, p, q => if p < pRank k then (if q < pRank k then atM (pMat k) (pRank k) p q else 0) else if q < pRank k then 0 else blockE ks (p - pRank k) (q - pRank k)
def rankL (ks : List Nat) : Nat := (ks.map pRank).foldr (· + ·) 0
def blockL (ks : List Nat) : List Int := (List.range (rankL ks * rankL ks)).map fun m => blockE ks (m / rankL ks) (m % rankL ks)

/-- the program's test of one more row -/
def rowChk (xs : List Int) (r : Nat) (due : List Int) (dr : Nat) (used : List Nat) (i : Nat) : Bool :=
  (atM xs r i i == atM due dr used.length used.length) && (List.range used.length).all fun j => atM xs r i (used.getD j 0) == atM due dr used.length j && atM xs r (used.getD j 0) i == atM due dr j used.length
def reordB (xs : List Int) (r : Nat) (due : List Int) : Bool := searchB (List.range r) r (rowChk xs r due r) r []
def typeB (r : Int) (xs : List Int) : Bool := decide (1 ≤ r ∧ r ≤ 4) && decide ((xs.length : Int) = r * r) && (typesL 5 r.toNat 0).any fun ks => reordB xs r.toNat (blockL ks)

/-! ### the reference -/
/-- the rows that are connected with the rows in out, from place k and column j on -/
def partGo (bits : List Bool) (r : Nat) : Nat → Nat → Nat → List Nat → List Nat
  | 0, _, _, out => out
  | f + 1, k, j, out =>
    if k < out.length then
      if j < r then partGo bits r f k (j + 1) (if bits.getD (out.getD k 0 * r + j) false && !out.contains j then out ++ [j] else out)
      else partGo bits r f (k + 1) 0 out
    else out
def bitsOf (xs : List Int) : List Bool := xs.map fun x => x != 0
def partL (bits : List Bool) (r i : Nat) : List Nat := partGo bits r 64 0 0 [i]
def fitsB (xs : List Int) (r : Nat) (rows : List Nat) (k : Nat) : Bool := searchB rows rows.length (rowChk xs r (pMat k) (pRank k)) rows.length []
def fitAny (xs : List Int) (r : Nat) (rows : List Nat) : Bool := (List.range 12).any fun k => decide (pRank k = rows.length) && fitsB xs r rows k
/-- the parts from row i on -/
def partsGo (bits : List Bool) (r : Nat) : Nat → Nat → List Nat → List (List Nat)
  | 0, _, _ => []
  | f + 1, i, done => if i < r then (if done.contains i then partsGo bits r f (i + 1) done else partL bits r i :: partsGo bits r f (i + 1) (done ++ partL bits r i)) else []
def entryB (xs : List Int) (r : Nat) : Bool := (List.range xs.length).all fun m => decide (-3 ≤ xs.getD m 0 ∧ xs.getD m 0 ≤ 2) && (decide (xs.getD m 0 = 0) || decide (atM xs r (m % r) (m / r) ≠ 0))
def partsB (r : Int) (xs : List Int) : Bool := decide (1 ≤ r ∧ r ≤ 4) && decide ((xs.length : Int) = r * r) && entryB xs r.toNat && (partsGo (bitsOf xs) r.toNat 5 0 []).all fun rows => fitAny xs r.toNat rows

/-! ### the program's search finds the orders -/
/-- the rows s of a matrix make the matrix E -/
def Match (xs : List Int) (r : Nat) (s : List Nat) (E : Nat → Nat → Int) : Prop := ∀ p q, p < s.length → q < s.length → atM xs r (s.getD p 0) (s.getD q 0) = E p q

theorem getD_take {α : Type} (l : List α) (p j : Nat) (d : α) (h : j < p) : (l.take p).getD j d = l.getD j d := by simp [List.getD_eq_getElem?_getD, h]
theorem match_of_chk {xs due : List Int} {r dr m : Nat} {full : List Nat} (hl : full.length = m) (h : ∀ p, 0 ≤ p → p < m → rowChk xs r due dr (full.take p) (full.getD p 0) = true) : Match xs r full fun p q => atM due dr p q := by
  have key : ∀ p q, p < m → q < p → atM xs r (full.getD p 0) (full.getD q 0) = atM due dr p q ∧ atM xs r (full.getD q 0) (full.getD p 0) = atM due dr q p := by
    intro p q hp hq
    have := h p (Nat.zero_le _) hp
    simp only [rowChk, Bool.and_eq_true, beq_iff_eq, List.all_eq_true, List.mem_range] at this
    have hlt : (full.take p).length = p := by rw [List.length_take]; omega
    have h2 := this.2 q (by rw [hlt]; exact hq)
    rw [hlt, getD_take _ _ _ _ hq] at h2
    exact h2
  intro p q hp hq
  rw [hl] at hp hq
  rcases Nat.lt_trichotomy p q with h1 | rfl | h1
  · exact (key q p hq h1).2
  · have := h p (Nat.zero_le _) hp
    simp only [rowChk, Bool.and_eq_true, beq_iff_eq] at this
    have hlt : (full.take p).length = p := by rw [List.length_take]; omega
    rw [hlt] at this
    exact this.1
  · exact (key p q hp h1).1
theorem chk_of_match {xs due : List Int} {r dr m : Nat} {full : List Nat} (hl : full.length = m) (h : Match xs r full fun p q => atM due dr p q) (p : Nat) (hp : p < m) : rowChk xs r due dr (full.take p) (full.getD p 0) = true := by
  have hlt : (full.take p).length = p := by rw [List.length_take]; omega
  simp only [rowChk, Bool.and_eq_true, beq_iff_eq, List.all_eq_true, List.mem_range]
  rw [hlt]
  refine ⟨h p p (by omega) (by omega), fun j hj => ?_⟩
  rw [getD_take _ _ _ _ hj]
  exact ⟨h p j (by omega) (by omega), h j p (by omega) (by omega)⟩

/-- an order of the rows -/
def Perm (r : Nat) (s : List Nat) : Prop := s.length = r ∧ s.Nodup ∧ ∀ a ∈ s, a < r
theorem reordB_iff {xs due : List Int} {r : Nat} : reordB xs r due = true ↔ ∃ s, Perm r s ∧ Match xs r s fun p q => atM due r p q := by
  constructor
  · intro h
    obtain ⟨full, h1, _, h3, h4, h5⟩ := searchB_sound _ _ h
    exact ⟨full, ⟨h1, h3 (by simp), fun a ha => List.mem_range.1 (h4 (by simp) a ha)⟩, match_of_chk h1 fun p hp hm => h5 p (by simp) hm⟩
  · rintro ⟨s, ⟨h1, h2, h3⟩, hm⟩
    refine searchB_complete r [] s (by simpa using h1) (by omega) (by simpa using h2) (fun a ha => List.mem_range.2 (h3 a ha)) fun p _ hp => ?_
    simpa using chk_of_match h1 hm p hp

theorem rankL_cons (k : Nat) (ks : List Nat) : rankL (k :: ks) = pRank k + rankL ks := rfl
theorem atM_blockL (ks : List Nat) (p q : Nat) (hp : p < rankL ks) (hq : q < rankL ks) : atM (blockL ks) (rankL ks) p q = blockE ks p q := by
  unfold atM blockL
  have h1 : p * rankL ks + q < rankL ks * rankL ks := by
    have : (p + 1) * rankL ks ≤ rankL ks * rankL ks := Nat.mul_le_mul_right _ hp
    rw [Nat.add_mul, Nat.one_mul] at this
    omega
  have h2 : (p * rankL ks + q) / rankL ks = p := by
    rw [Nat.add_comm, Nat.add_mul_div_right _ _ (by omega), Nat.div_eq_of_lt hq, Nat.zero_add]
  have h3 : (p * rankL ks + q) % rankL ks = q := by rw [Nat.add_comm, Nat.add_mul_mod_self_right, Nat.mod_eq_of_lt hq]
  simp [List.getD_eq_getElem?_getD, h1, h2, h3]

/-- rows of the matrix, in some order, make blocks of types, in whatever order -/
def Typed (xs : List Int) (r : Nat) : Prop := ∃ ks s, (∀ k ∈ ks, k < 12) ∧ rankL ks = r ∧ Perm r s ∧ Match xs r s (blockE ks)

/-! finite facts -/
def seqsL : Nat → Nat → List (List Nat)
  | 0, _ => []
  | f + 1, rank => if rank = 0 then [[]] else (List.range 12).flatMap fun k => if rank < pRank k then [] else (seqsL f (rank - pRank k)).map (k :: ·)
def permsL : Nat → List (List Nat)
  | 0 => [[]]
  | n + 1 => (permsL n).flatMap fun s => (List.range (n + 1)).map fun i => s.take i ++ n :: s.drop i
theorem pRank_pos : ∀ k, k < 12 → 1 ≤ pRank k ∧ pRank k ≤ 4 := by decide
theorem mem_seqs : ∀ (f : Nat) (ks : List Nat), (∀ k ∈ ks, k < 12) → rankL ks < f → ks ∈ seqsL f (rankL ks)
  | 0, _, _, h => by omega
  | f + 1, [], _, _ => by simp [seqsL, rankL]
  | f + 1, k :: ks, hk, h => by
    rw [rankL_cons] at h ⊢
    have h1 := pRank_pos k (hk k (by simp))
    have ih := mem_seqs f ks (fun a ha => hk a (by simp [ha])) (by omega)
    unfold seqsL
    rw [if_neg (by omega)]
    simp only [List.mem_flatMap, List.mem_range]
    refine ⟨k, hk k (by simp), ?_⟩
    rw [if_neg (by omega), show pRank k + rankL ks - pRank k = rankL ks by omega]
    exact List.mem_map.2 ⟨ks, ih, rfl⟩
theorem types_ok : ∀ r, r < 5 → ∀ ks ∈ typesL 5 r 0, (∀ k ∈ ks, k < 12) ∧ rankL ks = r := by decide +kernel
/-- blocks in whatever order can be put into the order of the types' list -/
def sortB (r : Nat) (ks : List Nat) : Bool := (typesL 5 r 0).any fun ks' => (permsL r).any fun t => (List.range r).all fun p => (List.range r).all fun q => blockE ks (t.getD p 0) (t.getD q 0) == blockE ks' p q
theorem permsL_ok : ∀ r, r < 5 → ∀ t ∈ permsL r, t.length = r ∧ t.Nodup ∧ ∀ a ∈ t, a < r := by decide +kernel
theorem sortB_ok : ∀ r, r < 5 → 1 ≤ r → ∀ ks ∈ seqsL 5 r, sortB r ks = true := by decide +kernel
theorem blocks_sorted {r : Nat} (h1 : r < 5) (h2 : 1 ≤ r) {ks : List Nat} (hk : ks ∈ seqsL 5 r) : ∃ ks' ∈ typesL 5 r 0, ∃ t, Perm r t ∧ ∀ p q, p < r → q < r → blockE ks (t.getD p 0) (t.getD q 0) = blockE ks' p q := by
  have h := sortB_ok r h1 h2 ks hk
  simp only [sortB, List.any_eq_true, List.all_eq_true, List.mem_range, beq_iff_eq] at h
  obtain ⟨ks', hk', t, ht, hm⟩ := h
  exact ⟨ks', hk', t, permsL_ok r h1 t ht, fun p q hp hq => hm p hp q hq⟩

theorem getD_lt_of {r : Nat} {s : List Nat} (h : ∀ a ∈ s, a < r) {p : Nat} (hp : p < s.length) : s.getD p 0 < r := by
  rw [List.getD_eq_getElem?_getD, List.getElem?_eq_getElem hp]
  exact h _ (List.getElem_mem hp)
theorem nodup_map_getD {s : List Nat} (hs : s.Nodup) : ∀ (t : List Nat), t.Nodup → (∀ a ∈ t, a < s.length) → (t.map fun a => s.getD a 0).Nodup
  | [], _, _ => by simp
  | a :: t, hd, hl => by
    rw [List.nodup_cons] at hd
    rw [List.map_cons, List.nodup_cons]
    refine ⟨?_, nodup_map_getD hs t hd.2 fun b hb => hl b (by simp [hb])⟩
    intro hm
    obtain ⟨b, hb, e⟩ := List.mem_map.1 hm
    have ha := hl a (by simp)
    have hb' := hl b (by simp [hb])
    have : b = a := by
      simp only [List.getD_eq_getElem?_getD, List.getElem?_eq_getElem ha, List.getElem?_eq_getElem hb', Option.getD_some] at e
      exact (List.getElem_inj hs).1 e
    subst this
    exact hd.1 hb
/-- an order of an order -/
theorem Perm.comp {r : Nat} {s t : List Nat} (hs : Perm r s) (ht : Perm r t) : Perm r (t.map fun a => s.getD a 0) := by
  refine ⟨by rw [List.length_map, ht.1], nodup_map_getD hs.2.1 t ht.2.1 (by rw [hs.1]; exact ht.2.2), fun a ha => ?_⟩
  obtain ⟨b, hb, rfl⟩ := List.mem_map.1 ha
  exact getD_lt_of hs.2.2 (by rw [hs.1]; exact ht.2.2 b hb)
theorem getD_map (t s : List Nat) (p : Nat) (hp : p < t.length) : (t.map fun a => s.getD a 0).getD p 0 = s.getD (t.getD p 0) 0 := by
  simp [List.getD_eq_getElem?_getD, hp]
theorem typeB_of_typed {xs : List Int} {r : Nat} (h1 : 1 ≤ r) (h2 : r ≤ 4) (h : Typed xs r) : ∃ ks ∈ typesL 5 r 0, reordB xs r (blockL ks) = true := by
  obtain ⟨ks, s, hk, hr, hs, hm⟩ := h
  have hk' := mem_seqs 5 ks hk (by omega)
  rw [hr] at hk'
  obtain ⟨ks', hk2, t, ht, he⟩ := blocks_sorted (by omega) h1 hk'
  refine ⟨ks', hk2, reordB_iff.2 ⟨_, hs.comp ht, fun p q hp hq => ?_⟩⟩
  have hr' := (types_ok r (by omega) ks' hk2).2
  rw [List.length_map, ht.1] at hp hq
  rw [getD_map _ _ _ (by rw [ht.1]; exact hp), getD_map _ _ _ (by rw [ht.1]; exact hq)]
  rw [hm _ _ (by rw [hs.1]; exact getD_lt_of ht.2.2 (by rw [ht.1]; exact hp)) (by rw [hs.1]; exact getD_lt_of ht.2.2 (by rw [ht.1]; exact hq)), he p q hp hq]
  have := atM_blockL ks' p q (by omega) (by omega)
  rw [hr'] at this
  exact this.symm
theorem typed_of_typeB {xs : List Int} {r : Nat} (h2 : r ≤ 4) {ks : List Nat} (hk : ks ∈ typesL 5 r 0) (h : reordB xs r (blockL ks) = true) : Typed xs r := by
  obtain ⟨s, hs, hm⟩ := reordB_iff.1 h
  obtain ⟨h3, h4⟩ := types_ok r (by omega) ks hk
  refine ⟨ks, s, h3, h4, hs, fun p q hp hq => ?_⟩
  rw [hm p q hp hq]
  have := atM_blockL ks p q (by have := hs.1; omega) (by have := hs.1; omega)
  rw [h4] at this
  exact this

/-! ### the reference finds them -/
/-- a matrix in an order of rows, made -/
def madeL (r : Nat) (ks s : List Nat) : List Int := (List.range (r * r)).map fun m => blockE ks (s.idxOf (m / r)) (s.idxOf (m % r))
def okB (r : Nat) : Bool := (typesL 5 r 0).all fun ks => (permsL r).all fun s => partsB r (madeL r ks s)
theorem okB_all : ∀ r, r < 5 → 1 ≤ r → okB r = true := by decide +kernel
def tuples : Nat → Nat → List (List Nat)
  | 0, _ => [[]]
  | n + 1, r => (List.range r).flatMap fun a => (tuples n r).map (a :: ·)
theorem perms_all : ∀ r, r < 5 → ∀ s ∈ tuples r r, s.Nodup → s ∈ permsL r := by decide +kernel
theorem mem_tuples : ∀ (n r : Nat) (s : List Nat), s.length = n → (∀ a ∈ s, a < r) → s ∈ tuples n r
  | 0, _, s, h, _ => by simp [List.eq_nil_of_length_eq_zero h, tuples]
  | n + 1, r, [], h, _ => by simp at h
  | n + 1, r, a :: s, h, hl => by
    simp only [tuples, List.mem_flatMap, List.mem_range, List.mem_map]
    exact ⟨a, hl a (by simp), s, mem_tuples n r s (by simpa using h) (fun b hb => hl b (by simp [hb])), rfl⟩
theorem perm_mem {r : Nat} (hr : r < 5) {s : List Nat} (h : Perm r s) : s ∈ permsL r := perms_all r hr s (mem_tuples r r s h.1 h.2.2) h.2.1
theorem perm_idx {r : Nat} (hr : r < 5) {s : List Nat} (h : Perm r s) : ∀ a, a < r → s.idxOf a < r ∧ s.getD (s.idxOf a) 0 = a := by
  have key : ∀ r, r < 5 → ∀ s ∈ permsL r, ∀ a, a < r → s.idxOf a < r ∧ s.getD (s.idxOf a) 0 = a := by decide +kernel
  exact key r hr s (perm_mem hr h)
theorem made_eq {xs : List Int} {r : Nat} (hr : r < 5) (hl : xs.length = r * r) {ks s : List Nat} (hs : Perm r s) (hm : Match xs r s (blockE ks)) : xs = madeL r ks s := by
  apply List.ext_getElem
  · simp [madeL, hl]
  · intro m h1 h2
    rw [hl] at h1
    have hr0 : 0 < r := by
      rcases Nat.eq_zero_or_pos r with rfl | h
      · omega
      · exact h
    have hp : m / r < r := by rw [Nat.div_lt_iff_lt_mul hr0]; exact h1
    have hq : m % r < r := Nat.mod_lt _ hr0
    obtain ⟨i1, i2⟩ := perm_idx hr hs _ hp
    obtain ⟨j1, j2⟩ := perm_idx hr hs _ hq
    have := hm _ _ (by rw [hs.1]; exact i1) (by rw [hs.1]; exact j1)
    rw [i2, j2] at this
    simp only [madeL, List.getElem_map, List.getElem_range]
    rw [← this]
    unfold atM
    rw [Nat.mul_comm, Nat.div_add_mod]
    simp [List.getD_eq_getElem?_getD, hl, h1]
theorem partsB_of_typed {xs : List Int} {r : Nat} (h1 : 1 ≤ r) (h2 : r ≤ 4) (hl : xs.length = r * r) (h : Typed xs r) : partsB r xs = true := by
  obtain ⟨ks, hk, h⟩ := typeB_of_typed h1 h2 h
  obtain ⟨s, hs, hm⟩ := reordB_iff.1 h
  obtain ⟨h3, h4⟩ := types_ok r (by omega) ks hk
  have := okB_all r (by omega) h1
  simp only [okB, List.all_eq_true] at this
  have hp := this ks hk s (perm_mem (by omega) hs)
  rw [← made_eq (by omega) hl hs (fun p q hp hq => by
    rw [hm p q hp hq]
    have := atM_blockL ks p q (by have := hs.1; omega) (by have := hs.1; omega)
    rw [h4] at this
    exact this)] at hp
  exact hp

/-! ### and nothing else -/
def bitAt (bits : List Bool) (r a b : Nat) : Bool := bits.getD (a * r + b) false
def apartB (bits : List Bool) (r : Nat) : List (List Nat) → Bool
  | [] => true
  | c :: cs => (c.all fun a => cs.flatten.all fun b => !bitAt bits r a b && !bitAt bits r b a && a != b) && apartB bits r cs
def compsB (bits : List Bool) (r : Nat) : Bool := decide ((partsGo bits r 5 0 []).flatten.length = r) && (partsGo bits r 5 0 []).flatten.all (fun a => decide (a < r)) && apartB bits r (partsGo bits r 5 0 [])
theorem comps1 : ∀ a : Bool, compsB [a] 1 = true := by decide +kernel
theorem comps2 : ∀ a b c : Bool, compsB [a, b, b, c] 2 = true := by decide +kernel
theorem comps3 : ∀ a b c d e f : Bool, compsB [a, b, c, b, d, e, c, e, f] 3 = true := by decide +kernel
theorem comps4 : ∀ a b c d e f g h i j : Bool, compsB [a, b, c, d, b, e, f, g, c, f, h, i, d, g, i, j] 4 = true := by decide +kernel
theorem comps_all {bits : List Bool} {r : Nat} (h1 : 1 ≤ r) (h2 : r ≤ 4) (hl : bits.length = r * r) (hs : ∀ i j, i < r → j < r → bitAt bits r i j = bitAt bits r j i) : compsB bits r = true := by
  obtain rfl | rfl | rfl | rfl : r = 1 ∨ r = 2 ∨ r = 3 ∨ r = 4 := by omega
  · match bits, hl with
    | [a], _ => exact comps1 a
  · match bits, hl with
    | [a, b, b', c], _ =>
      have h := hs 0 1 (by omega) (by omega)
      simp [bitAt] at h
      subst h
      exact comps2 _ _ _
  · match bits, hl with
    | [a, b, c, b', d, e, c', e', f], _ =>
      have h1 := hs 0 1 (by omega) (by omega)
      have h2 := hs 0 2 (by omega) (by omega)
      have h3 := hs 1 2 (by omega) (by omega)
      simp [bitAt] at h1 h2 h3
      subst h1 h2 h3
      exact comps3 _ _ _ _ _ _
  · match bits, hl with
    | [a, b, c, d, b', e, f, g, c', f', h, i, d', g', i', j], _ =>
      have h1 := hs 0 1 (by omega) (by omega)
      have h2 := hs 0 2 (by omega) (by omega)
      have h3 := hs 0 3 (by omega) (by omega)
      have h4 := hs 1 2 (by omega) (by omega)
      have h5 := hs 1 3 (by omega) (by omega)
      have h6 := hs 2 3 (by omega) (by omega)
      simp [bitAt] at h1 h2 h3 h4 h5 h6
      subst h1 h2 h3 h4 h5 h6
      exact comps4 _ _ _ _ _ _ _ _ _ _

theorem getD_app_l {α : Type} (u s : List α) (p : Nat) (d : α) (h : p < u.length) : (u ++ s).getD p d = u.getD p d := by simp [List.getD_eq_getElem?_getD, List.getElem?_append_left h]
theorem getD_app_r {α : Type} (u s : List α) (p : Nat) (d : α) (h : u.length ≤ p) : (u ++ s).getD p d = s.getD (p - u.length) d := by simp [List.getD_eq_getElem?_getD, List.getElem?_append_right h]
theorem getD_mem {s : List Nat} {p : Nat} (hp : p < s.length) : s.getD p 0 ∈ s := by
  rw [List.getD_eq_getElem?_getD, List.getElem?_eq_getElem hp]
  exact List.getElem_mem hp
theorem fit_of {xs : List Int} {r : Nat} {rows : List Nat} (h : fitAny xs r rows = true) : ∃ k u, k < 12 ∧ pRank k = u.length ∧ u.length = rows.length ∧ u.Nodup ∧ (∀ a ∈ u, a ∈ rows) ∧ Match xs r u fun p q => atM (pMat k) (pRank k) p q := by
  simp only [fitAny, List.any_eq_true, List.mem_range, Bool.and_eq_true, decide_eq_true_eq] at h
  obtain ⟨k, hk, h1, h2⟩ := h
  obtain ⟨full, g1, _, g3, g4, g5⟩ := searchB_sound _ _ h2
  exact ⟨k, full, hk, by rw [h1, g1], g1, g3 (by simp), g4 (by simp), match_of_chk g1 fun p hp hm => g5 p (by simp) hm⟩
theorem atM_zero {xs : List Int} {r a b : Nat} (h : bitAt (bitsOf xs) r a b = false) : atM xs r a b = 0 := by
  unfold bitAt bitsOf at h
  unfold atM
  simp only [List.getD_eq_getElem?_getD, List.getElem?_map] at h ⊢
  cases e : xs[a * r + b]? with
  | none => rfl
  | some x => rw [e] at h; simpa using h
theorem typed_parts {xs : List Int} {r : Nat} : ∀ (cs : List (List Nat)), apartB (bitsOf xs) r cs = true → (∀ c ∈ cs, fitAny xs r c = true) →
    ∃ ks s, (∀ k ∈ ks, k < 12) ∧ rankL ks = s.length ∧ s.length = cs.flatten.length ∧ s.Nodup ∧ (∀ a ∈ s, a ∈ cs.flatten) ∧ Match xs r s (blockE ks)
  | [], _, _ => ⟨[], [], by simp, rfl, rfl, by simp, by simp, fun p q hp _ => by simp at hp⟩
  | c :: cs, ha, hf => by
    simp only [apartB, Bool.and_eq_true, List.all_eq_true, Bool.not_eq_true', bne_iff_ne, ne_eq] at ha
    obtain ⟨ha, hb⟩ := ha
    obtain ⟨ks, s, h1, h2, h3, h4, h5, h6⟩ := typed_parts cs hb fun c hc => hf c (by simp [hc])
    obtain ⟨k, u, g1, g2, g3, g4, g5, g6⟩ := fit_of (hf c (by simp))
    refine ⟨k :: ks, u ++ s, ?_, ?_, ?_, ?_, ?_, ?_⟩
    · intro a hm
      simp only [List.mem_cons] at hm
      rcases hm with rfl | hm
      · exact g1
      · exact h1 a hm
    · rw [rankL_cons, h2, g2, List.length_append]
    · simp [h3, g3]
    · rw [List.nodup_append]
      exact ⟨g4, h4, fun a h b hb e => (ha a (g5 a h) b (h5 b hb)).2 e⟩
    · intro a hm
      simp only [List.mem_append] at hm
      rw [List.flatten_cons, List.mem_append]
      exact hm.imp (g5 a) (h5 a)
    · intro p q hp hq
      rw [List.length_append] at hp hq
      unfold blockE
      rw [g2]
      by_cases h7 : p < u.length
      · rw [if_pos h7, getD_app_l _ _ _ _ h7]
        by_cases h8 : q < u.length
        · rw [if_pos h8, getD_app_l _ _ _ _ h8, g6 p q h7 h8, g2]
        · rw [if_neg h8, getD_app_r _ _ _ _ (by omega)]
          exact atM_zero (ha _ (g5 _ (getD_mem h7)) _ (h5 _ (getD_mem (by omega)))).1.1
      · rw [if_neg h7, getD_app_r _ _ _ _ (by omega)]
        by_cases h8 : q < u.length
        · rw [if_pos h8, getD_app_l _ _ _ _ h8]
          exact atM_zero (ha _ (g5 _ (getD_mem h8)) _ (h5 _ (getD_mem (by omega)))).1.2
        · rw [if_neg h8, getD_app_r _ _ _ _ (by omega)]
          exact h6 _ _ (by omega) (by omega)
theorem bitAt_eq {xs : List Int} {r a b : Nat} : bitAt (bitsOf xs) r a b = decide (atM xs r a b ≠ 0) := by
  unfold bitAt bitsOf atM
  simp only [List.getD_eq_getElem?_getD, List.getElem?_map]
  cases xs[a * r + b]? with
  | none => rfl
  | some x => by_cases hx : x = 0 <;> simp [hx]
theorem typed_of_partsB {xs : List Int} {r : Nat} (h : partsB r xs = true) : 1 ≤ r ∧ r ≤ 4 ∧ xs.length = r * r ∧ Typed xs r := by
  simp only [partsB, Bool.and_eq_true, decide_eq_true_eq, List.all_eq_true, Int.toNat_natCast] at h
  obtain ⟨⟨⟨⟨h1, h2⟩, h3⟩, h4⟩, h5⟩ := h
  have hl : xs.length = r * r := by exact_mod_cast h3
  have h1' : 1 ≤ r := by omega
  have h2' : r ≤ 4 := by omega
  simp only [entryB, List.all_eq_true, List.mem_range, Bool.and_eq_true, Bool.or_eq_true, decide_eq_true_eq] at h4
  have nz : ∀ i j, i < r → j < r → atM xs r i j ≠ 0 → atM xs r j i ≠ 0 := by
    intro i j hi hj hz
    have hm : i * r + j < xs.length := by
      rw [hl]
      have : (i + 1) * r ≤ r * r := Nat.mul_le_mul_right _ hi
      rw [Nat.add_mul, Nat.one_mul] at this
      omega
    rcases (h4 _ hm).2 with h | h
    · exact absurd h hz
    · rw [show (i * r + j) / r = i by rw [Nat.add_comm, Nat.add_mul_div_right _ _ (by omega), Nat.div_eq_of_lt hj, Nat.zero_add], show (i * r + j) % r = j by rw [Nat.add_comm, Nat.add_mul_mod_self_right, Nat.mod_eq_of_lt hj]] at h
      exact h
  have hsym : ∀ i j, i < r → j < r → bitAt (bitsOf xs) r i j = bitAt (bitsOf xs) r j i := by
    intro i j hi hj
    rw [bitAt_eq, bitAt_eq]
    have a := nz i j hi hj
    have b := nz j i hj hi
    by_cases e : atM xs r i j = 0
    · by_cases e' : atM xs r j i = 0
      · simp [e, e']
      · exact absurd e (b e')
    · simp [e, a e]
  have hc := comps_all h1' h2' (by simp [bitsOf, hl]) hsym
  simp only [compsB, Bool.and_eq_true, decide_eq_true_eq, List.all_eq_true] at hc
  obtain ⟨⟨c1, c2⟩, c3⟩ := hc
  obtain ⟨ks, s, k1, k2, k3, k4, k5, k6⟩ := typed_parts _ c3 h5
  exact ⟨h1', h2', hl, ks, s, k1, by rw [k2, k3, c1], ⟨by rw [k3, c1], k4, fun a ha => c2 a (k5 a ha)⟩, k6⟩
/-- the program and the reference know the same Cartan matrices -/
theorem typeB_eq (r : Int) (xs : List Int) : typeB r xs = partsB r xs := by
  by_cases hr : 1 ≤ r ∧ r ≤ 4 ∧ (xs.length : Int) = r * r
  · obtain ⟨h1, h2, h3⟩ := hr
    obtain ⟨n, rfl⟩ : ∃ n : Nat, r = n := ⟨r.toNat, by omega⟩
    have hl : xs.length = n * n := by exact_mod_cast h3
    rw [Bool.eq_iff_iff]
    constructor
    · intro h
      simp only [typeB, Bool.and_eq_true, decide_eq_true_eq, List.any_eq_true, Int.toNat_natCast] at h
      obtain ⟨_, ks, hk, h⟩ := h
      exact partsB_of_typed (by omega) (by omega) hl (typed_of_typeB (by omega) hk h)
    · intro h
      obtain ⟨a1, a2, a3, a4⟩ := typed_of_partsB h
      obtain ⟨ks, hk, h⟩ := typeB_of_typed a1 a2 a4
      simp only [typeB, Bool.and_eq_true, decide_eq_true_eq, List.any_eq_true, Int.toNat_natCast]
      exact ⟨⟨⟨h1, h2⟩, h3⟩, ks, hk, h⟩
  · have : ∀ b : Bool, (decide (1 ≤ r ∧ r ≤ 4) && decide ((xs.length : Int) = r * r) && b) = false := by
      intro b
      by_cases h : 1 ≤ r ∧ r ≤ 4
      · have : ¬ (xs.length : Int) = r * r := fun e => hr ⟨h.1, h.2, e⟩
        simp [this]
      · simp [h]
    unfold typeB partsB
    rw [this, this, Bool.false_and]
end Go.Proofs.YtdhlapppahkjeaaGreatDoor

namespace Go.Proofs.YtdhlapppahkjeaaGreatDoor
open Go.RowKit

theorem isWeight1_any (x : Int) (w : World) : Calls Tryz.prog 90 #[.int .i64 x] w fun e w' => e = .returned (.bool (!insB x (-1000) 1000)) ∧ w = w' := by
  go_enter Tryz.func90, Tryz.ntmps90
  go_wp2_with (go_at_call 66; refine (inside_any _ _ _ _).mono ?_; rintro e w' ⟨rfl, rfl⟩)
  go_ret
  exact ⟨rfl, rfl⟩
theorem callFunc_isWeight1 (args : Array Value) (w : World) : Sem.run Tryz.prog (callFunc 90 args) w = .ok (.enter 90 args) w := by
  kernel_rfl
set_option maxHeartbeats 1000000 in
theorem isWeight_any (r : Nat) (ta : Option Addr) (tn tc : Nat) (a : Option Addr) (n c : Nat) (xs : List Int) (w : World) (h : IntsAt w a n xs) (_hn : n ≤ 9223372036854775807) (hr : r ≤ 1000000) :
    Calls Tryz.prog 69 #[carV r ta tn tc, .slice a n c] w fun e w' => e = .returned (.bool (wayB r xs)) ∧ Ext w w' := by
  have hX := Ext.alloc w (.cells #[.int .i64 r, .slice ta tn tc] 29)
  have HX := hidP hX
  have L := hidP h.len
  have HF : Hid (wayB r xs = (decide (xs.length = r) && !(xs.any fun x => !insB x (-1000) 1000))) := by
    show _ = _
    rw [wayB_eq, List.all_eq_not_any_not]
    rfl
  have HI := hidP (h.below hX)
  clear h hX
  by_cases hnr : n = r
  · have hne : ((n : Int) == (r : Int)) = true := by simp [hnr]
    have HC := hidP (containsFunc_any 90 #[] (fun x => !insB x (-1000) 1000) a n c xs _ HI.out (by omega) callFunc_isWeight1 (fun x => isWeight1_any x _))
    have HR : Hid (wayB r xs = !(xs.any fun x => !insB x (-1000) 1000)) := by
      show _ = _
      rw [HF.out, decide_eq_true (by have := L.out; omega), Bool.true_and]
    generalize (xs.any fun x => !insB x (-1000) 1000) = B at *
    clear hnr
    go_enter Tryz.func69, Tryz.ntmps69
    go_wp2_with (go_at_call 64; refine HC.out.mono ?_; rintro e w' ⟨rfl, rfl⟩)
    go_ret
    exact ⟨ret_bool HR.out.symm, HX.out⟩
  · have hne : ((n : Int) == (r : Int)) = false := beq_eq_false_iff_ne.2 (by omega)
    have HR : Hid (wayB r xs = false) := by
      show _ = _
      rw [HF.out, decide_eq_false (by have := L.out; omega), Bool.false_and]
    go_enter Tryz.func69, Tryz.ntmps69
    go_wp2
    go_ret
    exact ⟨ret_bool HR.out.symm, HX.out⟩

/-- the two cells of a step in a variable of its own -/
structure StpAt (w : World) (b : Nat) (a : Option Addr) (n c : Nat) (l : Int) : Prop where
  c0 : w.cell? ⟨b, 0, none⟩ = some (.slice a n c)
  c1 : w.cell? ⟨b, 1, none⟩ = some (.int .i64 l)
theorem StpAt.below {w w' : World} {b : Nat} {l : Int} {a : Option Addr} {n c : Nat} (h : StpAt w b a n c l) (hb : Ext w w') : StpAt w' b a n c l :=
  have hl := World.block_lt_of_cell? w _ h.c0
  ⟨(hb.cell (p := ⟨b, 0, none⟩) hl).trans h.c0, (hb.cell (p := ⟨b, 1, none⟩) hl).trans h.c1⟩
theorem StpAt.new (w : World) (b : Nat) (hb : b = w.heap.size) (a : Option Addr) (n c : Nat) (l : Int) (E : TypeId) : StpAt (w.alloc (.cells #[.slice a n c, .int .i64 l] E)) b a n c l :=
  ⟨(cell_top _ _ _ _ _ hb).trans rfl, (cell_top _ _ _ _ _ hb).trans rfl⟩
theorem typeB_rank {r : Int} {ts : List Int} (h : typeB r ts = true) : 1 ≤ r ∧ r ≤ 4 ∧ (ts.length : Int) = r * r := by
  simp only [typeB, Bool.and_eq_true, decide_eq_true_eq] at h
  omega

set_option maxRecDepth 100000 in
set_option maxHeartbeats 4000000 in
theorem pathOk_of (r : Int) (ta : Option Addr) (tn tc : Nat) (ts : List Int) (a : Option Addr) (n c : Nat) (xs : List Stp) (w : World) (h : TermsAt w a n xs) (hn : n ≤ 9223372036854775807)
    (HIs : ∀ w', Ext w w' → Calls Tryz.prog 36 #[carV r ta tn tc] w' fun e w'' => e = .returned (.bool (typeB r ts)) ∧ Ext w' w'') :
    Calls Tryz.prog 68 #[carV r ta tn tc, .slice a n c] w fun e w' => e = .returned (.bool (typeB r ts && pathB r.toNat xs)) ∧ Ext w w' := by
  have hx1 := Ext.alloc w (.cells #[.int .i64 r, .slice ta tn tc] 29)
  have G := hidP (h.below hx1)
  have L0 := hidP h.len
  have HC := hidP (fun w' (hx : Ext (w.alloc (.cells #[.int .i64 r, .slice ta tn tc] 29)) w') => (CarAt.new w _ rfl r ta tn tc 29).below hx)
  have HX1 := hidP hx1
  have HIs1 := hidP (HIs _ hx1)
  clear h hx1 HIs
  obtain ⟨w1, hw1⟩ : ∃ w1, w1 = w.alloc (.cells #[.int .i64 r, .slice ta tn tc] 29) := ⟨_, rfl⟩
  rw [← hw1] at G HC HX1 HIs1
  cases hT : typeB r ts
  · rw [hT] at HIs1
    clear hT
    obtain ⟨f0, f1⟩ := HC.out w1 (Ext.refl w1)
    go_enter Tryz.func68, Tryz.ntmps68
    go_wp2_with fail
    rw [← hw1]
    clear hw1
    refine HIs1.out.mono ?_
    rintro e w2 ⟨rfl, hx⟩
    have HX := hidP hx
    clear hx
    go_wp2
    go_ret
    exact ⟨rfl, HX1.out.trans HX.out⟩
  · obtain ⟨hr1, hr4, _⟩ := typeB_rank hT
    rw [hT] at HIs1
    rw [Bool.true_and]
    clear hT
    obtain ⟨R, rfl⟩ : ∃ R : Nat, r = R := ⟨r.toNat, by omega⟩
    rw [Int.toNat_natCast]
    have hr : R ≤ 4 := by omega
    clear hr1 hr4
    obtain ⟨f0, f1⟩ := HC.out w1 (Ext.refl w1)
    go_enter Tryz.func68, Tryz.ntmps68
    go_wp2_with fail
    rw [← hw1]
    clear hw1
    refine HIs1.out.mono ?_
    rintro e w1' ⟨rfl, hx⟩
    have HX0 := hidP hx
    clear hx f0 f1
    by_cases h60 : n ≤ 60
    · have h60' : ¬ (60 < (n : Int)) := by omega
      go_wp2
      go_loopw [5, 18] (fun t i wr => ∃ k : Nat, k ≤ n ∧ Hid (∀ j, j < k → stepB R xs j = true) ∧ t = .int .i64 (timeAt xs k) ∧ i = .int .i64 k ∧ Hid (Ext w1 wr)) (fun _ i _ => n - (intOf i).toNat)
      case atStart => exact ⟨0, Nat.zero_le _, fun j h => by omega, rfl, rfl, HX0⟩
      case round =>
        clear HX0
        obtain ⟨k, hk, HJ, rfl, rfl, HX⟩ := hrel
        by_cases hlt : k < n
        · obtain ⟨b, o, aw, cw, W, L, rfl, HW, HL, hwl, hq⟩ := (G.out.below HX.out).way k hlt
          have HQ := hidP hq
          obtain ⟨q1, q2, _⟩ := hq wr (Ext.refl wr)
          have HBd := hidP (timeAt_bounds (p := xs) (n := k) (fun j hj => stepB_len (HJ.out j hj)) k (Nat.le_refl k))
          have HTn : Hid (timeAt xs (k + 1) = timeAt xs k + L) := by
            show _ = _
            rw [timeAt, HL.out]
          obtain ⟨T, hT⟩ : ∃ T, T = timeAt xs k := ⟨_, rfl⟩
          rw [← hT] at HBd HTn ⊢
          clear hT hq
          have HA2 := hidP (Ext.alloc wr (.cells #[.slice aw W.length cw, .int .i64 L] 73))
          have HS := hidP (fun w' (hx : Ext (wr.alloc (.cells #[.slice aw W.length cw, .int .i64 L] 73)) w') => (StpAt.new wr _ rfl aw W.length cw L 73).below hx)
          obtain ⟨w2, hw2⟩ : ∃ w2, w2 = wr.alloc (.cells #[.slice aw W.length cw, .int .i64 L] 73) := ⟨_, rfl⟩
          rw [← hw2] at HA2 HS
          have HCr := hidP (fun w' (hx : Ext w2 w') => HC.out w' ((HX.out.trans HA2.out).trans hx))
          have HWt := hidP (fun w' (hx : Ext w2 w') => isWeight_any R ta tn tc aw W.length cw W w' (HQ.out w' (HA2.out.trans hx)).2.2 hwl (by omega))
          have HSB : Hid (stepB R xs k = (wayB R W && (insB L 1 83160 && (decide (k = 0) || wayAt xs (k - 1) != W)))) := by
            show _ = _
            unfold stepB
            rw [HW.out, HL.out]
            rfl
          cases hA : wayB R W
          · rw [hA] at HWt HSB
            have HB := hidP (pathB_bad (r := R) (p := xs) k (by have := L0.out; omega) HSB.out)
            clear hA
            go_wp2
            rw [← hw2]
            clear hw2 q1 q2
            have hE : Ext w2 w2.drew := Ext.drew w2
            (refine walkR_start (fun w' => Ext w2 w') 25 (by kernel_rfl) ?_; simp only [numbered, List.take_succ_cons, List.take_zero, Nat.zero_add, Nat.reduceAdd, List.length_cons, List.length_nil])
            (repeat (first | (refine walkR_still (v := ?_) rfl (by decide +kernel) rfl (fun _ _ _ h => h) hE ?_ ?_; rotate_left; (focus (intro w' hw'; obtain ⟨f0, f1⟩ := HCr.out w' hw'; obtain ⟨q1, q2⟩ := HS.out w' hw'; go_simp; all_goals (with_reducible rfl))); simp only [Act.put, List.setIfInBounds_toArray, List.set_cons_zero, List.set_cons_succ]) | (refine walkR_skip rfl (by decide +kernel) rfl (fun _ _ _ h => h) hE ?_; simp only [Act.put, List.setIfInBounds_toArray, List.set_cons_zero, List.set_cons_succ])))
            (refine walkR_only (fun w' => Ext w2 w') rfl (by decide +kernel) rfl (fun _ h => h) ?_; intro K hK; go_simp; refine (HWt.out _ hE).mono ?_; rintro e w3 ⟨rfl, hx3⟩; refine hK _ _ (hE.trans hx3) ?_; clear hK K; (try simp only [Act.put, List.setIfInBounds_toArray, List.set_cons_zero, List.set_cons_succ]))
            have hE2 := hE.trans hx3
            (repeat (first | (refine walkR_still (v := ?_) rfl (by decide +kernel) rfl (fun _ _ _ h => h) hE2 ?_ ?_; rotate_left; (focus (intro w' hw'; obtain ⟨f0, f1⟩ := HCr.out w' hw'; obtain ⟨q1, q2⟩ := HS.out w' hw'; go_simp; all_goals (with_reducible rfl))); simp only [Act.put, List.setIfInBounds_toArray, List.set_cons_zero, List.set_cons_succ]) | (refine walkR_skip rfl (by decide +kernel) rfl (fun _ _ _ h => h) hE2 ?_; simp only [Act.put, List.setIfInBounds_toArray, List.set_cons_zero, List.set_cons_succ])))
            (refine walkR_tail (by rfl) (by kernel_rfl) ?_; simp only [List.drop_succ_cons, List.drop_zero])
            go_wp2
            go_ret
            exact ⟨ret_bool HB.out.symm, HX1.out.trans (HX.out.trans (HA2.out.trans hE2))⟩
          · rw [hA] at HWt HSB
            have hWl := hidP ((wayB_iff.1 hA).1)
            cases hI : insB L 1 83160
            · rw [hI] at HSB
              have HB := hidP (pathB_bad (r := R) (p := xs) k (by have := L0.out; omega) HSB.out)
              clear hA
              go_wp2
              rw [← hw2]
              clear hw2 q1 q2
              have hE : Ext w2 w2.drew := Ext.drew w2
              (refine walkR_start (fun w' => Ext w2 w') 25 (by kernel_rfl) ?_; simp only [numbered, List.take_succ_cons, List.take_zero, Nat.zero_add, Nat.reduceAdd, List.length_cons, List.length_nil])
              (repeat (first | (refine walkR_still (v := ?_) rfl (by decide +kernel) rfl (fun _ _ _ h => h) hE ?_ ?_; rotate_left; (focus (intro w' hw'; obtain ⟨f0, f1⟩ := HCr.out w' hw'; obtain ⟨q1, q2⟩ := HS.out w' hw'; go_simp; all_goals (with_reducible rfl))); simp only [Act.put, List.setIfInBounds_toArray, List.set_cons_zero, List.set_cons_succ]) | (refine walkR_skip rfl (by decide +kernel) rfl (fun _ _ _ h => h) hE ?_; simp only [Act.put, List.setIfInBounds_toArray, List.set_cons_zero, List.set_cons_succ])))
              (refine walkR_only (fun w' => Ext w2 w') rfl (by decide +kernel) rfl (fun _ h => h) ?_; intro K hK; go_simp; refine (HWt.out _ hE).mono ?_; rintro e w3 ⟨rfl, hx3⟩; refine hK _ _ (hE.trans hx3) ?_; clear hK K; (try simp only [Act.put, List.setIfInBounds_toArray, List.set_cons_zero, List.set_cons_succ]))
              have hE2 := hE.trans hx3
              (repeat (first | (refine walkR_still (v := ?_) rfl (by decide +kernel) rfl (fun _ _ _ h => h) hE2 ?_ ?_; rotate_left; (focus (intro w' hw'; obtain ⟨f0, f1⟩ := HCr.out w' hw'; obtain ⟨q1, q2⟩ := HS.out w' hw'; go_simp; all_goals (with_reducible rfl))); simp only [Act.put, List.setIfInBounds_toArray, List.set_cons_zero, List.set_cons_succ]) | (refine walkR_skip rfl (by decide +kernel) rfl (fun _ _ _ h => h) hE2 ?_; simp only [Act.put, List.setIfInBounds_toArray, List.set_cons_zero, List.set_cons_succ])))
              (refine walkR_only (fun w' => Ext w2 w') rfl (by decide +kernel) rfl (fun _ h => h) ?_; intro K hK; go_simp; refine (inside_any _ _ _ _).mono ?_; rintro e w4 ⟨rfl, rfl⟩; refine hK _ _ (hE2) ?_; clear hK K; (try simp only [Act.put, List.setIfInBounds_toArray, List.set_cons_zero, List.set_cons_succ]))
              (repeat (first | (refine walkR_still (v := ?_) rfl (by decide +kernel) rfl (fun _ _ _ h => h) hE2 ?_ ?_; rotate_left; (focus (intro w' hw'; obtain ⟨f0, f1⟩ := HCr.out w' hw'; obtain ⟨q1, q2⟩ := HS.out w' hw'; go_simp; all_goals (with_reducible rfl))); simp only [Act.put, List.setIfInBounds_toArray, List.set_cons_zero, List.set_cons_succ]) | (refine walkR_skip rfl (by decide +kernel) rfl (fun _ _ _ h => h) hE2 ?_; simp only [Act.put, List.setIfInBounds_toArray, List.set_cons_zero, List.set_cons_succ])))
              (refine walkR_tail (by rfl) (by kernel_rfl) ?_; simp only [List.drop_succ_cons, List.drop_zero])
              go_wp2
              go_ret
              exact ⟨ret_bool HB.out.symm, HX1.out.trans (HX.out.trans (HA2.out.trans hE2))⟩
            · rw [hI] at HSB
              have hIb := insB_true.1 hI
              have hTb := HBd.out
              have hTw : IntKind.i64.wrap (T + L) = T + L := wrap_in (by omega) (by omega)
              clear hA
              cases k with
              | zero =>
                have HT : Hid (stepB R xs 0 = true) := HSB.out
                simp only [Nat.zero_mul, Nat.add_zero] at q1 q2
                go_wp2
                rw [← hw2]
                clear hw2 q1 q2
                have hE : Ext w2 w2.drew := Ext.drew w2
                (refine walkR_start (fun w' => Ext w2 w') 25 (by kernel_rfl) ?_; simp only [numbered, List.take_succ_cons, List.take_zero, Nat.zero_add, Nat.reduceAdd, List.length_cons, List.length_nil])
                (repeat (first | (refine walkR_still (v := ?_) rfl (by decide +kernel) rfl (fun _ _ _ h => h) hE ?_ ?_; rotate_left; (focus (intro w' hw'; obtain ⟨f0, f1⟩ := HCr.out w' hw'; obtain ⟨q1, q2⟩ := HS.out w' hw'; go_simp; all_goals (with_reducible rfl))); simp only [Act.put, List.setIfInBounds_toArray, List.set_cons_zero, List.set_cons_succ]) | (refine walkR_skip rfl (by decide +kernel) rfl (fun _ _ _ h => h) hE ?_; simp only [Act.put, List.setIfInBounds_toArray, List.set_cons_zero, List.set_cons_succ])))
                (refine walkR_only (fun w' => Ext w2 w') rfl (by decide +kernel) rfl (fun _ h => h) ?_; intro K hK; go_simp; refine (HWt.out _ hE).mono ?_; rintro e w3 ⟨rfl, hx3⟩; refine hK _ _ (hE.trans hx3) ?_; clear hK K; (try simp only [Act.put, List.setIfInBounds_toArray, List.set_cons_zero, List.set_cons_succ]))
                have hE2 := hE.trans hx3
                (repeat (first | (refine walkR_still (v := ?_) rfl (by decide +kernel) rfl (fun _ _ _ h => h) hE2 ?_ ?_; rotate_left; (focus (intro w' hw'; obtain ⟨f0, f1⟩ := HCr.out w' hw'; obtain ⟨q1, q2⟩ := HS.out w' hw'; go_simp; all_goals (with_reducible rfl))); simp only [Act.put, List.setIfInBounds_toArray, List.set_cons_zero, List.set_cons_succ]) | (refine walkR_skip rfl (by decide +kernel) rfl (fun _ _ _ h => h) hE2 ?_; simp only [Act.put, List.setIfInBounds_toArray, List.set_cons_zero, List.set_cons_succ])))
                (refine walkR_only (fun w' => Ext w2 w') rfl (by decide +kernel) rfl (fun _ h => h) ?_; intro K hK; go_simp; refine (inside_any _ _ _ _).mono ?_; rintro e w4 ⟨rfl, rfl⟩; refine hK _ _ (hE2) ?_; clear hK K; (try simp only [Act.put, List.setIfInBounds_toArray, List.set_cons_zero, List.set_cons_succ]))
                (repeat (first | (refine walkR_still (v := ?_) rfl (by decide +kernel) rfl (fun _ _ _ h => h) hE2 ?_ ?_; rotate_left; (focus (intro w' hw'; obtain ⟨f0, f1⟩ := HCr.out w' hw'; obtain ⟨q1, q2⟩ := HS.out w' hw'; go_simp; all_goals (with_reducible rfl))); simp only [Act.put, List.setIfInBounds_toArray, List.set_cons_zero, List.set_cons_succ]) | (refine walkR_skip rfl (by decide +kernel) rfl (fun _ _ _ h => h) hE2 ?_; simp only [Act.put, List.setIfInBounds_toArray, List.set_cons_zero, List.set_cons_succ])))
                (refine walkR_tail (by rfl) (by kernel_rfl) ?_; simp only [List.drop_succ_cons, List.drop_zero])
                obtain ⟨q1, q2⟩ := HS.out _ hE2
                go_wp2
                go_roundw
                case rel =>
                  refine ⟨1, by omega, fun j hj => ?_, by rw [HTn.out], by go_num, HX.out.trans (HA2.out.trans hE2)⟩
                  obtain rfl : j = 0 := by omega
                  exact HT.out
                case measure => simp [intOf]; omega
              | succ k =>
                have hk0 : (0 : Int) ≤ (k : Int) + 1 := by omega
                have hk1 : (0 : Int) < (k : Int) + 1 := by omega
                have hk2 : (k : Int) + 1 < n := by omega
                have hk3 : (k : Int) < n := by omega
                have hk4 : IntKind.i64.wrap (k : Int) = k := wrap_in (by omega) (by omega)
                obtain ⟨b', o', aV, cV, V, M, e', HV, _, hvl, hq⟩ := (G.out.below (HX.out.trans HA2.out)).way k (by omega)
                simp only [Option.some.injEq, Addr.mk.injEq, and_true] at e'
                obtain ⟨rfl, rfl⟩ := e'
                have HP := hidP hq
                clear hq
                have hVl : Hid (V.length = R) := by
                  show _ = _
                  rw [← HV.out]
                  exact stepB_way (HJ.out k (by omega))
                have HSame := hidP (fun w' (hx : Ext w2 w') => equalI_any aV aw V.length cV W.length cw V W w' (HP.out w' hx).2.2 (HQ.out w' (HA2.out.trans hx)).2.2 (by have := hVl.out; omega) (by have := hWl.out; omega))
                rw [show k + 1 - 1 = k from rfl, HV.out] at HSB
                cases hV : (V == W)
                · rw [hV] at HSame
                  have HT : Hid (stepB R xs (k + 1) = true) := by
                    show _ = _
                    rw [HSB.out]
                    simp [bne, hV]
                  clear hV HSB
                  go_wp2
                  rw [← hw2]
                  clear hw2 q1 q2
                  have hE : Ext w2 w2.drew := Ext.drew w2
                  (refine walkR_start (fun w' => Ext w2 w') 25 (by kernel_rfl) ?_; simp only [numbered, List.take_succ_cons, List.take_zero, Nat.zero_add, Nat.reduceAdd, List.length_cons, List.length_nil])
                  (repeat (first | (refine walkR_still (v := ?_) rfl (by decide +kernel) rfl (fun _ _ _ h => h) hE ?_ ?_; rotate_left; (focus (intro w' hw'; obtain ⟨f0, f1⟩ := HCr.out w' hw'; obtain ⟨q1, q2⟩ := HS.out w' hw'; obtain ⟨y1, y2, _⟩ := HP.out w' hw'; go_simp; all_goals (with_reducible rfl))); simp only [Act.put, List.setIfInBounds_toArray, List.set_cons_zero, List.set_cons_succ]) | (refine walkR_skip rfl (by decide +kernel) rfl (fun _ _ _ h => h) hE ?_; simp only [Act.put, List.setIfInBounds_toArray, List.set_cons_zero, List.set_cons_succ])))
                  (refine walkR_only (fun w' => Ext w2 w') rfl (by decide +kernel) rfl (fun _ h => h) ?_; intro K hK; go_simp; refine (HWt.out _ hE).mono ?_; rintro e w3 ⟨rfl, hx3⟩; refine hK _ _ (hE.trans hx3) ?_; clear hK K; (try simp only [Act.put, List.setIfInBounds_toArray, List.set_cons_zero, List.set_cons_succ]))
                  have hE2 := hE.trans hx3
                  (repeat (first | (refine walkR_still (v := ?_) rfl (by decide +kernel) rfl (fun _ _ _ h => h) hE2 ?_ ?_; rotate_left; (focus (intro w' hw'; obtain ⟨f0, f1⟩ := HCr.out w' hw'; obtain ⟨q1, q2⟩ := HS.out w' hw'; obtain ⟨y1, y2, _⟩ := HP.out w' hw'; go_simp; all_goals (with_reducible rfl))); simp only [Act.put, List.setIfInBounds_toArray, List.set_cons_zero, List.set_cons_succ]) | (refine walkR_skip rfl (by decide +kernel) rfl (fun _ _ _ h => h) hE2 ?_; simp only [Act.put, List.setIfInBounds_toArray, List.set_cons_zero, List.set_cons_succ])))
                  (refine walkR_only (fun w' => Ext w2 w') rfl (by decide +kernel) rfl (fun _ h => h) ?_; intro K hK; go_simp; refine (inside_any _ _ _ _).mono ?_; rintro e w4 ⟨rfl, rfl⟩; refine hK _ _ (hE2) ?_; clear hK K; (try simp only [Act.put, List.setIfInBounds_toArray, List.set_cons_zero, List.set_cons_succ]))
                  (repeat (first | (refine walkR_still (v := ?_) rfl (by decide +kernel) rfl (fun _ _ _ h => h) hE2 ?_ ?_; rotate_left; (focus (intro w' hw'; obtain ⟨f0, f1⟩ := HCr.out w' hw'; obtain ⟨q1, q2⟩ := HS.out w' hw'; obtain ⟨y1, y2, _⟩ := HP.out w' hw'; go_simp; all_goals (with_reducible rfl))); simp only [Act.put, List.setIfInBounds_toArray, List.set_cons_zero, List.set_cons_succ]) | (refine walkR_skip rfl (by decide +kernel) rfl (fun _ _ _ h => h) hE2 ?_; simp only [Act.put, List.setIfInBounds_toArray, List.set_cons_zero, List.set_cons_succ])))
                  (refine walkR_only (fun w' => Ext w2 w') rfl (by decide +kernel) rfl (fun _ h => h) ?_; intro K hK; go_simp; refine (HSame.out _ hE2).mono ?_; rintro e w5 ⟨rfl, m, rfl⟩; refine hK _ _ (hE2.trans (Ext.drewN _ _)) ?_; clear hK K; (try simp only [Act.put, List.setIfInBounds_toArray, List.set_cons_zero, List.set_cons_succ]))
                  have hE3 := hE2.trans (Ext.drewN _ m)
                  (repeat (first | (refine walkR_still (v := ?_) rfl (by decide +kernel) rfl (fun _ _ _ h => h) hE3 ?_ ?_; rotate_left; (focus (intro w' hw'; obtain ⟨f0, f1⟩ := HCr.out w' hw'; obtain ⟨q1, q2⟩ := HS.out w' hw'; obtain ⟨y1, y2, _⟩ := HP.out w' hw'; go_simp; all_goals (with_reducible rfl))); simp only [Act.put, List.setIfInBounds_toArray, List.set_cons_zero, List.set_cons_succ]) | (refine walkR_skip rfl (by decide +kernel) rfl (fun _ _ _ h => h) hE3 ?_; simp only [Act.put, List.setIfInBounds_toArray, List.set_cons_zero, List.set_cons_succ])))
                  (refine walkR_tail (by rfl) (by kernel_rfl) ?_; simp only [List.drop_succ_cons, List.drop_zero])
                  obtain ⟨q1, q2⟩ := HS.out _ hE3
                  go_wp2
                  go_roundw
                  case rel =>
                    refine ⟨k + 1 + 1, by omega, fun j hj => ?_, by rw [HTn.out], by go_num, HX.out.trans (HA2.out.trans hE3)⟩
                    rcases Nat.lt_succ_iff_lt_or_eq.1 hj with h3 | rfl
                    · exact HJ.out j h3
                    · exact HT.out
                  case measure => simp [intOf]; omega
                · rw [hV] at HSame
                  have HB := hidP (pathB_bad (r := R) (p := xs) (k + 1) (by have := L0.out; omega) (by rw [HSB.out]; simp [bne, hV]))
                  clear hV HSB
                  go_wp2
                  rw [← hw2]
                  clear hw2 q1 q2
                  have hE : Ext w2 w2.drew := Ext.drew w2
                  (refine walkR_start (fun w' => Ext w2 w') 25 (by kernel_rfl) ?_; simp only [numbered, List.take_succ_cons, List.take_zero, Nat.zero_add, Nat.reduceAdd, List.length_cons, List.length_nil])
                  (repeat (first | (refine walkR_still (v := ?_) rfl (by decide +kernel) rfl (fun _ _ _ h => h) hE ?_ ?_; rotate_left; (focus (intro w' hw'; obtain ⟨f0, f1⟩ := HCr.out w' hw'; obtain ⟨q1, q2⟩ := HS.out w' hw'; obtain ⟨y1, y2, _⟩ := HP.out w' hw'; go_simp; all_goals (with_reducible rfl))); simp only [Act.put, List.setIfInBounds_toArray, List.set_cons_zero, List.set_cons_succ]) | (refine walkR_skip rfl (by decide +kernel) rfl (fun _ _ _ h => h) hE ?_; simp only [Act.put, List.setIfInBounds_toArray, List.set_cons_zero, List.set_cons_succ])))
                  (refine walkR_only (fun w' => Ext w2 w') rfl (by decide +kernel) rfl (fun _ h => h) ?_; intro K hK; go_simp; refine (HWt.out _ hE).mono ?_; rintro e w3 ⟨rfl, hx3⟩; refine hK _ _ (hE.trans hx3) ?_; clear hK K; (try simp only [Act.put, List.setIfInBounds_toArray, List.set_cons_zero, List.set_cons_succ]))
                  have hE2 := hE.trans hx3
                  (repeat (first | (refine walkR_still (v := ?_) rfl (by decide +kernel) rfl (fun _ _ _ h => h) hE2 ?_ ?_; rotate_left; (focus (intro w' hw'; obtain ⟨f0, f1⟩ := HCr.out w' hw'; obtain ⟨q1, q2⟩ := HS.out w' hw'; obtain ⟨y1, y2, _⟩ := HP.out w' hw'; go_simp; all_goals (with_reducible rfl))); simp only [Act.put, List.setIfInBounds_toArray, List.set_cons_zero, List.set_cons_succ]) | (refine walkR_skip rfl (by decide +kernel) rfl (fun _ _ _ h => h) hE2 ?_; simp only [Act.put, List.setIfInBounds_toArray, List.set_cons_zero, List.set_cons_succ])))
                  (refine walkR_only (fun w' => Ext w2 w') rfl (by decide +kernel) rfl (fun _ h => h) ?_; intro K hK; go_simp; refine (inside_any _ _ _ _).mono ?_; rintro e w4 ⟨rfl, rfl⟩; refine hK _ _ (hE2) ?_; clear hK K; (try simp only [Act.put, List.setIfInBounds_toArray, List.set_cons_zero, List.set_cons_succ]))
                  (repeat (first | (refine walkR_still (v := ?_) rfl (by decide +kernel) rfl (fun _ _ _ h => h) hE2 ?_ ?_; rotate_left; (focus (intro w' hw'; obtain ⟨f0, f1⟩ := HCr.out w' hw'; obtain ⟨q1, q2⟩ := HS.out w' hw'; obtain ⟨y1, y2, _⟩ := HP.out w' hw'; go_simp; all_goals (with_reducible rfl))); simp only [Act.put, List.setIfInBounds_toArray, List.set_cons_zero, List.set_cons_succ]) | (refine walkR_skip rfl (by decide +kernel) rfl (fun _ _ _ h => h) hE2 ?_; simp only [Act.put, List.setIfInBounds_toArray, List.set_cons_zero, List.set_cons_succ])))
                  (refine walkR_only (fun w' => Ext w2 w') rfl (by decide +kernel) rfl (fun _ h => h) ?_; intro K hK; go_simp; refine (HSame.out _ hE2).mono ?_; rintro e w5 ⟨rfl, m, rfl⟩; refine hK _ _ (hE2.trans (Ext.drewN _ _)) ?_; clear hK K; (try simp only [Act.put, List.setIfInBounds_toArray, List.set_cons_zero, List.set_cons_succ]))
                  have hE3 := hE2.trans (Ext.drewN _ m)
                  (repeat (first | (refine walkR_still (v := ?_) rfl (by decide +kernel) rfl (fun _ _ _ h => h) hE3 ?_ ?_; rotate_left; (focus (intro w' hw'; obtain ⟨f0, f1⟩ := HCr.out w' hw'; obtain ⟨q1, q2⟩ := HS.out w' hw'; obtain ⟨y1, y2, _⟩ := HP.out w' hw'; go_simp; all_goals (with_reducible rfl))); simp only [Act.put, List.setIfInBounds_toArray, List.set_cons_zero, List.set_cons_succ]) | (refine walkR_skip rfl (by decide +kernel) rfl (fun _ _ _ h => h) hE3 ?_; simp only [Act.put, List.setIfInBounds_toArray, List.set_cons_zero, List.set_cons_succ])))
                  (refine walkR_tail (by rfl) (by kernel_rfl) ?_; simp only [List.drop_succ_cons, List.drop_zero])
                  go_wp2
                  go_ret
                  exact ⟨ret_bool HB.out.symm, HX1.out.trans (HX.out.trans (HA2.out.trans hE3))⟩
        · obtain rfl : k = n := by omega
          have HE := hidP (pathB_end (r := R) (L0.out) h60 HJ.out)
          have hbd := (timeAt_bounds (p := xs) (n := k) (fun j hj => stepB_len (HJ.out j hj)) k (Nat.le_refl k))
          obtain ⟨T, hT⟩ : ∃ T, T = timeAt xs k := ⟨_, rfl⟩
          rw [← hT] at HE hbd ⊢
          have htm : Int.tmod T 27720 = T % 27720 := Int.tmod_eq_emod_of_nonneg hbd.1
          clear hT
          by_cases hz : T % 27720 = 0
          · have HR : Hid (pathB R xs = decide (T ≤ 83160)) := by show _ = _; rw [HE.out]; simp [hz]
            go_wp2
            go_ret
            exact ⟨ret_bool HR.out.symm, HX1.out.trans HX.out⟩
          · have HR : Hid (pathB R xs = false) := by show _ = _; rw [HE.out]; simp [hz]
            have hz' : (T % 27720 == 0) = false := by simpa using hz
            go_wp2
            go_ret
            exact ⟨ret_bool HR.out.symm, HX1.out.trans HX.out⟩
    · have HB := hidP (pathB_long (r := R) (p := xs) (by have := L0.out; omega))
      have h60' : 60 < (n : Int) := by omega
      go_wp2
      go_ret
      exact ⟨ret_bool HB.out.symm, HX1.out.trans HX0.out⟩
end Go.Proofs.YtdhlapppahkjeaaGreatDoor
