/-
  Maps from strings that a call makes: what lies at a key is told by a function; stores, lookups, the range over one.
  The text of a list of numbers tells the list: no two lists have one text.
  Counts of words in two maps of a call's own: the words by their text, their numbers by their text; ordered lists of words with numbers.
  The program's counts: two maps of words and numbers, a number added.
-/
import Derived.Test.YtnfbfdamlnjblaaGreatDoorOwn
import Derived.Maps.RangeWalk
import Derived.Maps.OwnOps
import Derived.Test.YtnfbfdamlnjblaaGreatDoorStr2
import Derived.Test.YtnfbfdamlnjblaaGreatDoorWrd
import Derived.Test.YtnfbfdamlnjblaaGreatDoorStr3
namespace Go.Proofs.YtnfbfdamlnjblaaGreatDoor
open Go.RowKit

def holdR (v : Value) : Option (DataW Value × List MemPlace) := some (.held v, [])
def keyL (s : ByteArray) : Lit := .string s.data.toList
theorem keyL_inj {s t : ByteArray} (h : keyL s = keyL t) : s = t := by
  simp only [keyL, Lit.string.injEq] at h
  cases s; cases t
  simp only [ByteArray.mk.injEq]
  exact Array.toList_inj.1 h
theorem keyL_key (s : ByteArray) : WideAt.IsKeyLit (keyL s) := trivial
theorem keyL_ne {s t : ByteArray} (h : t ≠ s) : keyL t ≠ keyL s := fun e => h (keyL_inj e)
theorem keyOf_keyL {P : Program} {K : TypeId} (hK : P.underlying K = some .string) {s : ByteArray} (hs : s.size ≤ maxLen) : keyOf P K (.string s) = some (keyL s) := WideMaps.keyOf_string_mk hK hs
theorem keyOf_string_inv2 {P : Program} {k : TypeId} (hk : P.underlying k = some .string) {key : Value} {kl : Lit} (h : keyOf P k key = some kl) : ∃ s, key = .string s ∧ kl = keyL s ∧ s.size ≤ maxLen := by
  cases key <;> simp [keyOf, hk, mapKey] at h
  exact ⟨_, rfl, h.2.symm, h.1⟩

/-- f tells what a map that reads as D has at each key -/
structure ViewS (D : DataW Value) (f : ByteArray → Option Value) : Prop where
  at_ : ∀ s, s.size ≤ maxLen → ∀ v0, D.atKey (keyL s) (.held v0) = .held ((f s).getD v0)
  has_ : ∀ s, s.size ≤ maxLen → Maps.has D (keyL s) = (f s).isSome
/-- block b is a map of at most n entries with f -/
def MapS (w : World) (P : Program) (K : TypeId) (b n : Nat) (f : ByteArray → Option Value) : Prop := ∃ D, w.ownsMap P K holdR b n D ∧ ViewS D f
def putF (f : ByteArray → Option Value) (s : ByteArray) (v : Value) : ByteArray → Option Value := fun t => if t = s then some v else f t
/-- the range over such a map under way: left is what is still to come -/
def RangeS (w : World) (P : Program) (K : TypeId) (b r n : Nat) (f : ByteArray → Option Value) (left : ByteArray → Bool) (cnt : Nat) : Prop :=
  ∃ D lf, w.ranges P K holdR b r n D lf cnt ∧ ViewS D f ∧ ∀ s, s.size ≤ maxLen → lf (keyL s) = left s

variable {P : Program} {K : TypeId} {w w' : World} {b n r cnt : Nat} {f : ByteArray → Option Value} {left : ByteArray → Bool}

theorem MapS.made (w : World) (P : Program) (K : TypeId) : MapS (w.alloc (.map #[] 0)) P K w.heap.size 0 (fun _ => none) :=
  ⟨_, World.ownsMap_made w P K holdR, ⟨fun s _ v0 => by simp [DataW.atKey], fun s _ => by simp [Maps.has]⟩⟩
theorem MapS.mono (h : MapS w P K b n f) {m : Nat} (hm : n ≤ m) : MapS w P K b m f := by
  obtain ⟨D, h1, h2⟩ := h
  exact ⟨D, h1.mono hm, h2⟩
theorem MapS.lt (h : MapS w P K b n f) : b < w.heap.size := h.choose_spec.1.lt
theorem MapS.isMap (h : MapS w P K b n f) : ∃ es clock, w.heap[b]? = some (.map es clock) := by
  obtain ⟨D, ⟨es, clock, hb, _⟩, _⟩ := h
  exact ⟨es, clock, hb⟩
theorem MapS.kept (h : MapS w P K b n f) {row : Option Nat} (hg : w.grownBy w' row) (hne : some b ≠ row) : MapS w' P K b n f := by
  obtain ⟨D, h1, h2⟩ := h
  exact ⟨D, h1.kept hg hne, h2⟩
theorem MapS.below (h : MapS w P K b n f) (hx : Ext w w') : MapS w' P K b n f :=
  h.kept (row := none) ⟨hx.os, hx.tape, hx.output, hx.size, fun k hk _ => hx.block k hk⟩ (by simp)
theorem MapS.lookup (h : MapS w P K b n f) {T E : TypeId} (hK : P.underlying K = some .string) (hT : P.underlying T = some (.map K E)) {z : Value} (hz : (zeroValue E).run P w = .ok z w)
    {s : ByteArray} (hs : s.size ≤ maxLen) : (Instr.lookup T (.map (some b)) (.string s) false).run P w = .ok ((f s).getD z) w := by
  obtain ⟨D, h1, h2⟩ := h
  obtain ⟨v, ps, hrun, hv⟩ := h1.lookup (Maps.string_keyed hK) hT hz (zd := .held z) (zp := []) rfl (keyOf_keyL hK hs)
  rw [h2.at_ s hs] at hv
  simp only [holdR, Option.some.injEq, Prod.mk.injEq, DataW.held.injEq] at hv
  rw [hrun, hv.1]
theorem MapS.update (h : MapS w P K b n f) {T E : TypeId} (hK : P.underlying K = some .string) (hT : P.underlying T = some (.map K E)) (hn : n < maxLen)
    {s : ByteArray} (hs : s.size ≤ maxLen) (v : Value) : ∃ w', (Instr.mapUpdate T (.map (some b)) (.string s) v).run P w = .ok () w' ∧ MapS w' P K b (n + 1) (putF f s v) ∧ w.grownBy w' (some b) := by
  obtain ⟨D, h1, h2⟩ := h
  obtain ⟨w', hrun, hown, hg⟩ := h1.update (Maps.string_keyed hK) hT hn (keyOf_keyL hK hs) (val := v) (d := .held v) (ps := []) rfl
  have hD : Maps.IsMap D := by
    obtain ⟨es, clock, _, _, _, e⟩ := h1
    exact ⟨_, e⟩
  refine ⟨w', hrun, ⟨_, hown, ⟨fun t ht v0 => ?_, fun t ht => ?_⟩⟩, hg⟩
  · by_cases e : t = s
    · subst e
      rw [Maps.atKey_put_same hD (keyL_key _)]
      simp [putF]
    · rw [Maps.atKey_put_other (keyL_ne e), h2.at_ t ht]
      simp [putF, e]
  · by_cases e : t = s
    · subst e
      rw [Maps.has_put_same hD (keyL_key _)]
      simp [putF]
    · rw [Maps.has_put_other (keyL_ne e), h2.has_ t ht]
      simp [putF, e]

theorem RangeS.mapS (h : RangeS w P K b r n f left cnt) : MapS w P K b n f := by
  obtain ⟨D, lf, h1, h2, _⟩ := h
  exact ⟨D, h1.owns, h2⟩
theorem RangeS.left_eq (h : RangeS w P K b r n f left cnt) : w.rangeLeft b r = cnt := by
  obtain ⟨D, lf, h1, _⟩ := h
  exact h1.left_eq
theorem RangeS.lt (h : RangeS w P K b r n f left cnt) : r < w.heap.size := by
  obtain ⟨D, lf, h1, _⟩ := h
  exact h1.lt
theorem RangeS.ne (h : RangeS w P K b r n f left cnt) : r ≠ b := by
  obtain ⟨D, lf, h1, _⟩ := h
  exact h1.ne
theorem RangeS.isIter (h : RangeS w P K b r n f left cnt) : ∃ m s seen c, w.heap[r]? = some (.mapIter m s seen c) := by
  obtain ⟨D, lf, ⟨es, clock, since, seen, c0, _, _, _, _, hr, _⟩, _⟩ := h
  exact ⟨_, _, _, _, hr⟩
theorem RangeS.kept (h : RangeS w P K b r n f left cnt) {row : Option Nat} (hg : w.grownBy w' row) (hb : some b ≠ row) (hr : some r ≠ row) : RangeS w' P K b r n f left cnt := by
  obtain ⟨D, lf, h1, h2, h3⟩ := h
  exact ⟨D, lf, h1.kept hg hb hr, h2, h3⟩
theorem RangeS.below (h : RangeS w P K b r n f left cnt) (hx : Ext w w') : RangeS w' P K b r n f left cnt :=
  h.kept (row := none) ⟨hx.os, hx.tape, hx.output, hx.size, fun k hk _ => hx.block k hk⟩ (by simp) (by simp)
theorem MapS.range (h : MapS w P K b n f) {T E : TypeId} (hK : P.underlying K = some .string) (hT : P.underlying T = some (.map K E)) :
    ∃ w' cnt, (Instr.range T (.map (some b))).run P w = .ok (.pointer (some ⟨w.heap.size, 0, none⟩)) w' ∧ RangeS w' P K b w.heap.size n f (fun s => (f s).isSome) cnt ∧ Ext w w' ∧ w'.heap.size = w.heap.size + 1 := by
  obtain ⟨D, h1, h2⟩ := h
  obtain ⟨w', hrun, hr, hg, hsz⟩ := h1.range (Maps.string_keyed hK) hT
  exact ⟨w', _, hrun, ⟨D, _, hr, h2, h2.has_⟩, ⟨hg.os, hg.tape, hg.output, hg.size, fun k hk => hg.block k hk (by simp)⟩, hsz⟩
theorem RangeS.next (h : RangeS w P K b r n f left cnt) (hK : P.underlying K = some .string) (ty : TypeId) :
    (cnt = 0 ∧ (∀ s, s.size ≤ maxLen → left s = false) ∧ (Instr.next (.pointer (some ⟨r, 0, none⟩)) false ty).run P w = .ok (.tuple #[.bool false]) w) ∨
    ∃ s v w' cnt', s.size ≤ maxLen ∧ left s = true ∧ f s = some v ∧ (Instr.next (.pointer (some ⟨r, 0, none⟩)) false ty).run P w = .ok (.tuple #[.bool true, .string s, v]) w' ∧
      RangeS w' P K b r n f (fun t => left t && decide (t ≠ s)) cnt' ∧ cnt' < cnt ∧ w.grownBy w' (some r) ∧ w'.heap.size = w.heap.size ∧ (Instr.entry (.pointer (some ⟨r, 0, none⟩))).run P w' = .ok (.tuple #[.string s, v]) w' := by
  obtain ⟨D, lf, h1, h2, h3⟩ := h
  rcases h1.next (Maps.string_keyed hK) ty with ⟨h0, hl, hrun⟩ | ⟨key, v, kl, y, w', cnt', hkey, hlk, hv, hat, hrun, hrg, hlt, hgr, hsz, hen⟩
  · exact .inl ⟨h0, fun s hs => by rw [← h3 s hs]; exact hl _, hrun⟩
  · obtain ⟨s, rfl, rfl, hs⟩ := keyOf_string_inv2 hK hkey
    simp only [holdR, Option.some.injEq] at hv
    subst hv
    have e1 := hat (.held undef)
    have e2 := hat (.held (.bool true))
    rw [h2.at_ s hs] at e1 e2
    simp only [DataW.held.injEq] at e1 e2
    have hf : f s = some v := by
      cases hfs : f s with
      | some u => rw [hfs] at e1; simpa using e1
      | none =>
        rw [hfs] at e1 e2
        simp only [Option.getD_none] at e1 e2
        rw [← e1] at e2
        cases e2
    refine .inr ⟨s, v, w', cnt', hs, by rw [← h3 s hs]; exact hlk, hf, hrun, ⟨D, _, hrg, h2, fun t ht => ?_⟩, hlt, hgr, hsz, hen⟩
    show (lf (keyL t) && !(keyL t).sameKey (keyL s)) = _
    rw [h3 t ht]
    congr 1
    by_cases e : t = s
    · subst e
      rw [WideAt.sameKey_self (keyL_key _)]
      simp
    · rw [Maps.sameKey_ne (keyL_ne e)]
      simp [e]

section
variable (w : World) {ops : Array Oper} {rest : List Oper} {o : Oper} {a : Act} {Q : Exit → Act → World → Prop}
theorem wpList_lookupS (hg : o.guard = none) (m x : Operand) (T K E : TypeId) (hop : o.op = Op.lookup T m x false) (hK : P.underlying K = some .string) (hT : P.underlying T = some (.map K E)) (z : Value) (hz : (zeroValue E).run P w = .ok z w)
    (b n : Nat) (f : ByteArray → Option Value) (hm : a.eval m = .map (some b)) (h : MapS w P K b n f) (s : ByteArray) (hx : a.eval x = .string s) (hs : s.size ≤ maxLen)
    (hk : wpList P ops Q rest (a.put o.dst ((f s).getD z)) w) : wpList P ops Q (o :: rest) a w := by
  refine wpList_plain hg fun K' hK' => ?_
  unfold Oper.wp
  simp [execOp, hop, hm, hx, h.lookup hK hT hz hs, Result.andThen]
  exact hK' _ _ hk
theorem wpList_updateS (hg : o.guard = none) (m x v : Operand) (T K E : TypeId) (hop : o.op = Op.mapUpdate T m x v) (hK : P.underlying K = some .string) (hT : P.underlying T = some (.map K E))
    (b n : Nat) (f : ByteArray → Option Value) (hm : a.eval m = .map (some b)) (h : MapS w P K b n f) (hn : n < maxLen) (s : ByteArray) (hx : a.eval x = .string s) (hs : s.size ≤ maxLen) (u : Value) (hv : a.eval v = u)
    (hk : ∀ w', MapS w' P K b (n + 1) (putF f s u) → w.grownBy w' (some b) → wpList P ops Q rest (a.put o.dst undef) w') : wpList P ops Q (o :: rest) a w := by
  refine wpList_plain hg fun K' hK' => ?_
  obtain ⟨w', hrun, r1, r2⟩ := h.update hK hT hn hs u
  unfold Oper.wp
  simp [execOp, hop, hm, hx, hv, hrun, Result.andThen]
  exact hK' _ _ (hk w' r1 r2)
theorem wpList_rangeS (hg : o.guard = none) (m : Operand) (T K E : TypeId) (hop : o.op = Op.range T m) (hK : P.underlying K = some .string) (hT : P.underlying T = some (.map K E))
    (b n : Nat) (f : ByteArray → Option Value) (hm : a.eval m = .map (some b)) (h : MapS w P K b n f)
    (hk : ∀ w' cnt, RangeS w' P K b w.heap.size n f (fun s => (f s).isSome) cnt → Ext w w' → w'.heap.size = w.heap.size + 1 → wpList P ops Q rest (a.put o.dst (.pointer (some ⟨w.heap.size, 0, none⟩))) w') : wpList P ops Q (o :: rest) a w := by
  refine wpList_plain hg fun K' hK' => ?_
  obtain ⟨w', cnt, hrun, r1, r2, r3⟩ := h.range hK hT
  unfold Oper.wp
  simp [execOp, hop, hm, hrun, Result.andThen]
  exact hK' _ _ (hk w' cnt r1 r2 r3)
theorem wpList_nextS (hg : o.guard = none) (it : Operand) (hop : o.op = Op.next it false) (K : TypeId) (hK : P.underlying K = some .string) (b r n : Nat) (f : ByteArray → Option Value) (left : ByteArray → Bool) (cnt : Nat)
    (hit : a.eval it = .pointer (some ⟨r, 0, none⟩)) (h : RangeS w P K b r n f left cnt)
    (hDone : cnt = 0 → (∀ s, s.size ≤ maxLen → left s = false) → wpList P ops Q rest (a.put o.dst (.tuple #[.bool false])) w)
    (hMore : ∀ (s : ByteArray) (v : Value) (w' : World) (cnt' : Nat), s.size ≤ maxLen → left s = true → f s = some v → RangeS w' P K b r n f (fun t => left t && decide (t ≠ s)) cnt' → cnt' < cnt →
      w.grownBy w' (some r) → w'.heap.size = w.heap.size → (Instr.entry (.pointer (some ⟨r, 0, none⟩))).run P w' = .ok (.tuple #[.string s, v]) w' → wpList P ops Q rest (a.put o.dst (.tuple #[.bool true, .string s, v])) w') :
    wpList P ops Q (o :: rest) a w := by
  refine wpList_plain hg fun K' hK' => ?_
  unfold Oper.wp
  rcases h.next hK o.type with ⟨h0, hl, hrun⟩ | ⟨s, v, w', cnt', hs, hlk, hv, hrun, hrg, hlt, hgr, hsz, hen⟩
  · simp [execOp, hop, hit, hrun, Result.andThen]
    exact hK' _ _ (hDone h0 hl)
  · simp [execOp, hop, hit, hrun, Result.andThen]
    exact hK' _ _ (hMore s v w' cnt' hs hlk hv hrg hlt hgr hsz hen)
end
end Go.Proofs.YtnfbfdamlnjblaaGreatDoor

namespace Go.Proofs.YtnfbfdamlnjblaaGreatDoor
open Go.RowKit

def digV (l : List UInt8) : Nat := l.foldl (fun a c => a * 10 + (c.toNat - 48)) 0
theorem digV_snoc (l : List UInt8) (c : UInt8) : digV (l ++ [c]) = digV l * 10 + (c.toNat - 48) := by simp [digV]
theorem digit_nat (d : Nat) (h : d < 10) : (UInt8.ofNat (48 + d)).toNat = 48 + d := by
  rw [UInt8.toNat_ofNat']
  omega
theorem decDigits_facts (u : Nat) : digV (Lib.decDigits u) = u ∧ (∀ c ∈ Lib.decDigits u, 48 ≤ c.toNat) ∧ Lib.decDigits u ≠ [] := by
  induction u using Nat.strongRecOn with
  | _ u ih =>
    rw [Lib.decDigits]
    by_cases h : u < 10
    · rw [dif_pos h]
      refine ⟨?_, fun c hc => ?_, by simp⟩
      · have := digit_nat u h
        simp only [digV, List.foldl_cons, List.foldl_nil, this]
        omega
      · simp only [List.mem_singleton] at hc
        subst hc
        rw [digit_nat u h]
        omega
    · rw [dif_neg h]
      obtain ⟨h1, h2, h3⟩ := ih (u / 10) (by omega)
      refine ⟨?_, fun c hc => ?_, by simp⟩
      · rw [digV_snoc, h1, digit_nat (u % 10) (by omega)]
        omega
      · rcases List.mem_append.1 hc with hc | hc
        · exact h2 c hc
        · simp only [List.mem_singleton] at hc
          subst hc
          rw [digit_nat (u % 10) (by omega)]
          omega
theorem decDigits_inj {u v : Nat} (h : Lib.decDigits u = Lib.decDigits v) : u = v := by
  have := congrArg digV h
  rwa [(decDigits_facts u).1, (decDigits_facts v).1] at this
theorem itoa_inj {m n : Int} (h : Lib.itoa m = Lib.itoa n) : m = n := by
  have key : ∀ u v : Nat, 45 :: Lib.decDigits u ≠ Lib.decDigits v := by
    intro u v e
    have := (decDigits_facts v).2.1 45 (by rw [← e]; simp)
    simp at this
  unfold Lib.itoa at h
  split at h <;> split at h
  · simp only [List.cons.injEq, true_and] at h
    have := decDigits_inj h
    omega
  · exact absurd h (key _ _)
  · exact absurd h.symm (key _ _)
  · have := decDigits_inj h
    omega
theorem itoa_no32 (n : Int) : ∀ c ∈ Lib.itoa n, c ≠ 32 := by
  intro c hc e
  subst e
  unfold Lib.itoa at hc
  split at hc
  · simp only [List.mem_cons] at hc
    rcases hc with hc | hc
    · simp at hc
    · have := (decDigits_facts _).2.1 _ hc
      simp at this
  · have := (decDigits_facts _).2.1 _ hc
    simp at this
theorem itoa_ne (n : Int) : Lib.itoa n ≠ [] := by
  unfold Lib.itoa
  split
  · simp
  · exact (decDigits_facts _).2.2
theorem cut_eq {s : UInt8} : ∀ {a b A B : List UInt8}, (∀ c ∈ a, c ≠ s) → (∀ c ∈ b, c ≠ s) → (A = [] ∨ ∃ r, A = s :: r) → (B = [] ∨ ∃ r, B = s :: r) → a ++ A = b ++ B → a = b ∧ A = B
  | [], [], A, B, _, _, _, _, h => ⟨rfl, by simpa using h⟩
  | [], y :: b, A, B, _, hb, hA, _, h => by
    rcases hA with rfl | ⟨r, rfl⟩
    · simp at h
    · simp only [List.nil_append, List.cons_append, List.cons.injEq] at h
      exact absurd h.1.symm (hb y (by simp))
  | x :: a, [], A, B, ha, _, _, hB, h => by
    rcases hB with rfl | ⟨r, rfl⟩
    · simp at h
    · simp only [List.nil_append, List.cons_append, List.cons.injEq] at h
      exact absurd h.1 (ha x (by simp))
  | x :: a, y :: b, A, B, ha, hb, hA, hB, h => by
    simp only [List.cons_append, List.cons.injEq] at h
    obtain ⟨e1, e2⟩ := cut_eq (fun c hc => ha c (by simp [hc])) (fun c hc => hb c (by simp [hc])) hA hB h.2
    exact ⟨by rw [h.1, e1], e2⟩
theorem joinTail_begins (s : UInt8) (r : List (List UInt8)) : Lib.joinTail [s] r = [] ∨ ∃ t, Lib.joinTail [s] r = s :: t := by
  cases r with
  | nil => exact .inl rfl
  | cons x r => exact .inr ⟨x ++ Lib.joinTail [s] r, by simp [Lib.joinTail]⟩
theorem joinTail_inj : ∀ {xs ys : List Int}, Lib.joinTail [32] (xs.map Lib.itoa) = Lib.joinTail [32] (ys.map Lib.itoa) → xs = ys
  | [], [], _ => rfl
  | [], y :: ys, h => by simp [Lib.joinTail] at h
  | x :: xs, [], h => by simp [Lib.joinTail] at h
  | x :: xs, y :: ys, h => by
    have e : ∀ (z : Int) (zs : List Int), Lib.joinTail [32] ((z :: zs).map Lib.itoa) = 32 :: (Lib.itoa z ++ Lib.joinTail [32] (zs.map Lib.itoa)) := fun z zs => by simp [Lib.joinTail]
    rw [e, e] at h
    simp only [List.cons.injEq, true_and] at h
    obtain ⟨h1, h2⟩ := cut_eq (itoa_no32 x) (itoa_no32 y) (joinTail_begins _ _) (joinTail_begins _ _) h
    rw [itoa_inj h1, joinTail_inj h2]
theorem intsT_inj {xs ys : List Int} (h : intsT xs = intsT ys) : xs = ys := by
  unfold intsT at h
  match xs, ys with
  | [], [] => rfl
  | [], y :: ys =>
    rw [List.map_cons, Lib.join_cons] at h
    have := congrArg List.length h
    simp only [List.map_nil, Lib.join_nil, List.length_nil, List.length_append] at this
    have := itoa_ne y
    exact absurd (List.length_eq_zero_iff.1 (by omega)) this
  | x :: xs, [] =>
    rw [List.map_cons, Lib.join_cons] at h
    have := congrArg List.length h
    simp only [List.map_nil, Lib.join_nil, List.length_nil, List.length_append] at this
    have := itoa_ne x
    exact absurd (List.length_eq_zero_iff.1 (by omega)) this
  | x :: xs, y :: ys =>
    rw [List.map_cons, List.map_cons, Lib.join_cons, Lib.join_cons] at h
    obtain ⟨h1, h2⟩ := cut_eq (itoa_no32 x) (itoa_no32 y) (joinTail_begins _ _) (joinTail_begins _ _) h
    rw [itoa_inj h1, joinTail_inj h2]
/-- the key of a list of numbers in the program's maps -/
def keyI (xs : List Int) : ByteArray := str (intsT xs)
theorem keyI_inj {xs ys : List Int} (h : keyI xs = keyI ys) : xs = ys := by
  unfold keyI str at h
  simp only [ByteArray.mk.injEq] at h
  apply intsT_inj
  have := congrArg Array.toList h
  simpa using this
end Go.Proofs.YtnfbfdamlnjblaaGreatDoor

namespace Go.Proofs.YtnfbfdamlnjblaaGreatDoor
open Go.RowKit

/-! ### ordered lists -/
structure Ord (R : List Int → List Int → Prop) : Prop where
  irr : ∀ x, ¬ R x x
  tr : ∀ {x y z}, R x y → R y z → R x z
  tot : ∀ {x y}, x ≠ y → R x y ∨ R y x
abbrev Tm : Type := List Int × Int
def Ordered (R : List Int → List Int → Prop) (l : List Tm) : Prop := l.Pairwise fun x y => R x.1 y.1
theorem ordered_unique {R : List Int → List Int → Prop} (O : Ord R) : ∀ {l m : List Tm}, Ordered R l → Ordered R m → (∀ p, p ∈ l ↔ p ∈ m) → l = m
  | [], [], _, _, _ => rfl
  | [], y :: m, _, _, h => absurd ((h y).2 (by simp)) (by simp)
  | x :: l, [], _, _, h => absurd ((h x).1 (by simp)) (by simp)
  | x :: l, y :: m, hl, hm, h => by
    obtain ⟨l1, l2⟩ := List.pairwise_cons.1 hl
    obtain ⟨m1, m2⟩ := List.pairwise_cons.1 hm
    have e : x = y := by
      rcases List.mem_cons.1 ((h x).1 (by simp)) with e | hx
      · exact e
      · rcases List.mem_cons.1 ((h y).2 (by simp)) with e | hy
        · exact e.symm
        · exact absurd (O.tr (m1 x hx) (l1 y hy)) (O.irr _)
    subst e
    refine congrArg (x :: ·) (ordered_unique O l2 m2 fun p => ⟨fun hp => ?_, fun hp => ?_⟩)
    · rcases List.mem_cons.1 ((h p).1 (by simp [hp])) with e | hp'
      · subst e; exact absurd (l1 p hp) (O.irr _)
      · exact hp'
    · rcases List.mem_cons.1 ((h p).2 (by simp [hp])) with e | hp'
      · subst e; exact absurd (m1 p hp) (O.irr _)
      · exact hp'
/-- the list has just the words whose number is not 0 -/
def Tells (g : List Int → Int) (T : List Tm) : Prop := ∀ x c, (x, c) ∈ T ↔ g x = c ∧ c ≠ 0

theorem lexC_less (xs ys : List Int) : lexC xs ys < 0 ↔ xs < ys := by
  induction xs generalizing ys with
  | nil => cases ys with
    | nil => simp [lexC]
    | cons y ys => simp [lexC]
  | cons x xs ih =>
    cases ys with
    | nil => simp [lexC]
    | cons y ys =>
      rw [List.cons_lt_cons_iff]
      simp only [lexC]
      rcases Int.lt_trichotomy x y with h | h | h
      · simp [cmpI, h]
      · subst h
        simp [cmpI_self, ih]
      · have hx : ¬ x < y := by omega
        have hne : x ≠ y := by omega
        simp [cmpI, hx, h, hne]
theorem lexC_eq {xs ys : List Int} (h : lexC xs ys = 0) : xs = ys := by
  induction xs generalizing ys with
  | nil => cases ys with
    | nil => rfl
    | cons y ys => simp [lexC] at h
  | cons x xs ih =>
    cases ys with
    | nil => simp [lexC] at h
    | cons y ys =>
      simp only [lexC] at h
      by_cases hc : cmpI x y = 0
      · simp [hc] at h
        rw [cmpI_zero hc, ih h]
      · simp [hc] at h
/-- x stands ahead of y in a falling list -/
def Above (x y : List Int) : Prop := lexC y x < 0
theorem above_ord : Ord Above where
  irr x := by unfold Above; rw [lexC_less]; exact List.lt_irrefl x
  tr h1 h2 := by unfold Above at *; rw [lexC_less] at *; exact List.lt_trans h2 h1
  tot {x y} hne := by
    unfold Above
    by_cases h : lexC y x < 0
    · exact .inl h
    · refine .inr ?_
      rw [lexC_less] at *
      have := List.not_lt.1 h
      rcases List.le_iff_lt_or_eq.1 this with h2 | h2
      · exact h2
      · exact absurd h2 hne

/-! ### worlds in which two maps turn -/
structure ExtM (b1 b2 : Nat) (w w' : World) : Prop where
  os : w'.os = w.os
  tape : w'.tape = w.tape
  output : w'.output = w.output
  size : w.heap.size ≤ w'.heap.size
  block : ∀ k, k < w.heap.size → k ≠ b1 → k ≠ b2 → w'.heap[k]? = w.heap[k]?
def IsMapAt (w : World) (b : Nat) : Prop := ∃ es clock, w.heap[b]? = some (.map es clock)
theorem ExtM.refl (b1 b2 : Nat) (w : World) : ExtM b1 b2 w w := ⟨rfl, rfl, rfl, Nat.le_refl _, fun _ _ _ _ => rfl⟩
theorem ExtM.trans {b1 b2 : Nat} {u v w : World} (h : ExtM b1 b2 u v) (k : ExtM b1 b2 v w) : ExtM b1 b2 u w :=
  ⟨k.os.trans h.os, k.tape.trans h.tape, k.output.trans h.output, Nat.le_trans h.size k.size, fun i hi h1 h2 => (k.block i (Nat.lt_of_lt_of_le hi h.size) h1 h2).trans (h.block i hi h1 h2)⟩
theorem ExtM.of_ext {b1 b2 : Nat} {w w' : World} (h : Ext w w') : ExtM b1 b2 w w' := ⟨h.os, h.tape, h.output, h.size, fun k hk _ _ => h.block k hk⟩
theorem ExtM.of_left {b1 b2 : Nat} {w w' : World} (h : w.grownBy w' (some b1)) : ExtM b1 b2 w w' := ⟨h.os, h.tape, h.output, h.size, fun k hk h1 _ => h.block k hk (by simpa using h1)⟩
theorem ExtM.of_right {b1 b2 : Nat} {w w' : World} (h : w.grownBy w' (some b2)) : ExtM b1 b2 w w' := ⟨h.os, h.tape, h.output, h.size, fun k hk _ h2 => h.block k hk (by simpa using h2)⟩
theorem ExtM.below {b1 b2 B : Nat} {w0 w w' : World} (h : ExtM b1 b2 w w') (hb : Below B w0 w) (h1 : B ≤ b1) (h2 : B ≤ b2) (hB : B ≤ w.heap.size) : Below B w0 w' :=
  ⟨h.os.trans hb.os, h.tape.trans hb.tape, h.output.trans hb.output, Nat.le_trans hb.size h.size, fun k hk => (h.block k (by omega) (by omega) (by omega)).trans (hb.block k hk)⟩
theorem cell_not_map {w : World} {b : Nat} (h : IsMapAt w b) {p : Addr} {v : Value} (hc : w.cell? p = some v) : p.block ≠ b := by
  obtain ⟨es, clock, hb⟩ := h
  intro e
  subst e
  simp [World.cell?, hb] at hc
theorem ExtM.cell {b1 b2 : Nat} {w w' : World} (h : ExtM b1 b2 w w') (m1 : IsMapAt w b1) (m2 : IsMapAt w b2) {p : Addr} {v : Value} (hc : w.cell? p = some v) : w'.cell? p = some v := by
  rw [← hc]
  exact World.cell?_of_block (h.block _ (World.block_lt_of_cell? w p hc) (cell_not_map m1 hc) (cell_not_map m2 hc))
theorem IntsAt.extM {b1 b2 : Nat} {w w' : World} {a : Option Addr} {n : Nat} {xs : List Int} (hi : IntsAt w a n xs) (h : ExtM b1 b2 w w') (m1 : IsMapAt w b1) (m2 : IsMapAt w b2) : IntsAt w' a n xs := by
  refine ⟨hi.len, fun i hi' => ?_⟩
  obtain ⟨b, o, e, hc⟩ := hi.get i hi'
  exact ⟨b, o, e, h.cell m1 m2 hc⟩

/-! ### the two maps -/
def KeyOk (x : List Int) : Prop := Small x ∧ x.length ≤ 1000
theorem KeyOk.size {x : List Int} (h : KeyOk x) : (keyI x).size ≤ maxLen := by
  unfold keyI
  rw [str_size]
  have := intsT_length x h.1 x.length
  rw [List.take_length] at this
  have := h.2
  unfold maxLen
  omega
structure WordAt (w : World) (f1 : ByteArray → Option Value) (s : ByteArray) : Prop where
  ex : ∃ x a c, KeyOk x ∧ s = keyI x ∧ f1 s = some (.slice a x.length c) ∧ IntsAt w a x.length x ∧ (a = none → c = 0)
structure Counts (w : World) (b1 b2 n : Nat) (g : List Int → Int) (f1 f2 : ByteArray → Option Value) : Prop where
  ne : b1 ≠ b2
  m1 : MapS w Tryz.prog 9 b1 n f1
  m2 : MapS w Tryz.prog 9 b2 n f2
  num : ∀ x, KeyOk x → (f2 (keyI x)).getD (.int .i64 0) = .int .i64 (g x)
  word : ∀ s, (f1 s).isSome = true → WordAt w f1 s
  has : ∀ x, g x ≠ 0 → (f1 (keyI x)).isSome = true
def addG (g : List Int → Int) (x : List Int) (c : Int) : List Int → Int := fun y => if y = x then g x + c else g y

theorem MapS.is {w : World} {K : TypeId} {P : Program} {b n : Nat} {f : ByteArray → Option Value} (h : MapS w P K b n f) : IsMapAt w b := h.isMap
theorem Counts.below {w w' : World} {b1 b2 n : Nat} {g : List Int → Int} {f1 f2 : ByteArray → Option Value} (h : Counts w b1 b2 n g f1 f2) (hx : Ext w w') : Counts w' b1 b2 n g f1 f2 :=
  ⟨h.ne, h.m1.below hx, h.m2.below hx, h.num, fun s hs => by
    obtain ⟨x, a, c, h1, h2, h3, h4, h5⟩ := (h.word s hs).ex
    exact ⟨x, a, c, h1, h2, h3, h4.below hx, h5⟩, h.has⟩
theorem Counts.made (w : World) : Counts ((w.alloc (.map #[] 0)).alloc (.map #[] 0)) w.heap.size (w.heap.size + 1) 0 (fun _ => 0) (fun _ => none) (fun _ => none) := by
  refine ⟨by omega, (MapS.made w _ _).below (Ext.alloc _ _), ?_, fun x _ => rfl, fun s hs => by simp at hs, fun x hx => absurd rfl hx⟩
  have := MapS.made (w.alloc (.map #[] 0)) Tryz.prog 9
  simpa using this
theorem putF_same (f : ByteArray → Option Value) (s : ByteArray) (v : Value) : putF f s v s = some v := by simp [putF]
theorem putF_other (f : ByteArray → Option Value) {s t : ByteArray} (v : Value) (h : t ≠ s) : putF f s v t = f t := by simp [putF, h]
/-- what the two stores of a number leave -/
theorem Counts.stored {w w1 w2 : World} {b1 b2 n : Nat} {g : List Int → Int} {f1 f2 : ByteArray → Option Value} (h : Counts w b1 b2 n g f1 f2) {x : List Int} (hk : KeyOk x) {a : Option Addr} {c : Nat} (hi : IntsAt w a x.length x) (ha : a = none → c = 0) {d : Int}
    (hm1 : MapS w1 Tryz.prog 9 b1 (n + 1) (putF f1 (keyI x) (.slice a x.length c))) (hg1 : w.grownBy w1 (some b1))
    (hm2 : MapS w2 Tryz.prog 9 b2 (n + 1) (putF f2 (keyI x) (.int .i64 d))) (hg2 : w1.grownBy w2 (some b2)) :
    Counts w2 b1 b2 (n + 1) (fun y => if y = x then d else g y) (putF f1 (keyI x) (.slice a x.length c)) (putF f2 (keyI x) (.int .i64 d)) := by
  have hx : ExtM b1 b2 w w2 := (ExtM.of_left hg1).trans (ExtM.of_right hg2)
  have hc : ∀ {a : Option Addr} {n : Nat} {xs : List Int}, IntsAt w a n xs → IntsAt w2 a n xs := fun h' => h'.extM hx h.m1.is h.m2.is
  refine ⟨h.ne, hm1.kept hg2 (by simpa using h.ne), hm2, fun y hy => ?_, fun s hs => ?_, fun y hy => ?_⟩
  · by_cases e : y = x
    · subst e
      rw [putF_same]
      simp
    · rw [putF_other _ _ (fun e' => e (keyI_inj e')), h.num y hy, if_neg e]
  · by_cases e : s = keyI x
    · subst e
      exact ⟨x, a, c, hk, rfl, putF_same _ _ _, hc hi, ha⟩
    · rw [putF_other _ _ e] at hs
      obtain ⟨y, a', c', h1, h2, h3, h4, h5⟩ := (h.word s hs).ex
      exact ⟨y, a', c', h1, h2, by rw [putF_other _ _ e]; exact h3, hc h4, h5⟩
  · by_cases e : y = x
    · subst e
      rw [putF_same]
      rfl
    · rw [putF_other _ _ (fun e' => e (keyI_inj e'))]
      exact h.has y (by simpa [e] using hy)
end Go.Proofs.YtnfbfdamlnjblaaGreatDoor

namespace Go.Proofs.YtnfbfdamlnjblaaGreatDoor
open Go.RowKit

abbrev cntV (b1 b2 : Nat) : Value := .agg #[.map (some b1), .map (some b2)]
theorem zero_ints (w : World) : (zeroValue 22).run Tryz.prog w = .ok (.slice none 0 0) w := by kernel_rfl
theorem zero_int (w : World) : (zeroValue 3).run Tryz.prog w = .ok (.int .i64 0) w := by kernel_rfl
/-- the two maps in a variable -/
structure CntAt (w : World) (b b1 b2 : Nat) : Prop where
  c0 : w.cell? ⟨b, 0, none⟩ = some (.map (some b1))
  c1 : w.cell? ⟨b, 1, none⟩ = some (.map (some b2))
theorem CntAt.new (w : World) (b : Nat) (hb : b = w.heap.size) (b1 b2 : Nat) (E : TypeId) : CntAt (w.alloc (.cells #[.map (some b1), .map (some b2)] E)) b b1 b2 :=
  ⟨(cell_top _ _ _ _ _ hb).trans rfl, (cell_top _ _ _ _ _ hb).trans rfl⟩
theorem CntAt.below {w w' : World} {b b1 b2 : Nat} (h : CntAt w b b1 b2) (hb : Ext w w') : CntAt w' b b1 b2 :=
  have hl := World.block_lt_of_cell? w _ h.c0
  ⟨(hb.cell (p := ⟨b, 0, none⟩) hl).trans h.c0, (hb.cell (p := ⟨b, 1, none⟩) hl).trans h.c1⟩
theorem CntAt.extM {w w' : World} {b b1 b2 : Nat} (h : CntAt w b b1 b2) (hx : ExtM b1 b2 w w') (m1 : IsMapAt w b1) (m2 : IsMapAt w b2) : CntAt w' b b1 b2 :=
  ⟨hx.cell m1 m2 h.c0, hx.cell m1 m2 h.c1⟩

set_option maxHeartbeats 1000000 in
theorem newCounts_any (w : World) : Calls Tryz.prog 90 #[] w fun e w' => ∃ b, e = .returned (cntV b (b + 1)) ∧ Counts w' b (b + 1) 0 (fun _ => 0) (fun _ => none) (fun _ => none) ∧ w.heap.size ≤ b ∧ Ext w w' := by
  have hmm := @run_makeMap Tryz.prog
  go_enter Tryz.func90, Tryz.ntmps90
  have hxc := Ext.alloc w (.cells #[.map (some (w.heap.size + 1)), .map (some (w.heap.size + 1 + 1))] 107)
  have hm := Counts.made (w.alloc (.cells #[.map (some (w.heap.size + 1)), .map (some (w.heap.size + 1 + 1))] 107))
  have hx2 := (hxc.trans (Ext.alloc _ (.map #[] 0))).trans (Ext.alloc _ (.map #[] 0))
  have hc := CntAt.new w _ rfl (w.heap.size + 1) (w.heap.size + 1 + 1) 107
  have hc2 := (hc.below (Ext.alloc _ (.map #[] 0))).below (Ext.alloc _ (.map #[] 0))
  rw [show (w.alloc (.cells #[.map (some (w.heap.size + 1)), .map (some (w.heap.size + 1 + 1))] 107)).heap.size = w.heap.size + 1 by simp] at hm
  go_wp2
  refine bodyPost_ret (v := cntV (w.heap.size + 1) (w.heap.size + 1 + 1)) (by simp [results, Tryz.results90, go_sem, hc2.c0, hc2.c1]) rfl ⟨_, rfl, hm, by omega, hx2⟩
set_option maxRecDepth 100000 in
set_option maxHeartbeats 2000000 in
theorem cntAdd_any (b1 b2 n : Nat) (g : List Int → Int) (f1 f2 : ByteArray → Option Value) (a : Option Addr) (m c : Nat) (x : List Int) (d : Int) (w : World) (hC : Counts w b1 b2 n g f1 f2) (hk : KeyOk x) (hi : IntsAt w a m x) (ha : a = none → c = 0)
    (hn : n ≤ 1000000000) (hr0 : -9223372036854775808 ≤ g x + d) (hr1 : g x + d ≤ 9223372036854775807) (ht : Tab w) :
    Calls Tryz.prog 91 #[cntV b1 b2, .slice a m c, .int .i64 d] w fun e w' => e = .returned (.tuple #[]) ∧ (∃ f1' f2', Counts w' b1 b2 (n + 1) (addG g x d) f1' f2') ∧ ExtM b1 b2 w w' := by
  obtain rfl : m = x.length := hi.len.symm
  have hxa := Ext.alloc w (.cells #[.map (some b1), .map (some b2)] 107)
  have HC := hidP (hC.below hxa)
  have HI := hidP (hi.below hxa)
  have HA := hidP (CntAt.new w _ rfl b1 b2 107)
  have HK := hidP hk
  have HN := hidP ha
  have HF := hidP (formatInts_any a x.length c x _ (hi.below hxa) hk.1 (by have := hk.2; omega) (ht.below hxa))
  have HX := hidP hxa
  clear hxa hC hi hk ha ht
  go_enter Tryz.func91, Tryz.ntmps91
  go_wp2_with fail
  refine HF.out.mono ?_
  rintro e w1 ⟨rfl, hx1⟩
  have HX1 := hidP hx1
  have HC1 := hidP (HC.out.below hx1)
  have HI1 := hidP (HI.out.below hx1)
  have HA1 := hidP (HA.out.below hx1)
  obtain ⟨f0, f1'⟩ := HA1.out
  clear hx1 HF
  have hks := HK.out.size
  have HW := hidP (HC1.out.num x HK.out)
  go_wp2_with (first | (at_mapUpdate; refine wpList_updateS _ rfl _ _ _ 76 9 22 rfl Tryz.underlying9 Tryz.underlying76 b1 n f1 rfl HC1.out.m1 (by unfold maxLen; omega) (keyI x) rfl hks (.slice a x.length c) rfl ?_; intro w2 hm2 hg2; have q1 := (ExtM.of_left (b2 := b2) hg2).cell HC1.out.m1.is HC1.out.m2.is f1'; have HM2 := hidP hm2; have HG2 := hidP hg2; have HL2 := hidP (HC1.out.m2.kept hg2 (by simpa using HC1.out.ne.symm)); clear hm2 hg2) | (at_lookup; refine wpList_lookupS _ rfl _ _ 77 9 3 rfl Tryz.underlying9 Tryz.underlying77 (.int .i64 0) (zero_int _) b2 n f2 rfl HL2.out (keyI x) rfl hks ?_; rw [HW.out]) | (at_mapUpdate; refine wpList_updateS _ rfl _ _ _ 77 9 3 rfl Tryz.underlying9 Tryz.underlying77 b2 n f2 rfl HL2.out (by unfold maxLen; omega) (keyI x) rfl hks (.int .i64 (g x + d)) rfl ?_; intro w3 hm3 hg3; have HM3 := hidP hm3; have HG3 := hidP hg3; clear hm3 hg3) | fail)
  go_end0
  have hst := HC1.out.stored HK.out HI1.out HN.out HM2.out HG2.out HM3.out HG3.out
  exact ⟨rfl, ⟨_, _, hst⟩, ((ExtM.of_ext HX.out).trans (ExtM.of_ext HX1.out)).trans ((ExtM.of_left HG2.out).trans (ExtM.of_right HG3.out))⟩
end Go.Proofs.YtnfbfdamlnjblaaGreatDoor
