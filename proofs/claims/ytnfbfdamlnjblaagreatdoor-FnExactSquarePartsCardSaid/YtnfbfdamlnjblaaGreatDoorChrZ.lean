/-
  An owned slice of structs is sorted by the library: what the sort asks of it, what it leaves.
  The program's terms of counts: the words with their numbers, in order; the test of a character.
  The program's counts as a character; lists of numbers taken a number of times.
  The program's DualCharacter.
  The program's DoubleCharacter. Printed by gen/chrF.py.
  Characters of the reference: CharacterOk, DualCharacter, DoubleCharacter. Printed by gen/chrG.py.
  What characters give is small.
-/
import Derived.Test.YtnfbfdamlnjblaaGreatDoorStp
import Derived.Shelf.SlSortCmp.WholeK
import Derived.Lib.OwnBridge
import Derived.Test.YtnfbfdamlnjblaaGreatDoorCntZ
import Derived.Test.YtnfbfdamlnjblaaGreatDoorSrtS
import Derived.Test.YtnfbfdamlnjblaaGreatDoorPthC
import Derived.Test.YtnfbfdamlnjblaaGreatDoorChrY
import Derived.Test.YtnfbfdamlnjblaaGreatDoorPthT
import Derived.Test.YtnfbfdamlnjblaaGreatDoorSup
import Derived.Test.YtnfbfdamlnjblaaGreatDoorCarG
import Derived.Test.YtnfbfdamlnjblaaGreatDoorCarV
import Derived.Test.YtnfbfdamlnjblaaGreatDoorLPth
namespace Go.Proofs.YtnfbfdamlnjblaaGreatDoor
open Go.RowKit Go.Sort Go.Shelf

theorem ownsRow_put {w : World} {B : Nat} {e : TypeId} {g n c q size : Nat} {vs ys : List Value} (h : w.ownsRow B e size (.slice (some ⟨g, 0, none⟩) n c) n vs) (hy : ys.length = n * size) :
    (putRow id (Sort.ahead w q) g 0 ys.toArray).ownsRow B e size (.slice (some ⟨g, 0, none⟩) n c) n ys := by
  rcases h.2 with ⟨e0, _⟩ | ⟨g', cap', cur, e0, hb, hg, hn, hm, hs, ht⟩
  · cases e0
  · injection e0 with e1 _ e3
    injection e1 with e1
    injection e1 with e1
    subst e1; subst e3
    have hsz : n * size ≤ cur.size := by rw [hs]; exact Nat.mul_le_mul_right _ hn
    refine ⟨hy, .inr ⟨g, c, putCells id 0 ys.toArray cur, rfl, hb, ?_, hn, hm, by simpa [putCells] using hs, ?_⟩⟩
    · simp [putRow, mapBlock, Sort.ahead, Array.getElem?_modify, hg, onCells]
    · apply List.ext_getElem?
      intro j
      rw [List.getElem?_take, Array.getElem?_toList]
      by_cases hj : j < n * size
      · have hjc : j < cur.size := by omega
        simp only [if_pos hj, putCells, Array.getElem?_mapIdx, Array.getElem?_eq_getElem hjc, Option.map_some]
        rw [if_pos (by simp; omega), List.getElem?_eq_getElem (by omega)]
        simp [getElem!_pos, show j < ys.length by omega]
      · rw [if_neg hj, List.getElem?_eq_none (by omega)]

variable {α : Type}
theorem flat_all {β : Type} [Inhabited β] (K : Knd α) (val : β → Hdr × α) (d : Array β) :
    (flatK (fun b => K.cells (val b).1.1 (val b).1.2 (val b).2) K.size d).toList = K.all (d.toList.map fun b => (val b).1) (d.toList.map fun b => (val b).2) := by
  have hl := K.all_length (d.toList.map fun b => (val b).1) (d.toList.map fun b => (val b).2) (by simp)
  simp only [List.length_map, Array.length_toList] at hl
  apply List.ext_getElem?
  intro t
  by_cases ht : t < d.size * K.size
  · have hp : 0 < K.size := K.pos
    have h1 : t / K.size < d.size := (Nat.div_lt_iff_lt_mul hp).2 ht
    have h2 : t % K.size < K.size := Nat.mod_lt _ hp
    have h3 := K.all_get (d.toList.map fun b => (val b).1) (d.toList.map fun b => (val b).2) (by simp) (t / K.size) (t % K.size) (by simpa using h1) h2
    rw [show t / K.size * K.size + t % K.size = t by rw [Nat.mul_comm]; exact Nat.div_add_mod t K.size] at h3
    rw [h3]
    have h4 := get_flatK (fun b => K.cells (val b).1.1 (val b).1.2 (val b).2) K.size d t ht
    have h5 : t < (flatK (fun b => K.cells (val b).1.1 (val b).1.2 (val b).2) K.size d).size := by rw [size_flatK]; exact ht
    rw [getElem!_pos (flatK (fun b => K.cells (val b).1.1 (val b).1.2 (val b).2) K.size d) t h5] at h4
    rw [Array.getElem?_toList, Array.getElem?_eq_getElem h5, h4]
    have e1 : d[t / K.size]! = d[t / K.size] := getElem!_pos d (t / K.size) h1
    rw [e1]
    have g1 : (d.toList.map fun b => (val b).1).getD (t / K.size) (none, 0) = (val d[t / K.size]).1 := by simp [List.getD_eq_getElem?_getD, h1]
    have g2 : (d.toList.map fun b => (val b).2).getD (t / K.size) K.dft = (val d[t / K.size]).2 := by simp [List.getD_eq_getElem?_getD, h1]
    rw [g1, g2]
    have h6 : t % K.size < (K.cells (val d[t / K.size]).1.1 (val d[t / K.size]).1.2 (val d[t / K.size]).2).length := by rw [K.len]; exact h2
    rw [List.getElem?_eq_getElem h6, getElem!_pos (K.cells (val d[t / K.size]).1.1 (val d[t / K.size]).1.2 (val d[t / K.size]).2) (t % K.size) h6]
  · rw [List.getElem?_eq_none (by rw [Array.length_toList, size_flatK]; omega), List.getElem?_eq_none (by omega)]

theorem OwnK.permuted {K : Knd α} {w w' : World} {B U : Nat} {n c g : Nat} {hs hs' : List Hdr} {xs xs' : List α} (h : OwnK K w B U (some ⟨g, 0, none⟩) n c hs xs)
    (hr : w'.ownsRow B K.E K.size (.slice (some ⟨g, 0, none⟩) n c) n (K.all hs' xs')) (hg : w.grownBy w' (some g)) (hl : hs'.length = n) (xl : xs'.length = n) (hp : (hs'.zip xs').Perm (hs.zip xs)) : OwnK K w' B U (some ⟨g, 0, none⟩) n c hs' xs' := by
  have hhl := h.hl
  have hxl := h.xl
  have hz : ∀ i, i < n → (hs'.getD i (none, 0), xs'.getD i K.dft) ∈ hs.zip xs := fun i hi => by
    refine hp.mem_iff.1 ?_
    rw [List.mem_iff_getElem]
    refine ⟨i, by simp; omega, ?_⟩
    simp [List.getD_eq_getElem?_getD, List.getElem?_eq_getElem (show i < hs'.length by omega), List.getElem?_eq_getElem (show i < xs'.length by omega)]
  have hback : ∀ i, i < n → ∃ j, j < n ∧ hs.getD j (none, 0) = hs'.getD i (none, 0) ∧ xs.getD j K.dft = xs'.getD i K.dft := fun i hi => by
    obtain ⟨j, hj, e⟩ := List.mem_iff_getElem.1 (hz i hi)
    simp only [List.length_zip] at hj
    simp only [List.getElem_zip, Prod.mk.injEq] at e
    refine ⟨j, by omega, ?_, ?_⟩
    · rw [← e.1]; simp [List.getD_eq_getElem?_getD, show j < hs.length by omega]
    · rw [← e.2]; simp [List.getD_eq_getElem?_getD, show j < xs.length by omega]
  have hpw : hs'.Pairwise fun a b => Apart a.1 b.1 := by
    have h1 : hs.Pairwise fun a b => Apart a.1 b.1 := by
      rw [List.pairwise_iff_getElem]
      intro i j hi hj hij
      have := h.apart i j (by omega) (by omega) (by omega)
      simpa [List.getD_eq_getElem?_getD, hi, hj] using this
    have h2 : (hs.zip xs).Pairwise fun a b => Apart a.1.1 b.1.1 := by
      have : ((hs.zip xs).map Prod.fst).Pairwise fun a b => Apart a.1 b.1 := by rw [List.map_fst_zip (by omega)]; exact h1
      rw [List.pairwise_map] at this
      exact this
    have h3 := (hp.pairwise_iff (fun {a b} (hab : Apart a.1.1 b.1.1) => hab.symm)).2 h2
    have h4 : ((hs'.zip xs').map Prod.fst).Pairwise fun a b => Apart a.1 b.1 := by rw [List.pairwise_map]; exact h3
    rwa [List.map_fst_zip (by omega)] at h4
  refine ⟨hr, hl, xl, fun i hi => ?_, fun i j hi hj hne => ?_, fun i hi b o e => ?_, h.olt⟩
  · obtain ⟨j, hj, e1, e2⟩ := hback i hi
    rw [← e1, ← e2]
    exact (h.each j hj).grown hg fun b o e' => by
      have := h.far j hj g 0 b o rfl e'
      simp only [ne_eq, Option.some.injEq]
      omega
  · have hi' : i < hs'.length := by omega
    have hj' : j < hs'.length := by omega
    simp only [List.getD_eq_getElem?_getD, List.getElem?_eq_getElem hi', List.getElem?_eq_getElem hj', Option.getD_some]
    rcases Nat.lt_or_gt_of_ne hne with h1 | h1
    · exact List.pairwise_iff_getElem.1 hpw i j hi' hj' h1
    · exact (List.pairwise_iff_getElem.1 hpw j i hj' hi' h1).symm
  · obtain ⟨j, hj, e1, e2⟩ := hback i hi
    rw [← e1] at e
    exact h.lt j hj b o e

/-- what may stand in the slice while it is sorted: whatever reads in the world of the call, off the slice's own block -/
def SrtOk (K : Knd α) (w : World) (g : Nat) (x : Hdr × α) : Prop := IntsAt w x.1.1 (K.ints x.2).length (K.ints x.2) ∧ (K.ints x.2).length ≤ 9223372036854775807 ∧ ∀ b o, x.1.1 = some ⟨b, o, none⟩ → 0 < (K.ints x.2).length → b ≠ g ∧ b < w.heap.size
theorem SrtOk.later {K : Knd α} {w : World} {g : Nat} {x : Hdr × α} (h : SrtOk K w g x) (m : Nat) (F : Array Value) (os : Array Obj) : IntsAt (grow (putRow id (Sort.ahead w m) g 0 F) os) x.1.1 (K.ints x.2).length (K.ints x.2) := by
  refine ⟨h.1.len, fun i hi => ?_⟩
  obtain ⟨b, o, e, hc⟩ := h.1.get i hi
  obtain ⟨h1, h2⟩ := h.2.2 b o e (by omega)
  refine ⟨b, o, e, ?_⟩
  rw [cell?_grow _ os _ (by simpa using h2), cell?_putRow_other id _ g 0 F _ (Or.inl h1)]
  exact hc

/-- the sort, on an owned slice: what is read in it stands in order behind -/
theorem sort_owned {ρ : Ren} (L : SlLaysF0.n6 Tryz.prog ρ) (K : Knd α) (d0 : α) (h00 : K.ints d0 = []) (aE : ∀ w, (isAgg (ρ.t 24)).run Tryz.prog w = .ok true w) (zE : ∀ w, (Go.sizeOf (ρ.t 24)).run Tryz.prog w = .ok K.size w)
    (cf : α → α → Int) (hO : SWO (ltOf cf)) (g0 : Nat) (eg : ∀ args w, (callFunc g0 args).run Tryz.prog w = .ok (.enter g0 args) w)
    (hclo : ∀ (w' : World) (x y : Hdr × α), IntsAt w' x.1.1 (K.ints x.2).length (K.ints x.2) → IntsAt w' y.1.1 (K.ints y.2).length (K.ints y.2) → (K.ints x.2).length ≤ 9223372036854775807 → (K.ints y.2).length ≤ 9223372036854775807 → Calls Tryz.prog g0 #[.agg (K.cells x.1.1 x.1.2 x.2).toArray, .agg (K.cells y.1.1 y.1.2 y.2).toArray] w' fun e w'' => e = .returned (.int .i64 (cf x.2 y.2)) ∧ ∃ q os', w'' = grow (w'.drewN q) os')
    {w : World} {B U g n c : Nat} {hs : List Hdr} {xs : List α} (h : OwnK K w B U (some ⟨g, 0, none⟩) n c hs xs) (hn : n < 4611686018427387904) :
    Calls Tryz.prog (ρ.f 6) #[.slice (some ⟨g, 0, none⟩) n c, .func (.func g0) #[] #[]] w fun e w' => e = .returned (.tuple #[]) ∧
      ∃ hs' xs', OwnK K w' B U (some ⟨g, 0, none⟩) n c hs' xs' ∧ xs'.Perm xs ∧ (xs'.Pairwise fun x y => ltOf cf y x = false) ∧ w.grownBy w' (some g) := by
  have hhl := h.hl
  have hxl := h.xl
  have hall := K.all_length hs xs (hhl.trans hxl.symm)
  let β := {x : Hdr × α // SrtOk K w g x}
  have hd0 : SrtOk K w g ((none, 0), d0) := ⟨by rw [h00]; exact IntsAt.nil _ _, by rw [h00]; simp, fun b o e => by cases e⟩
  letI : Inhabited β := ⟨⟨((none, 0), d0), hd0⟩⟩
  let enc : β → List Value := fun b => K.cells b.1.1.1 b.1.1.2 b.1.2
  have hmem : ∀ x ∈ hs.zip xs, SrtOk K w g x := fun x hx => by
    obtain ⟨i, hi, e⟩ := List.mem_iff_getElem.1 hx
    simp only [List.length_zip] at hi
    have hin : i < n := by omega
    have ho := h.each i hin
    have hf := h.far i hin
    have g1 : hs.getD i (none, 0) = x.1 := by rw [← e]; simp [List.getD_eq_getElem?_getD, show i < hs.length by omega]
    have g2 : xs.getD i K.dft = x.2 := by rw [← e]; simp [List.getD_eq_getElem?_getD, show i < xs.length by omega]
    rw [g1, g2] at ho
    rw [g1] at hf
    refine ⟨ho.ints, ho.small, fun b o e' hp => ⟨fun e2 => hf g 0 b o rfl e' e2.symm, ?_⟩⟩
    have hi2 := ho.ints
    rw [e'] at hi2
    exact hi2.block_lt hp
  let l : List β := (hs.zip xs).attach.map fun x => ⟨x.1, hmem x.1 x.2⟩
  have hlv : l.map (·.1) = hs.zip xs := by
    show ((hs.zip xs).attach.map fun x => (⟨x.1, hmem x.1 x.2⟩ : β)).map (·.1) = _
    rw [List.map_map]
    exact List.attach_map_subtype_val _
  have hll : l.length = n := by simp [l]; omega
  let d : Array β := l.toArray
  have hds : d.size = n := by simp [d, hll]
  have hl1 : l.map (fun b => b.1.1) = hs := by
    rw [show (fun b : β => b.1.1) = Prod.fst ∘ (fun b : β => b.1) from rfl, ← List.map_map, hlv, List.map_fst_zip (by omega)]
  have hl2 : l.map (fun b => b.1.2) = xs := by
    rw [show (fun b : β => b.1.2) = Prod.snd ∘ (fun b : β => b.1) from rfl, ← List.map_map, hlv, List.map_snd_zip (by omega)]
  have hflat : (flatK enc K.size d).toList = K.all hs xs := by
    have := flat_all K (fun b : β => b.1) d
    rw [show d.toList = l from rfl, hl1, hl2] at this
    exact this
  obtain ⟨gb, cur, eb, hB, hgl, hgb, hnc, _⟩ : ∃ gb cur, (some (⟨g, 0, none⟩ : Addr)) = some ⟨gb, 0, none⟩ ∧ B ≤ gb ∧ gb < w.heap.size ∧ w.heap[gb]? = some (.cells cur K.E (0, 0)) ∧ n ≤ c ∧ True := by
    rcases h.form with ⟨e, _⟩ | ⟨gb, cur, e, h1, h2, h3, h4, _⟩
    · cases e
    · exact ⟨gb, cur, e, h1, h2, h3, h4, trivial⟩
  simp only [Option.some.injEq, Addr.mk.injEq, and_true] at eb
  subst eb
  have hH : HoldsK enc K.size w g 0 d := by
    intro j hj
    rw [size_flatK, hds] at hj
    have h3 := h.row.cellAt j hj
    have h5 : j < (flatK enc K.size d).size := by rw [size_flatK, hds]; exact hj
    refine ⟨?_, by simp [World.frozen?, hgb]⟩
    rw [Nat.zero_add, h3, ← hflat, Array.getElem?_toList, Array.getElem?_eq_getElem h5, getElem!_pos (flatK enc K.size d) j h5]
    rfl
  have hswo : SWO (ltOf fun x y : β => cf x.1.2 y.1.2) := ⟨fun x => hO.irrefl x.1.2, fun x y z => hO.trans x.1.2 y.1.2 z.1.2, fun x y z => hO.ntrans x.1.2 y.1.2 z.1.2⟩
  have hcmp : CmpLays Tryz.prog g0 #[] enc K.size (fun x y : β => cf x.1.2 y.1.2) g 0 d.size w := fun m os dk _ x y => by
    refine hclo _ x.1 y.1 ?_ ?_ x.2.2.1 y.2.2.1
    · exact x.2.later m _ os
    · exact y.2.later m _ os
  have hcon := AnyQ.slices_SortFunc L K.size aE zE enc (fun x => K.len _ _ _) (fun x => K.one _ _ _) (fun x y : β => cf x.1.2 y.1.2) hswo g0 #[] g 0 c d w eg hcmp hH hgl (by omega)
  rw [hds] at hcon
  refine hcon.mono ?_
  rintro e w' ⟨rfl, d', m, os, ⟨hps, _, hpp⟩, hsrt, rfl⟩
  rw [hds] at hps
  have hpe : d'.toList.Perm l := by
    have e1 : (d'.extract 0 n).toList = d'.toList := by simp [← hps]
    have e2 : (d.extract 0 n).toList = l := by rw [← hds]; simp [d]
    rwa [e1, e2] at hpp
  have hd'l : d'.toList.length = n := by rw [Array.length_toList]; exact hps
  have hflat' : (flatK enc K.size d').toList = K.all (d'.toList.map fun b => b.1.1) (d'.toList.map fun b => b.1.2) := flat_all K (fun b : β => b.1) d'
  have hal' := K.all_length (d'.toList.map fun b => b.1.1) (d'.toList.map fun b => b.1.2) (by simp)
  rw [List.length_map, hd'l] at hal'
  have hg : w.grownBy (sortWorldK enc K.size w g 0 m d' os) (some g) := by
    refine ⟨rfl, rfl, rfl, ?_, fun k hk hne => ?_⟩
    · simp [sortWorldK, putRowK, grow, putRow, mapBlock, Sort.ahead]
    · have hkg : g ≠ k := fun e => hne (by rw [e])
      have h1 : k < (putRowK enc K.size (Sort.ahead w m) g 0 d').heap.size := by simpa [putRowK, putRow, mapBlock, Sort.ahead] using hk
      rw [show sortWorldK enc K.size w g 0 m d' os = grow (putRowK enc K.size (Sort.ahead w m) g 0 d') os from rfl, heap_grow_old _ os h1]
      simp [putRowK, putRow, mapBlock, Sort.ahead, Array.getElem?_modify, hkg]
  have hr : (sortWorldK enc K.size w g 0 m d' os).ownsRow B K.E K.size (.slice (some ⟨g, 0, none⟩) n c) n (K.all (d'.toList.map fun b => b.1.1) (d'.toList.map fun b => b.1.2)) := by
    have h1 := ownsRow_put (q := m) (ys := (flatK enc K.size d').toList) h.row (by rw [hflat']; exact hal')
    rw [Array.toArray_toList, hflat'] at h1
    exact h1.kept (row := none) ⟨rfl, rfl, rfl, by show _ ≤ (_ ++ os).size; rw [Array.size_append]; exact Nat.le_add_right _ _, fun k hk _ => heap_grow_old _ os hk⟩ (.inr (by simp [Value.ownBlock]))
  refine ⟨rfl, d'.toList.map fun b => b.1.1, d'.toList.map fun b => b.1.2, h.permuted hr hg (by simp [hd'l]) (by simp [hd'l]) ?_, ?_, ?_, hg⟩
  · have h1 := hpe.map (fun b : β => b.1)
    rw [hlv] at h1
    rw [List.zip_map']
    exact h1
  · have h1 := hpe.map (fun b : β => b.1.2)
    rwa [hl2] at h1
  · rw [List.pairwise_map, List.pairwise_iff_getElem]
    intro i j hi hj hij
    have h1 := hsrt i j (Nat.zero_le _) hij (by rw [← hd'l]; exact hj)
    have hi' : i < d'.size := by simpa using hi
    have hj' : j < d'.size := by simpa using hj
    rw [getElem!_pos d' i hi', getElem!_pos d' j hj'] at h1
    exact h1
end Go.Proofs.YtnfbfdamlnjblaaGreatDoor

namespace Go.Proofs.YtnfbfdamlnjblaaGreatDoor
open Go.RowKit Go.Sort

def cfT (x y : Tm) : Int := lexC y.1 x.1
theorem ltT (x y : Tm) : ltOf cfT x y = decide (lexC y.1 x.1 < 0) := rfl
theorem swoT : SWO (ltOf cfT) where
  irrefl x := by rw [ltT]; exact decide_eq_false (above_ord.irr x.1)
  trans x y z h1 h2 := by rw [ltT] at *; exact decide_eq_true (p := lexC z.1 x.1 < 0) (above_ord.tr (x := x.1) (y := y.1) (z := z.1) (of_decide_eq_true (p := lexC y.1 x.1 < 0) h1) (of_decide_eq_true (p := lexC z.1 y.1 < 0) h2))
  ntrans x y z h1 h2 := by
    rw [ltT] at *
    have h1 := of_decide_eq_false h1
    have h2 := of_decide_eq_false h2
    refine decide_eq_false fun h => ?_
    rw [lexC_less] at *
    exact absurd h (List.not_lt.2 (List.le_trans (List.not_lt.1 h1) (List.not_lt.1 h2)))

set_option maxHeartbeats 1000000 in
theorem terms1_any (a a' : Option Addr) (c c' : Nat) (x y : List Int) (m m' : Int) (w : World) (h : IntsAt w a x.length x) (h' : IntsAt w a' y.length y) (hx : x.length ≤ 9223372036854775807) (hy : y.length ≤ 9223372036854775807) :
    Calls Tryz.prog 145 #[.agg #[.slice a x.length c, .int .i64 m], .agg #[.slice a' y.length c', .int .i64 m']] w fun e w' => e = .returned (.int .i64 (lexC y x)) ∧ ∃ q os', w' = grow (w.drewN q) os' := by
  have hx1 := Ext.alloc w (.cells #[.slice a x.length c, .int .i64 m] 104)
  have hx2 := Ext.alloc (w.alloc (.cells #[.slice a x.length c, .int .i64 m] 104)) (.cells #[.slice a' y.length c', .int .i64 m'] 104)
  have HC := hidP (compareInts_any a' a y.length x.length c' c y x _ ((h'.below hx1).below hx2) ((h.below hx1).below hx2) hy hx)
  generalize lexC y x = r at HC ⊢
  clear h h' hx1 hx2
  go_enter Tryz.func145, Tryz.ntmps145
  go_wp2_with fail
  refine HC.out.mono ?_
  rintro e w' ⟨rfl, rfl⟩
  go_wp2
  go_ret
  exact ⟨rfl, 0, _, by rw [alloc_eq_grow, alloc_eq_grow, grow_grow]; rfl⟩

/-! ### what a range over the words has met -/
structure Vis (g : List Int → Int) (f1 : ByteArray → Option Value) (left : ByteArray → Bool) (L : List Tm) : Prop where
  mem : ∀ x c, (x, c) ∈ L ↔ left (keyI x) = false ∧ (f1 (keyI x)).isSome = true ∧ g x = c ∧ c ≠ 0
  nd : L.Pairwise fun p q => p.1 ≠ q.1
theorem Vis.start (g : List Int → Int) (f1 : ByteArray → Option Value) : Vis g f1 (fun s => (f1 s).isSome) [] :=
  ⟨fun x c => ⟨fun h => by simp at h, fun ⟨h1, h2, _⟩ => by rw [h2] at h1; cases h1⟩, List.Pairwise.nil⟩
theorem Vis.pass {g : List Int → Int} {f1 : ByteArray → Option Value} {left : ByteArray → Bool} {L : List Tm} (h : Vis g f1 left L) (x : List Int) (hz : g x = 0) : Vis g f1 (fun t => left t && !decide (t = keyI x)) L := by
  refine ⟨fun y c => ?_, h.nd⟩
  rw [h.mem]
  by_cases e : y = x
  · subst e
    constructor
    · rintro ⟨_, _, h3, h4⟩
      exact absurd (h3.symm.trans hz) h4
    · rintro ⟨_, _, h3, h4⟩
      exact absurd (h3.symm.trans hz) h4
  · have hk : keyI y ≠ keyI x := fun e' => e (keyI_inj e')
    simp [hk]
theorem Vis.take {g : List Int → Int} {f1 : ByteArray → Option Value} {left : ByteArray → Bool} {L : List Tm} (h : Vis g f1 left L) (x : List Int) (hz : g x ≠ 0) (hl : left (keyI x) = true) (hf : (f1 (keyI x)).isSome = true) :
    Vis g f1 (fun t => left t && !decide (t = keyI x)) (L ++ [(x, g x)]) := by
  have hnot : ∀ c, (x, c) ∉ L := fun c hm => by
    have := ((h.mem x c).1 hm).1
    rw [hl] at this
    cases this
  refine ⟨fun y c => ?_, ?_⟩
  · rw [List.mem_append, h.mem]
    by_cases e : y = x
    · subst e
      constructor
      · rintro (⟨h1, _⟩ | hm)
        · rw [hl] at h1; cases h1
        · simp only [List.mem_singleton, Prod.mk.injEq, true_and] at hm
          subst hm
          exact ⟨by simp, hf, rfl, hz⟩
      · rintro ⟨_, _, h3, _⟩
        exact .inr (by simp [h3])
    · have hk : keyI y ≠ keyI x := fun e' => e (keyI_inj e')
      simp [hk, e]
  · rw [List.pairwise_append]
    refine ⟨h.nd, List.pairwise_singleton _ _, fun p hp q hq => ?_⟩
    simp only [List.mem_singleton] at hq
    subst hq
    intro e
    exact hnot p.2 (by
      have e2 : p = (x, p.2) := by rw [← (show p.1 = x from e)]
      rwa [e2] at hp)
theorem length_le_of_mem : ∀ {L T : List Tm}, (L.Pairwise fun p q => p.1 ≠ q.1) → (∀ p ∈ L, p ∈ T) → L.length ≤ T.length
  | [], _, _, _ => Nat.zero_le _
  | p :: L, T, hn, hm => by
    obtain ⟨h1, h2⟩ := List.pairwise_cons.1 hn
    have hp := hm p (by simp)
    have ih := length_le_of_mem (L := L) (T := T.erase p) h2 fun q hq => by
      have hne : q ≠ p := fun e => h1 q hq (by rw [e])
      exact (List.mem_erase_of_ne hne).2 (hm q (by simp [hq]))
    rw [List.length_erase_of_mem hp] at ih
    have : 0 < T.length := List.length_pos_of_mem hp
    simp only [List.length_cons]
    omega
theorem Vis.length {g : List Int → Int} {f1 : ByteArray → Option Value} {left : ByteArray → Bool} {L T : List Tm} (h : Vis g f1 left L) (hT : Tells g T) : L.length ≤ T.length :=
  length_le_of_mem h.nd fun p hp => (hT p.1 p.2).2 ((h.mem p.1 p.2).1 hp).2.2
theorem Vis.all {w : World} {b1 b2 n : Nat} {g : List Int → Int} {f1 f2 : ByteArray → Option Value} {left : ByteArray → Bool} {L T xs : List Tm} (h : Vis g f1 left L) (hC : Counts w b1 b2 n g f1 f2) (hl : ∀ s, s.size ≤ maxLen → left s = false)
    (hT : Tells g T) (hO : Ordered Above T) (hp : xs.Perm L) (hs : xs.Pairwise fun x y => ltOf cfT y x = false) : xs = T := by
  have hnd : xs.Pairwise fun p q => p.1 ≠ q.1 := (hp.pairwise_iff (fun {a b} (hab : a.1 ≠ b.1) => hab.symm)).2 h.nd
  have ho : Ordered Above xs := by
    refine List.Pairwise.imp (fun {x y} hxy => ?_) (hnd.and hs)
    obtain ⟨h1, h2⟩ := hxy
    rw [ltT] at h2
    have h2 := of_decide_eq_false h2
    rcases above_ord.tot h1 with h3 | h3
    · exact h3
    · exact absurd h3 h2
  refine ordered_unique above_ord ho hO fun p => ?_
  rw [hp.mem_iff]
  obtain ⟨x, c⟩ := p
  rw [h.mem, hT]
  constructor
  · rintro ⟨_, _, h3⟩
    exact h3
  · rintro ⟨h3, h4⟩
    have hs := hC.has x (by rw [h3]; exact h4)
    obtain ⟨y, _, _, hk, e, _⟩ := (hC.word _ hs).ex
    exact ⟨hl _ (by rw [e]; exact hk.size), hs, h3, h4⟩

theorem OwnK.off_cell {α : Type} {K : Knd α} {w : World} {B U g n c : Nat} {hs : List Hdr} {xs : List α} (h : OwnK K w B U (some ⟨g, 0, none⟩) n c hs xs) : ∃ cur, w.heap[g]? = some (.cells cur K.E (0, 0)) := by
  rcases h.form with ⟨e, _⟩ | ⟨g', cur, e, _, _, hg, _⟩
  · cases e
  · simp only [Option.some.injEq, Addr.mk.injEq, and_true] at e
    subst e
    exact ⟨cur, hg⟩
theorem OwnK.past_iter {α : Type} {K : Knd α} {w w' : World} {B U R n c : Nat} {a : Option Addr} {hs : List Hdr} {xs : List α} (h : OwnK K w B U a n c hs xs) (hi : ∃ m s seen c, w.heap[R]? = some (.mapIter m s seen c)) (hg : w.grownBy w' (some R)) : OwnK K w' B U a n c hs xs := by
  obtain ⟨m, s, seen, c0, hR⟩ := hi
  refine h.kept hg (fun b o e e2 => ?_) (fun i hi b o e e2 => ?_)
  · simp only [Option.some.injEq] at e2
    subst e2
    rcases h.form with ⟨e3, _⟩ | ⟨g', cur, e3, _, _, hg', _⟩
    · rw [e] at e3; cases e3
    · rw [e] at e3
      simp only [Option.some.injEq, Addr.mk.injEq, and_true] at e3
      rw [← e3.1, hR] at hg'
      cases hg'
  · simp only [Option.some.injEq] at e2
    subst e2
    obtain ⟨cur, hc⟩ := (h.each i hi).block e
    rw [hR] at hc
    cases hc
theorem callFunc_terms1 (args : Array Value) (w : World) : Sem.run Tryz.prog (callFunc 145 args) w = .ok (.enter 145 args) w := by
  kernel_rfl
theorem isAggT (w : World) : (isAgg 104).run Tryz.prog w = .ok true w := by kernel_rfl
theorem sizeOfT (w : World) : (Go.sizeOf 104).run Tryz.prog w = .ok 2 w := by kernel_rfl
theorem sortT_any {w : World} {B U g n c : Nat} {hs : List Hdr} {xs : List Tm} (h : OwnK stepK w B U (some ⟨g, 0, none⟩) n c hs xs) (hn : n < 4611686018427387904) :
    Calls Tryz.prog 144 #[.slice (some ⟨g, 0, none⟩) n c, .func (.func 145) #[] #[]] w fun e w' => e = .returned (.tuple #[]) ∧
      ∃ hs' xs', OwnK stepK w' B U (some ⟨g, 0, none⟩) n c hs' xs' ∧ xs'.Perm xs ∧ (xs'.Pairwise fun x y => ltOf cfT y x = false) ∧ w.grownBy w' (some g) :=
  sort_owned Tryz.sortTerm stepK ([], 0) rfl isAggT sizeOfT cfT swoT 145 callFunc_terms1 (fun w' x y hx hy lx ly => terms1_any x.1.1 y.1.1 x.1.2 y.1.2 x.2.1 y.2.1 x.2.2 y.2.2 w' hx hy lx ly) h hn
theorem Below.past_block {B : Nat} {w0 w w' : World} {k : Nat} (hb : Below B w0 w) (hg : w.grownBy w' (some k)) (hB : B ≤ w.heap.size) (hk : B ≤ k) : Below B w0 w' :=
  Below.grown hb hg hB fun j hj => by cases hj; exact hk
set_option maxRecDepth 100000 in
set_option maxHeartbeats 4000000 in
theorem cntTerms_any (b1 b2 n : Nat) (g : List Int → Int) (f1 f2 : ByteArray → Option Value) (T : List Tm) (w : World) (hC : Counts w b1 b2 n g f1 f2) (hT : Tells g T) (hO : Ordered Above T) (hTl : T.length ≤ 1000000) :
    Calls Tryz.prog 108 #[cntV b1 b2] w fun e w' => ∃ a c hs, e = .returned (.slice (some ⟨a, 0, none⟩) T.length c) ∧ OwnK stepK w' w.heap.size w'.heap.size (some ⟨a, 0, none⟩) T.length c hs T ∧ Ext w w' := by
  have hxa := Ext.alloc w (.cells #[.map (some b1), .map (some b2)] 107)
  have hxb := Ext.alloc (w.alloc (.cells #[.map (some b1), .map (some b2)] 107)) (.cells #[] 104)
  have HC := hidP hC
  have HA := hidP ((CntAt.new w _ rfl b1 b2 107).below hxb)
  have HO0 : Hid (OwnK stepK ((w.alloc (.cells #[.map (some b1), .map (some b2)] 107)).alloc (.cells #[] 104)) (w.heap.size + 1) ((w.alloc (.cells #[.map (some b1), .map (some b2)] 107)).alloc (.cells #[] 104)).heap.size (some ⟨(w.alloc (.cells #[.map (some b1), .map (some b2)] 107)).heap.size, 0, none⟩) 0 0 [] []) := (OwnK.made0 stepK (w.alloc (.cells #[.map (some b1), .map (some b2)] 107))).weaken (B' := w.heap.size + 1) (by simp) (Nat.le_refl _)
  have HX0 := hidP (hxa.trans hxb)
  have HTl := hidP hT
  have HOr := hidP hO
  have HV0 := hidP (Vis.start g f1)
  clear hC hxa hxb hT hO
  go_enter Tryz.func108, Tryz.ntmps108
  obtain ⟨f0, f1'⟩ := HA.out
  go_wp2_with (first | (at_range; refine wpList_rangeS _ rfl _ 76 9 22 rfl Tryz.underlying9 Tryz.underlying76 b1 n f1 rfl (HC.out.m1.below HX0.out) ?_; intro w0 cnt0 hrg0 hx0 hs0; have HR0 := hidP hrg0; have HXr := hidP hx0; clear hrg0 hx0 hs0) | fail)
  go_frame
  have hE0 : Ext w w0 := HX0.out.trans HXr.out
  have HE0 := hidP hE0
  have HB0 := hidP (HX0.out.size)
  obtain ⟨wB, hwB⟩ : ∃ wB, wB = (w.alloc (.cells #[.map (some b1), .map (some b2)] 107)).alloc (.cells #[] 104) := ⟨_, rfl⟩
  have hsB : w.heap.size + 1 = (w.alloc (.cells #[.map (some b1), .map (some b2)] 107)).heap.size := by simp
  rw [← hwB] at HA HO0 HX0 f0 f1' HR0 HXr HB0
  rw [← hsB] at HO0
  obtain ⟨R, hR⟩ : ∃ R, R = w.heap.size + 1 + 1 := ⟨_, rfl⟩
  have hRB : wB.heap.size = R := by rw [hwB, hR]; simp
  rw [hRB] at HR0
  have HRB : Hid (w.heap.size + 1 + 1 = R) := hidP hR.symm
  rw [← hwB, hRB]
  have HO1 := hidP ((HO0.out.below HXr.out).weaken (Nat.le_refl _) HXr.out.size)
  have HA1 := hidP (HA.out.below HXr.out)
  have HX1 := hidP (HX0.out.trans HXr.out)
  clear hwB hsB HO0 hRB hE0 f0 f1' HA HXr HB0 HX0 HE0
  clear hR
  go_loopw [3] (fun s wr => ∃ (left : ByteArray → Bool) (cnt j ga co : Nat) (hs : List Hdr) (L : List Tm), s = .slice (some ⟨ga, 0, none⟩) j co ∧ Hid (RangeS wr Tryz.prog 9 b1 R n f1 left cnt) ∧ Hid (OwnK stepK wr (w.heap.size + 1) wr.heap.size (some ⟨ga, 0, none⟩) j co hs L) ∧ Hid (Vis g f1 left L) ∧ Hid (CntAt wr w.heap.size b1 b2) ∧ Hid (Ext w wr)) (fun _ wr => wr.rangeLeft b1 R)
  case atStart => exact ⟨_, _, 0, _, 0, [], [], rfl, HR0, HO1, HV0, HA1, HX1⟩
  case round =>
    obtain ⟨left, cnt, j, ga, co, hs, L, rfl, HR, HO, HV, HA, HX⟩ := hrel
    clear HR0 HO1 HV0 HA1 HX1
    have hjl : Hid (j ≤ T.length) := by
      have h1 := HV.out.length HTl.out
      have h2 := HO.out.xl
      show _ ≤ _
      omega
    go_wp2_with (first | (at_next; refine wpList_nextS _ rfl _ rfl 9 Tryz.underlying9 b1 R n f1 left cnt rfl HR.out ?_ ?_) | fail)
    · intro hc0 hl0
      have HS := hidP (sortT_any HO.out (by have := hjl.out; omega))
      go_wp2_with fail
      refine HS.out.mono ?_
      rintro e w2 ⟨rfl, hs', xs', ho, hp, hsrt, hg⟩
      obtain rfl := HV.out.all HC.out hl0 HTl.out HOr.out hp hsrt
      have hxl := ho.xl
      have hga := HO.out.base_lt ga 0 rfl
      have hX2 : Ext w w2 := Below.past_block HX.out hg HX.out.size (by have := hga.1; omega)
      have HO2 := hidP (ho.weaken (Nat.le_succ w.heap.size) hg.size)
      have HX2 := hidP hX2
      subst hxl
      clear hp hsrt hg ho hga hX2
      go_wp2
      go_ret
      exact ⟨ga, co, hs', rfl, HO2.out, HX2.out⟩
    · intro s v w1 cnt1 hss hls hfs hrg1 hlt hg1 hs1 hen
      obtain ⟨x, ax, cx, hkx, rfl, hfx, hix, hax⟩ := (HC.out.word s (by rw [hfs]; rfl)).ex
      obtain rfl : v = .slice ax x.length cx := Option.some.inj (hfs.symm.trans hfx)
      have hX1 : Ext w w1 := Below.past_block HX.out hg1 HX.out.size (by have := HRB.out; omega)
      have HX1 := hidP hX1
      have HR1 := hidP hrg1
      have HO1 := hidP ((HO.out.past_iter HR.out.isIter hg1).weaken (Nat.le_refl _) hg1.size)
      have HK := hidP hkx
      have HIx := hidP hix
      have HAx := hidP hax
      have hks := hkx.size
      have HNum := hidP (HC.out.num x hkx)
      have HLt := hidP (show cnt1 < cnt ∧ wr.rangeLeft b1 R = cnt from ⟨hlt, HR.out.left_eq⟩)
      have HA1 : Hid (CntAt w1 w.heap.size b1 b2) := by
        have hb : w1.heap[w.heap.size]? = wr.heap[w.heap.size]? := hg1.block _ (World.block_lt_of_cell? wr _ HA.out.c0) (by have := HRB.out; simp; omega)
        exact ⟨(World.cell?_of_block hb).trans HA.out.c0, (World.cell?_of_block hb).trans HA.out.c1⟩
      have q1 := HA1.out.c1
      have HLs := hidP hls
      have HFs : Hid ((f1 (keyI x)).isSome = true) := by show _ = _; rw [hfs]; rfl
      clear hfs hfx hix hax hkx hX1 hrg1 hlt hg1 hs1 hls HO HR
      cases hz : decide (g x = 0)
      · have hz := of_decide_eq_false hz
        have hgb : (g x != 0) = true := by simpa using hz
        have HV1 := hidP (HV.out.take x hz HLs.out HFs.out)
        have HCl := hidP (fun w' (hx : Ext w1 w') => clone_any ax x.length cx x w' (HIx.out.below (HX1.out.trans hx)) HAx.out (by have := HK.out.2; omega))
        have HLk : Hid (∀ w', Ext w1 w' → (Instr.lookup 77 (.map (some b2)) (.string (keyI x)) false).run Tryz.prog w' = .ok (.int .i64 (g x)) w') := fun w' hx => by
          have h := (HC.out.m2.below (HX1.out.trans hx)).lookup (T := 77) (E := 3) (z := .int .i64 0) Tryz.underlying9 Tryz.underlying77 (zero_int w') hks
          rw [HNum.out] at h
          exact h
        have HAl := hidP (fun w' (hx : Ext w1 w') => HA1.out.below hx)
        have HZ := hidP hz
        clear hz
        go_wp2_with (first | (at_lookup; refine wpList_lookupS _ rfl _ _ 77 9 3 rfl Tryz.underlying9 Tryz.underlying77 (.int .i64 0) (zero_int _) b2 n f2 rfl (HC.out.m2.below HX1.out) (keyI x) rfl hks ?_; rw [HNum.out]) | fail)
        have hE : Ext w1 w1.drew := Ext.drew w1
        (refine walkR_start (fun w' => Ext w1 w') 9 (by kernel_rfl) ?_; simp only [numbered, List.take_succ_cons, List.take_zero, Nat.zero_add, Nat.reduceAdd, List.length_cons, List.length_nil])
        (repeat (first | (refine walkR_still (v := ?_) rfl (by decide +kernel) rfl (fun _ _ _ h => h) hE ?_ ?_; rotate_left; (focus (intro w' hw'; skip; go_simp; all_goals (with_reducible rfl))); simp only [Act.put, List.setIfInBounds_toArray, List.set_cons_zero, List.set_cons_succ]) | (refine walkR_skip rfl (by decide +kernel) rfl (fun _ _ _ h => h) hE ?_; simp only [Act.put, List.setIfInBounds_toArray, List.set_cons_zero, List.set_cons_succ])))
        (refine walkR_later ?_; simp only [List.cons_append, List.nil_append])
        (repeat (first | (refine walkR_still (v := ?_) rfl (by decide +kernel) rfl (fun _ _ _ h => h) hE ?_ ?_; rotate_left; (focus (intro w' hw'; obtain ⟨f0, f1⟩ := HAl.out w' hw'; have hlk := HLk.out w' hw'; go_simp; all_goals (with_reducible rfl))); simp only [Act.put, List.setIfInBounds_toArray, List.set_cons_zero, List.set_cons_succ]) | (refine walkR_skip rfl (by decide +kernel) rfl (fun _ _ _ h => h) hE ?_; simp only [Act.put, List.setIfInBounds_toArray, List.set_cons_zero, List.set_cons_succ])))
        (refine walkR_later ?_; simp only [List.cons_append, List.nil_append]); (refine walkR_later ?_; simp only [List.cons_append, List.nil_append])
        (refine walkR_only (fun w' => Ext w1 w') rfl (by decide +kernel) rfl (fun _ h => h) ?_; intro K hK; go_simp; refine (HCl.out _ hE).mono ?_; rintro e w3 ⟨a1, c1, rfl, ho1, hx1⟩; refine hK _ _ (hE.trans hx1) ?_; clear hK K; (try simp only [Act.put, List.setIfInBounds_toArray, List.set_cons_zero, List.set_cons_succ]))
        have HE3 := hidP ((hE.trans hx1).trans (Ext.alloc w3 (.cells #[.slice a1 x.length c1, .int .i64 (g x)] 104)))
        have HO3 := hidP (HO1.out.below HE3.out)
        have HI3 := hidP (ho1.below (Ext.alloc w3 (.cells #[.slice a1 x.length c1, .int .i64 (g x)] 104)))
        have HAp := hidP (HO1.out.new_apart ho1 hE.size)
        have HB3 : Hid (w.heap.size + 1 ≤ w1.drew.heap.size) := Nat.le_trans (World.block_lt_of_cell? w1 _ HA1.out.c0) hE.size
        have HB4 : Hid (w.heap.size + 1 < (w3.alloc (.cells #[.slice a1 x.length c1, .int .i64 (g x)] 104)).heap.size) := Nat.lt_of_le_of_lt (Nat.le_trans HB3.out hx1.size) (by simp)
        have HCe : Hid (∀ j, j < stepK.size → (w3.alloc (.cells #[.slice a1 x.length c1, .int .i64 (g x)] 104)).cell? ⟨w3.heap.size, j, none⟩ = (stepK.cells a1 c1 (x, g x))[j]?) := fun j _ => (cell_top _ _ _ _ _ rfl).trans (by simp [stepK])
        have hE3 := hE.trans hx1
        clear ho1 hx1 hE
        (repeat (first | (refine walkR_still (v := ?_) rfl (by decide +kernel) rfl (fun _ _ _ h => h) hE3 ?_ ?_; rotate_left; (focus (intro w' hw'; skip; go_simp; all_goals (with_reducible rfl))); simp only [Act.put, List.setIfInBounds_toArray, List.set_cons_zero, List.set_cons_succ]) | (refine walkR_skip rfl (by decide +kernel) rfl (fun _ _ _ h => h) hE3 ?_; simp only [Act.put, List.setIfInBounds_toArray, List.set_cons_zero, List.set_cons_succ])))
        (refine walkR_only (fun w' => Ext w1 w') rfl (by decide +kernel) rfl ?_ ?_)
        · exact fun _ h => h
        intro K hK
        go_simp
        refine hK _ _ (hE3.trans (Ext.alloc w3 (.cells #[.slice a1 x.length c1, .int .i64 (g x)] 104))) ?_
        clear hK K
        (try simp only [Act.put, List.setIfInBounds_toArray, List.set_cons_zero, List.set_cons_succ])
        (refine walkR_tail (by rfl) (by kernel_rfl) ?_; simp only [List.drop_succ_cons, List.drop_zero])
        have hjn := hjl.out
        go_wp2_with (at_builtin; refine wpList_append_elem2 stepK 53 (.agg #[.slice none 0 0, .int .i64 0]) 32 rfl (.tmp 20) (.tmp 28) rfl Tryz.underlying53 Tryz.info104 rfl (by omega) (w.heap.size + 1) _ (some ⟨ga, 0, none⟩) j co hs _ rfl HO3.out w3.heap.size 1 (a1, c1) (x, g x) rfl HCe.out (HI3.out.base HB3.out) HAp.out.1 HAp.out.2 (by omega) (Nat.le_of_lt HB4.out) ?_; intro a4 c4 w4 ho4 hg4 hn4; have HX4 := hidP ((HO3.out.weaken (Nat.le_succ w.heap.size) (Nat.le_refl _)).below_grown hg4 (HX1.out.trans HE3.out) (HX1.out.trans HE3.out).size); have HG4 := hidP hg4; have HO4 := hidP ho4; clear ho4 hg4 hn4)
        obtain ⟨g4, rfl⟩ : ∃ g4, a4 = some ⟨g4, 0, none⟩ := by
          rcases HO4.out.form with ⟨_, h0, _⟩ | ⟨g4, _, e4, _⟩
          · omega
          · exact ⟨g4, e4⟩
        have hga := HO3.out.base_lt ga 0 rfl
        obtain ⟨cur, hcur⟩ := HO3.out.off_cell
        have hR3 := HR1.out.below HE3.out
        have hR4 := hR3.kept HG4.out (by
          obtain ⟨es, clock, hm⟩ := hR3.mapS.isMap
          intro e
          simp only [Value.ownBlock, Option.some.injEq] at e
          rw [e, hcur] at hm
          cases hm) (by
          obtain ⟨m, s0, seen, c0, hm⟩ := hR3.isIter
          intro e
          simp only [Value.ownBlock, Option.some.injEq] at e
          rw [e, hcur] at hm
          cases hm)
        have hA3 := HA1.out.below HE3.out
        have hA4 : CntAt w4 w.heap.size b1 b2 := by
          have hb := HG4.out.block w.heap.size (World.block_lt_of_cell? _ _ hA3.c0) (by simp only [Value.ownBlock, ne_eq, Option.some.injEq]; omega)
          exact ⟨(World.cell?_of_block hb).trans hA3.c0, (World.cell?_of_block hb).trans hA3.c1⟩
        have HR4 := hidP hR4
        have HA4 := hidP hA4
        clear hR3 hR4 hA3 hA4 hcur hga
        go_roundw
        case rel => exact ⟨_, cnt1, j + 1, g4, c4, hs ++ [(a1, c1)], L ++ [(x, g x)], rfl, HR4, HO4, HV1, HA4, HX4⟩
        case measure => rw [HR4.out.left_eq, HLt.out.2]; exact HLt.out.1
      · have hz := of_decide_eq_true hz
        have hgb : (g x != 0) = false := by simpa using hz
        have HV1 := hidP (HV.out.pass x hz)
        clear hz
        go_wp2_with (first | (at_lookup; refine wpList_lookupS _ rfl _ _ 77 9 3 rfl Tryz.underlying9 Tryz.underlying77 (.int .i64 0) (zero_int _) b2 n f2 rfl (HC.out.m2.below HX1.out) (keyI x) rfl hks ?_; rw [HNum.out]) | fail)
        go_roundw
        case rel => exact ⟨_, cnt1, j, ga, co, hs, L, rfl, HR1, HO1, HV1, HA1, HX1⟩
        case measure => rw [HR1.out.left_eq, HLt.out.2]; exact HLt.out.1
end Go.Proofs.YtnfbfdamlnjblaaGreatDoor

namespace Go.Proofs.YtnfbfdamlnjblaaGreatDoor
open Go.RowKit

def timesL (l : Int) (W : List Int) : List Int := W.map fun x => l * x
theorem timesL_length (l : Int) (W : List Int) : (timesL l W).length = W.length := by simp [timesL]
theorem timesL_neg (W : List Int) : timesL (-1) W = negW W := by
  unfold timesL negW
  exact List.map_congr_left fun x _ => by omega
theorem timesL_dbl (W : List Int) : timesL 2 W = dblL W := rfl
theorem plusV_zeros (l : Int) (W : List Int) : plusV (List.replicate W.length 0) l W = timesL l W := by
  refine ints_ext (by simp [plusV_length, timesL_length]) fun j hj => ?_
  rw [plusV_length, List.length_replicate] at hj
  rw [plusV_get _ _ _ _ (by simpa using hj)]
  simp [timesL, List.getD_eq_getElem?_getD, hj]

set_option maxRecDepth 100000 in
set_option maxHeartbeats 1000000 in
theorem listTimes_any (l : Int) (a : Option Addr) (n c : Nat) (W : List Int) (w : World) (h : IntsAt w a n W) (hn : n ≤ 1000000) (hb : ∀ j, j < n → -1000000000000 ≤ l * W.getD j 0 ∧ l * W.getD j 0 ≤ 1000000000000) :
    Calls Tryz.prog 92 #[.int .i64 l, .slice a n c] w fun e w' => ∃ a' c', e = .returned (.slice a' n c') ∧ OwnI w' w.heap.size a' n c' (timesL l W) ∧ Ext w w' := by
  have hx0 := Ext.alloc w (.cells (Array.replicate n (.int .i64 0)) 3)
  have hM := OwnI.made w w.heap.size n (Nat.le_refl _) (by unfold maxLen; omega)
  have HP := hidP (listPlus_any (some ⟨w.heap.size, 0, none⟩) n n (List.replicate n 0) l a n c W _ hM.ints (fun e => by cases e) hn (h.below hx0) rfl (fun j hj => by
    have h1 := hb j (by simpa using hj)
    refine ⟨h1, ?_⟩
    have : (List.replicate n (0 : Int)).getD j 0 = 0 := by simp [List.getD_eq_getElem?_getD, List.getElem?_replicate]; split <;> rfl
    rw [this]
    omega))
  have hmk := make_ints n (by omega) (by omega) w
  have HX0 := hidP hx0
  have HE : Hid (plusV (List.replicate n 0) l W = timesL l W) := by
    show _ = _
    rw [← h.len]
    exact plusV_zeros l W
  rw [HE.out] at HP
  clear h hx0 hb hM
  go_enter Tryz.func92, Tryz.ntmps92
  go_wp2_with fail
  simp only [Int.toNat_natCast] at *
  refine HP.out.mono ?_
  rintro e w1 ⟨a', c', rfl, ho, hx1⟩
  have HO := hidP (ho.base (B := _) (Nat.le_trans HX0.out.size (Nat.le_refl _)))
  have HX := hidP (HX0.out.trans hx1)
  clear ho hx1 hmk
  go_wp2
  go_ret
  exact ⟨a', c', rfl, HO.out, HX.out⟩

/-- the words and numbers, if they are a character -/
def chrR (r : Nat) (T : List Tm) : Bool × List Tm := if chrB r T then (true, T) else (false, [])

set_option maxHeartbeats 2000000 in
theorem cntCharacter_any (r : Int) (ta : Option Addr) (tn tc : Nat) (ts : List Int) (b1 b2 n : Nat) (g : List Int → Int) (f1 f2 : ByteArray → Option Value) (T : List Tm) (w : World) (hC : Counts w b1 b2 n g f1 f2) (hT : Tells g T) (hO : Ordered Above T) (hTl : T.length ≤ 1000000) (hty : typeB r ts = true)
    (HIs : ∀ w', Ext w w' → Calls Tryz.prog 134 #[carV r ta tn tc] w' fun e w'' => e = .returned (.bool (typeB r ts)) ∧ Ext w' w'') :
    PathRes 93 #[cntV b1 b2, carV r ta tn tc] w (chrR r.toNat T) := by
  unfold PathRes
  have hxa := Ext.alloc w (.cells #[.map (some b1), .map (some b2)] 107)
  have hxb := Ext.alloc (w.alloc (.cells #[.map (some b1), .map (some b2)] 107)) (.cells #[.int .i64 r, .slice ta tn tc] 55)
  have HA := hidP ((CntAt.new w _ rfl b1 b2 107).below hxb)
  have HCr := hidP (CarAt.new (w.alloc (.cells #[.map (some b1), .map (some b2)] 107)) _ rfl r ta tn tc 55)
  have HX0 := hidP (hxa.trans hxb)
  have HTr := hidP (cntTerms_any b1 b2 n g f1 f2 T _ (hC.below (hxa.trans hxb)) hT hO hTl)
  have HI := hidP HIs
  have hs1 : (w.alloc (.cells #[.map (some b1), .map (some b2)] 107)).heap.size = w.heap.size + 1 := by simp
  rw [hs1] at HCr
  clear hC hxa hxb hT hO HIs hs1
  obtain ⟨wB, hwB⟩ : ∃ wB, wB = (w.alloc (.cells #[.map (some b1), .map (some b2)] 107)).alloc (.cells #[.int .i64 r, .slice ta tn tc] 55) := ⟨_, rfl⟩
  rw [← hwB] at HA HCr HX0 HTr
  obtain ⟨f0, f1'⟩ := HA.out
  go_enter Tryz.func93, Tryz.ntmps93
  go_wp2_with fail
  rw [← hwB]
  refine HTr.out.mono ?_
  clear hwB
  rintro e w1 ⟨a1, c1, hs, rfl, ho, hx1⟩
  have HO := hidP ho
  have HX1 := hidP hx1
  obtain ⟨y0, y1⟩ := HCr.out.below hx1
  have HCk := hidP (characterOk_of r ta tn tc ts (some ⟨a1, 0, none⟩) T.length c1 T w1 ho.termsAt (by omega) (fun w' hx => HI.out w' ((HX0.out.trans hx1).trans hx)))
  rw [hty, Bool.true_and] at HCk
  clear ho hx1
  go_wp2_with fail
  refine HCk.out.mono ?_
  rintro e w2 ⟨rfl, hx2⟩
  have HX2 := hidP ((HX0.out.trans HX1.out).trans hx2)
  have HO2 := hidP (((HO.out.below hx2).weaken (B' := w.heap.size) HX0.out.size hx2.size))
  clear hx2
  cases hb : chrB r.toNat T
  · have HR : Hid (chrR r.toNat T = (false, [])) := by show _ = _; unfold chrR; rw [hb]; rfl
    go_wp2
    refine bodyPost_ret (v := .tuple #[.slice none 0 0, .bool false]) (by simp [results, Tryz.results93, go_sem]) rfl ⟨none, 0, 0, [], by rw [HR.out], ?_, HX2.out⟩
    rw [HR.out]
    exact OwnK.nil stepK _ _ _
  · have HR : Hid (chrR r.toNat T = (true, T)) := by show _ = _; unfold chrR; rw [hb]; rfl
    go_wp2
    refine bodyPost_ret (v := .tuple #[.slice (some ⟨a1, 0, none⟩) T.length c1, .bool true]) (by simp [results, Tryz.results93, go_sem]) rfl ⟨some ⟨a1, 0, none⟩, T.length, c1, hs, by rw [HR.out], ?_, HX2.out⟩
    rw [HR.out]
    exact HO2.out
end Go.Proofs.YtnfbfdamlnjblaaGreatDoor

namespace Go.Proofs.YtnfbfdamlnjblaaGreatDoor
open Go.RowKit

/-- a call returns a list of terms of memory of its own -/
def ChrRes (f : FuncId) (args : Array Value) (w : World) (res : List Tm) : Prop :=
  Calls Tryz.prog f args w fun e w' => ∃ a n c hs, e = .returned (.slice a n c) ∧ OwnK stepK w' w.heap.size w'.heap.size a n c hs res ∧ Ext w w'
def dualR (r : Int) (ts : List Int) (us : List Tm) : List Tm := if typeB r ts && chrB r.toNat us then mirS us else []
theorem cntSum_bound {M : Int} (hM : 0 ≤ M) : ∀ {l : List Tm} (x : List Int), (∀ p ∈ l, 0 ≤ p.2 ∧ p.2 ≤ M) → 0 ≤ cntSum l x ∧ cntSum l x ≤ l.length * M
  | [], _, _ => by simp [cntSum]
  | p :: l, x, h => by
    have h1 := h p (by simp)
    have h2 := cntSum_bound hM (l := l) x fun q hq => h q (by simp [hq])
    simp only [cntSum, List.length_cons]
    have e : ((l.length + 1 : Nat) : Int) * M = l.length * M + M := by rw [Int.natCast_add, Int.add_mul]; simp
    rw [e]
    split <;> omega
/-- terms whose words are changed by a map: one more -/
theorem mapT_take (F : List Int → List Int) (us : List Tm) {k : Nat} (hk : k < us.length) : ((us.take (k + 1)).map fun p => (F p.1, p.2)) = ((us.take k).map fun p => (F p.1, p.2)) ++ [(F (wayAt us k), lenAt us k)] := by
  rw [take_succ_at2 us hk, List.map_append]
  rfl
theorem mapT_bound {r : Nat} {us : List Tm} (h : ChrP r us) (F : List Int → List Int) {k : Nat} (hk : k ≤ us.length) (x : List Int) : 0 ≤ cntSum ((us.take k).map fun p => (F p.1, p.2)) x ∧ cntSum ((us.take k).map fun p => (F p.1, p.2)) x ≤ 400000000 := by
  have hl := h.len
  have := cntSum_bound (M := 1000000) (by omega) (l := (us.take k).map fun p => (F p.1, p.2)) x fun p hp => by
    simp only [List.mem_map] at hp
    obtain ⟨q, hq, rfl⟩ := hp
    have := (h.each q (List.mem_of_mem_take hq)).2
    exact ⟨by show 0 ≤ q.2; omega, this.2⟩
  simp only [List.length_map, List.length_take] at this
  have h3 : ((min k us.length : Nat) : Int) ≤ 400 := by omega
  have h4 : ((min k us.length : Nat) : Int) * 1000000 ≤ 400 * 1000000 := Int.mul_le_mul_of_nonneg_right h3 (by omega)
  omega
theorem ChrP.at {r : Nat} {us : List Tm} (h : ChrP r us) (_hr : r ≤ 4) {k : Nat} (hk : k < us.length) : (wayAt us k).length = r ∧ (∀ j, j < r → -1000 ≤ (wayAt us k).getD j 0 ∧ (wayAt us k).getD j 0 ≤ 1000) ∧ 1 ≤ lenAt us k ∧ lenAt us k ≤ 1000000 := by
  have hp := h.each (us.getD k ([], 0)) (by rw [getT hk]; exact List.getElem_mem hk)
  have hw := wayB_iff.1 hp.1
  exact ⟨hw.1, hw.2, hp.2⟩

theorem CarAt.extM {b1 b2 : Nat} {w w' : World} {b : Nat} {r : Int} {a : Option Addr} {n c : Nat} (h : CarAt w b r a n c) (hx : ExtM b1 b2 w w') (m1 : IsMapAt w b1) (m2 : IsMapAt w b2) : CarAt w' b r a n c :=
  ⟨hx.cell m1 m2 h.c0, hx.cell m1 m2 h.c1⟩
set_option maxRecDepth 100000 in
set_option maxHeartbeats 4000000 in
theorem dualCharacter_any (r : Int) (ta : Option Addr) (tn tc : Nat) (ts : List Int) (a : Option Addr) (n c : Nat) (us : List Tm) (w : World) (hc : IntsAt w ta tn ts) (hcn : tn ≤ 9223372036854775807)
    (h : StepsAt w a n us) (hn : n ≤ 9223372036854775807) (hm : MaxL w) (ht : Tab w) : ChrRes 38 #[carV r ta tn tc, .slice a n c] w (dualR r ts us) := by
  unfold ChrRes
  have hx1 := Ext.alloc w (.cells #[.int .i64 r, .slice ta tn tc] 55)
  have HC := hidP (fun w' (hx : Ext (w.alloc (.cells #[.int .i64 r, .slice ta tn tc] 55)) w') => (CarAt.new w _ rfl r ta tn tc 55).below hx)
  have HX1 := hidP hx1
  have H := hidP h
  have HTb := hidP ht
  have HIs := hidP (fun w' (hx : Ext w w') => isCartan_any r ta tn tc ts w' (hc.below hx) hcn (hm.below hx))
  have HP := hidP (characterOk_of r ta tn tc ts a n c us _ (h.below hx1).terms hn (fun w' hx => HIs.out w' (hx1.trans hx)))
  clear hc h hx1 hm ht
  obtain ⟨w1, hw1⟩ : ∃ w1, w1 = w.alloc (.cells #[.int .i64 r, .slice ta tn tc] 55) := ⟨_, rfl⟩
  rw [← hw1] at HC HX1 HP
  obtain ⟨f0, f1⟩ := HC.out w1 (Ext.refl w1)
  cases hT : (typeB r ts && chrB r.toNat us)
  · have HR : Hid (dualR r ts us = []) := by
      show _ = _
      unfold dualR
      rw [hT]
      rfl
    rw [hT] at HP
    clear hT
    go_enter Tryz.func38, Tryz.ntmps38
    go_wp2_with fail
    rw [← hw1]
    clear hw1
    refine HP.out.mono ?_
    rintro e w2 ⟨rfl, hx⟩
    have HX := hidP hx
    clear hx
    go_wp2
    go_ret
    exact ⟨none, 0, 0, [], rfl, by rw [HR.out]; exact OwnK.nil stepK _ _ _, HX1.out.trans HX.out⟩
  · have HR : Hid (dualR r ts us = mirS us) := by
      show _ = _
      unfold dualR
      rw [hT]
      rfl
    rw [hT] at HP
    have hT2 : typeB r ts = true := by
      simp only [Bool.and_eq_true] at hT
      exact hT.1
    have hP1 : chrB r.toNat us = true := by
      simp only [Bool.and_eq_true] at hT
      exact hT.2
    obtain ⟨hr1, hr4, _⟩ := typeB_rank hT2
    obtain ⟨R, rfl⟩ : ∃ R : Nat, r = R := ⟨r.toNat, by omega⟩
    rw [Int.toNat_natCast] at hP1
    have hR4 : R ≤ 4 := by omega
    have HP1 := hidP (chrB_iff.1 hP1)
    have HT2 := hidP hT2
    clear hT hT2 hP1 hr1 hr4
    have hnl := H.out.len
    have hn4 := HP1.out.len
    go_enter Tryz.func38, Tryz.ntmps38
    go_wp2_with fail
    rw [← hw1]
    clear hw1 f0 f1
    refine HP.out.mono ?_
    rintro e w2 ⟨rfl, hx⟩
    have HX2 := hidP (HX1.out.trans hx)
    have HC2 := hidP (HC.out w2 hx)
    have HN := hidP (newCounts_any w2)
    clear hx HC HP
    go_wp2_with fail
    refine HN.out.mono ?_
    rintro e w3 ⟨b, rfl, hC3, hb3, hx3⟩
    have hx4 := Ext.alloc w3 (.cells #[.map (some b), .map (some (b + 1))] 107)
    have HX4 := hidP (HX2.out.trans (hx3.trans hx4))
    have HC4 := hidP (hC3.below hx4)
    have HCr4 := hidP (HC2.out.below (hx3.trans hx4))
    have HA4 := hidP (CntAt.new w3 _ rfl b (b + 1) 107)
    have HB : Hid (w.heap.size ≤ b) := Nat.le_trans HX2.out.size hb3
    obtain ⟨w4, hw4⟩ : ∃ w4, w4 = w3.alloc (.cells #[.map (some b), .map (some (b + 1))] 107) := ⟨_, rfl⟩
    rw [← hw4] at HX4 HC4 HCr4 HA4
    obtain ⟨bk, hbk⟩ : ∃ bk, bk = w3.heap.size := ⟨_, rfl⟩
    rw [← hbk] at HA4
    clear hC3 hb3 hx3 hx4
    go_wp2
    rw [← hw4, ← hbk]
    clear hw4 hbk
    go_loopw [17] (fun i wr => ∃ k : Nat, k ≤ n ∧ i = .int .i64 k ∧ Hid (∃ f1 f2, Counts wr b (b + 1) k (cntSum ((us.take k).map fun p => (negW p.1, p.2))) f1 f2) ∧ Hid (CntAt wr bk b (b + 1)) ∧ Hid (CarAt wr w.heap.size R ta tn tc) ∧ Hid (Ext w wr)) (fun i _ => n - (intOf i).toNat)
    case atStart => exact ⟨0, Nat.zero_le _, rfl, hidP ⟨_, _, HC4.out⟩, HA4, HCr4, HX4⟩
    case round =>
      clear HC4 HA4 HCr4 HX4
      obtain ⟨k, hk, rfl, HCn, HA, HCr, HX⟩ := hrel
      by_cases hlt : k < n
      · obtain ⟨bu, o, aw, cw, W, L, rfl, HW, HL, hwl, HNl, hq⟩ := (H.out.below HX.out).way k hlt
        have HQ := hidP hq
        obtain ⟨q1, q2, _⟩ := hq wr (Ext.refl wr)
        have hat := HP1.out.at hR4 (k := k) (by omega)
        rw [HW.out, HL.out] at hat
        obtain ⟨hWl, hWb, hL1, hL2⟩ := hat
        have hbd := mapT_bound HP1.out negW (k := k) (by omega) (negW W)
        have HSn : Hid (addG (cntSum ((us.take k).map fun p => (negW p.1, p.2))) (negW W) L = cntSum ((us.take (k + 1)).map fun p => (negW p.1, p.2))) := by
          show _ = _
          rw [mapT_take negW us (by omega), cntSum_snoc, HW.out, HL.out]
        have HKo : Hid (KeyOk (negW W)) := by
          refine ⟨fun j hj => ?_, by rw [negW_length]; omega⟩
          rw [negW_length] at hj
          rw [negW_getD]
          have := hWb j (by omega)
          omega
        have HA2 := hidP (Ext.alloc wr (.cells #[.slice aw W.length cw, .int .i64 L] 104))
        have HS := hidP (fun w' (hx : Ext (wr.alloc (.cells #[.slice aw W.length cw, .int .i64 L] 104)) w') => (StpAt.new wr _ rfl aw W.length cw L 104).below hx)
        obtain ⟨w5, hw5⟩ : ∃ w5, w5 = wr.alloc (.cells #[.slice aw W.length cw, .int .i64 L] 104) := ⟨_, rfl⟩
        rw [← hw5] at HA2 HS
        have HAb := hidP (fun w' (hx : Ext w5 w') => HA.out.below (HA2.out.trans hx))
        have HTm := hidP (fun w' (hx : Ext w5 w') => listTimes_any (-1) aw W.length cw W w' (HQ.out w' (HA2.out.trans hx)).2.2 (by omega) (fun j hj => by have := hWb j (by omega); omega))
        rw [timesL_neg] at HTm
        obtain ⟨G, hG⟩ : ∃ G, G = cntSum ((us.take k).map fun p => (negW p.1, p.2)) := ⟨_, rfl⟩
        rw [← hG] at HCn HSn hbd
        have HWl := hidP hWl
        have HLb := hidP (show 1 ≤ L ∧ L ≤ 1000000 from ⟨hL1, hL2⟩)
        have HGb := hidP hbd
        clear hq hG hWb hWl hL1 hL2 hbd
        go_wp2
        rw [← hw5]
        clear hw5 q1 q2
        have hE : Ext w5 w5.drew := Ext.drew w5
        (refine walkR_start (fun w' => Ext w5 w') 6 (by kernel_rfl) ?_; simp only [numbered, List.take_succ_cons, List.take_zero, Nat.zero_add, Nat.reduceAdd, List.length_cons, List.length_nil])
        (repeat (first | (refine walkR_still (v := ?_) rfl (by decide +kernel) rfl (fun _ _ _ h => h) hE ?_ ?_; rotate_left; (focus (intro w' hw'; obtain ⟨z0, z1⟩ := HAb.out w' hw'; obtain ⟨q1, q2⟩ := HS.out w' hw'; go_simp; all_goals (with_reducible rfl))); simp only [Act.put, List.setIfInBounds_toArray, List.set_cons_zero, List.set_cons_succ]) | (refine walkR_skip rfl (by decide +kernel) rfl (fun _ _ _ h => h) hE ?_; simp only [Act.put, List.setIfInBounds_toArray, List.set_cons_zero, List.set_cons_succ])))
        (refine walkR_later ?_; simp only [List.cons_append, List.nil_append])
        (repeat (first | (refine walkR_still (v := ?_) rfl (by decide +kernel) rfl (fun _ _ _ h => h) hE ?_ ?_; rotate_left; (focus (intro w' hw'; obtain ⟨q1, q2⟩ := HS.out w' hw'; go_simp; all_goals (with_reducible rfl))); simp only [Act.put, List.setIfInBounds_toArray, List.set_cons_zero, List.set_cons_succ]) | (refine walkR_skip rfl (by decide +kernel) rfl (fun _ _ _ h => h) hE ?_; simp only [Act.put, List.setIfInBounds_toArray, List.set_cons_zero, List.set_cons_succ])))
        (refine walkR_only (fun w' => Ext w5 w') rfl (by decide +kernel) rfl (fun _ h => h) ?_; intro K hK; go_simp; refine (HTm.out _ hE).mono ?_; rintro e w6 ⟨a1, c1, rfl, ho1, hx6⟩; refine hK _ _ (hE.trans hx6) ?_; clear hK K; (try simp only [Act.put, List.setIfInBounds_toArray, List.set_cons_zero, List.set_cons_succ]))
        have hE3 := HA2.out.trans (hE.trans hx6)
        obtain ⟨f1, f2, hCn⟩ := HCn.out
        have HAd := hidP (cntAdd_any b (b + 1) k G f1 f2 a1 W.length c1 (negW W) L w6 (hCn.below hE3) HKo.out (by rw [← negW_length W]; exact (by rw [negW_length]; exact ho1.ints)) ho1.nil_cap (by omega) (by have := HLb.out; have := HGb.out; omega) (by have := HLb.out; have := HGb.out; omega) (HTb.out.below (HX.out.trans hE3)))
        have HM1 := hidP ((hCn.below hE3).m1.is)
        have HM2 := hidP ((hCn.below hE3).m2.is)
        have HA6 := hidP (HA.out.below hE3)
        have HCr6 := hidP (HCr.out.below hE3)
        have HX6 := hidP (HX.out.trans hE3)
        clear ho1 hx6 hE hE3 hCn HCn
        (refine walkR_tail (by rfl) (by kernel_rfl) ?_; simp only [List.drop_succ_cons, List.drop_zero])
        go_wp2_with fail
        refine HAd.out.mono ?_
        rintro e w7 ⟨rfl, hC7, hx7⟩
        rw [HSn.out] at hC7
        have HC7 := hidP hC7
        have HA7 := hidP (HA6.out.extM hx7 HM1.out HM2.out)
        have HCr7 := hidP (HCr6.out.extM hx7 HM1.out HM2.out)
        have HX7 := hidP (hx7.below HX6.out HB.out (Nat.le_succ_of_le HB.out) HX6.out.size)
        clear hC7 hx7
        go_wp2
        go_roundw
        case rel => exact ⟨k + 1, by omega, by go_num, HC7, HA7, HCr7, HX7⟩
        case measure => simp [intOf]; omega
      · obtain rfl : n = k := by omega
        have HTk : Hid (((us.take n).map fun p => (negW p.1, p.2)) = negT us) := by
          show _ = _
          rw [List.take_of_length_le (by omega)]
          rfl
        rw [HTk.out] at HCn
        obtain ⟨f1, f2, hCn⟩ := HCn.out
        have HD := dual_chr HP1.out
        have HCh := hidP (cntCharacter_any R ta tn tc ts b (b + 1) n _ f1 f2 (mirS us) wr hCn (dual_tells HP1.out) HD.ord (by have := HD.len; unfold dualL at this; omega) HT2.out (fun w' hx => HIs.out w' (HX.out.trans hx)))
        have hJ : chrR (R : Int).toNat (mirS us) = (true, mirS us) := by
          unfold chrR
          rw [Int.toNat_natCast, show chrB R (mirS us) = true from chrB_iff.2 HD]
          rfl
        rw [hJ] at HCh
        obtain ⟨z0, z1⟩ := HA.out
        obtain ⟨f0, f1'⟩ := HCr.out
        clear hCn HCn HD hJ
        unfold PathRes at HCh
        go_wp2_with fail
        refine HCh.out.mono ?_
        rintro e w8 ⟨a8, n8, c8, hs8, rfl, ho8, hx8⟩
        have HO8 := hidP (ho8.weaken (B' := w.heap.size) HX.out.size (Nat.le_refl _))
        have HX8 := hidP (HX.out.trans hx8)
        clear ho8 hx8
        go_wp2
        go_ret
        exact ⟨a8, n8, c8, hs8, rfl, by rw [HR.out]; exact HO8.out, HX8.out⟩
end Go.Proofs.YtnfbfdamlnjblaaGreatDoor

namespace Go.Proofs.YtnfbfdamlnjblaaGreatDoor
open Go.RowKit

theorem Counts.set2 {w : World} {b1 b2 n k : Nat} {g : List Int → Int} {f1 f2 : ByteArray → Option Value} (h : Counts w b1 b2 n g f1 f2) {E : TypeId} (hk : w.heap[k]? = some (.cells #[.map none, .map none] E (0, 0))) (v0 v1 : Value) :
    Counts ((w.setCell ⟨k, 0, none⟩ v0).setCell ⟨k, 1, none⟩ v1) b1 b2 n g f1 f2 := by
  have hg : w.grownBy ((w.setCell ⟨k, 0, none⟩ v0).setCell ⟨k, 1, none⟩ v1) (some k) := by
    refine ⟨rfl, rfl, rfl, by simp [World.setCell], fun j hj hne => ?_⟩
    have hkj : k ≠ j := fun e => hne (by rw [e])
    simp [World.setCell, Array.getElem?_modify, hkj]
  have hm : ∀ b, IsMapAt w b → some b ≠ some k := fun b hb e => by
    obtain ⟨es, clock, hb⟩ := hb
    simp only [Option.some.injEq] at e
    rw [e, hk] at hb
    cases hb
  refine ⟨h.ne, h.m1.kept hg (hm _ h.m1.is), h.m2.kept hg (hm _ h.m2.is), h.num, fun s hs => ?_, h.has⟩
  obtain ⟨x, a, c, h1, h2, h3, h4, h5⟩ := (h.word s hs).ex
  refine ⟨x, a, c, h1, h2, h3, ⟨h4.len, fun i hi => ?_⟩, h5⟩
  obtain ⟨b, o, e, hc⟩ := h4.get i hi
  refine ⟨b, o, e, ?_⟩
  rw [← hc]
  refine World.cell?_of_block (hg.block _ (World.block_lt_of_cell? w _ hc) fun e2 => ?_)
  simp only [Option.some.injEq] at e2
  subst e2
  simp only [World.cell?, hk] at hc
  generalize o + i = q at hc
  rcases q with _ | _ | q <;> simp at hc

set_option maxRecDepth 100000 in
set_option maxHeartbeats 4000000 in
theorem doubled_any {R : Nat} (a : Option Addr) (n c : Nat) (us : List Tm) (w : World) (h : StepsAt w a n us) (hR4 : R ≤ 4) (hP : ChrP R us) (ht : Tab w) :
    Calls Tryz.prog 97 #[.slice a n c] w fun e w' => ∃ b, e = .returned (cntV b (b + 1)) ∧ (∃ f1 f2, Counts w' b (b + 1) n (cntSum (dblT us)) f1 f2) ∧ Ext w w' := by
  have hx1 := Ext.alloc w (.cells #[.map none, .map none] 107)
  have hz1 : (w.alloc (.cells #[.map none, .map none] 107)).heap.size = w.heap.size + 1 := by simp
  have HZ := hidP (fun w' (hx : Ext (w.alloc (.cells #[.map none, .map none] 107)) w') j => new_cell (w' := w') (w := w) (cs := #[.map none, .map none]) (E := 107) (b := w.heap.size) rfl hx j)
  have H := hidP (h.below hx1)
  have HTb := hidP (ht.below hx1)
  have HX1 := hidP hx1
  have HP1 := hidP hP
  have hnl := h.len
  have hn4 := hP.len
  have HN := hidP (fun w' => newCounts_any w')
  clear h ht hP hx1
  go_enter Tryz.func97, Tryz.ntmps97
  go_wp2_with fail
  refine (HN.out _).mono ?_
  rintro e w3 ⟨b, rfl, hC3, hb3, hx3⟩
  have hx4 := Ext.alloc w3 (.cells #[.map (some b), .map (some (b + 1))] 107)
  have HX4 := hidP (hx3.trans hx4)
  have HC4 := hidP (hC3.below hx4)
  have HA4 := hidP (CntAt.new w3 _ rfl b (b + 1) 107)
  have HB := hidP hb3
  obtain ⟨wA, hwA⟩ : ∃ wA, wA = w.alloc (.cells #[.map none, .map none] 107) := ⟨_, rfl⟩
  rw [← hwA] at HX1 HX4 HB HZ H HTb hz1
  have HZ1 := hidP hz1
  obtain ⟨w4, hw4⟩ : ∃ w4, w4 = w3.alloc (.cells #[.map (some b), .map (some (b + 1))] 107) := ⟨_, rfl⟩
  rw [← hw4] at HX4 HC4 HA4
  obtain ⟨bk, hbk⟩ : ∃ bk, bk = w3.heap.size := ⟨_, rfl⟩
  rw [← hbk] at HA4
  clear hC3 hb3 hx3 hx4 hz1
  go_wp2
  rw [← hw4, ← hbk]
  clear hw4 hbk
  have HWA := hidP hwA
  clear hwA
  go_loopw [9] (fun i wr => ∃ k : Nat, k ≤ n ∧ i = .int .i64 k ∧ Hid (∃ f1 f2, Counts wr b (b + 1) k (cntSum ((us.take k).map fun p => (dblL p.1, p.2))) f1 f2) ∧ Hid (CntAt wr bk b (b + 1)) ∧ Hid (Ext wA wr)) (fun i _ => n - (intOf i).toNat)
  case atStart => exact ⟨0, Nat.zero_le _, rfl, hidP ⟨_, _, HC4.out⟩, HA4, HX4⟩
  case round =>
    clear HC4 HA4 HX4
    obtain ⟨k, hk, rfl, HCn, HA, HX⟩ := hrel
    by_cases hlt : k < n
    · obtain ⟨bu, o, aw, cw, W, L, rfl, HW, HL, hwl, HNl, hq⟩ := (H.out.below HX.out).way k hlt
      have HQ := hidP hq
      obtain ⟨q1, q2, _⟩ := hq wr (Ext.refl wr)
      have hat := HP1.out.at hR4 (k := k) (by omega)
      rw [HW.out, HL.out] at hat
      obtain ⟨hWl, hWb, hL1, hL2⟩ := hat
      have hbd := mapT_bound HP1.out dblL (k := k) (by omega) (dblL W)
      have HSn : Hid (addG (cntSum ((us.take k).map fun p => (dblL p.1, p.2))) (dblL W) L = cntSum ((us.take (k + 1)).map fun p => (dblL p.1, p.2))) := by
        show _ = _
        rw [mapT_take dblL us (by omega), cntSum_snoc, HW.out, HL.out]
      have HKo : Hid (KeyOk (dblL W)) := by
        refine ⟨fun j hj => ?_, by rw [dblL_length]; omega⟩
        rw [dblL_length] at hj
        rw [dblL_getD]
        have := hWb j (by omega)
        omega
      have HA2 := hidP (Ext.alloc wr (.cells #[.slice aw W.length cw, .int .i64 L] 104))
      have HS := hidP (fun w' (hx : Ext (wr.alloc (.cells #[.slice aw W.length cw, .int .i64 L] 104)) w') => (StpAt.new wr _ rfl aw W.length cw L 104).below hx)
      obtain ⟨w5, hw5⟩ : ∃ w5, w5 = wr.alloc (.cells #[.slice aw W.length cw, .int .i64 L] 104) := ⟨_, rfl⟩
      rw [← hw5] at HA2 HS
      have HAb := hidP (fun w' (hx : Ext w5 w') => HA.out.below (HA2.out.trans hx))
      have HTm := hidP (fun w' (hx : Ext w5 w') => listTimes_any 2 aw W.length cw W w' (HQ.out w' (HA2.out.trans hx)).2.2 (by omega) (fun j hj => by have := hWb j (by omega); omega))
      rw [timesL_dbl] at HTm
      obtain ⟨G, hG⟩ : ∃ G, G = cntSum ((us.take k).map fun p => (dblL p.1, p.2)) := ⟨_, rfl⟩
      rw [← hG] at HCn HSn hbd
      have HWl := hidP hWl
      have HLb := hidP (show 1 ≤ L ∧ L ≤ 1000000 from ⟨hL1, hL2⟩)
      have HGb := hidP hbd
      clear hq hG hWb hWl hL1 hL2 hbd
      go_wp2
      rw [← hw5]
      clear hw5 q1 q2
      have hE : Ext w5 w5.drew := Ext.drew w5
      (refine walkR_start (fun w' => Ext w5 w') 6 (by kernel_rfl) ?_; simp only [numbered, List.take_succ_cons, List.take_zero, Nat.zero_add, Nat.reduceAdd, List.length_cons, List.length_nil])
      (repeat (first | (refine walkR_still (v := ?_) rfl (by decide +kernel) rfl (fun _ _ _ h => h) hE ?_ ?_; rotate_left; (focus (intro w' hw'; obtain ⟨z0, z1⟩ := HAb.out w' hw'; obtain ⟨q1, q2⟩ := HS.out w' hw'; go_simp; all_goals (with_reducible rfl))); simp only [Act.put, List.setIfInBounds_toArray, List.set_cons_zero, List.set_cons_succ]) | (refine walkR_skip rfl (by decide +kernel) rfl (fun _ _ _ h => h) hE ?_; simp only [Act.put, List.setIfInBounds_toArray, List.set_cons_zero, List.set_cons_succ])))
      (refine walkR_later ?_; simp only [List.cons_append, List.nil_append])
      (repeat (first | (refine walkR_still (v := ?_) rfl (by decide +kernel) rfl (fun _ _ _ h => h) hE ?_ ?_; rotate_left; (focus (intro w' hw'; obtain ⟨q1, q2⟩ := HS.out w' hw'; go_simp; all_goals (with_reducible rfl))); simp only [Act.put, List.setIfInBounds_toArray, List.set_cons_zero, List.set_cons_succ]) | (refine walkR_skip rfl (by decide +kernel) rfl (fun _ _ _ h => h) hE ?_; simp only [Act.put, List.setIfInBounds_toArray, List.set_cons_zero, List.set_cons_succ])))
      (refine walkR_only (fun w' => Ext w5 w') rfl (by decide +kernel) rfl (fun _ h => h) ?_; intro K hK; go_simp; refine (HTm.out _ hE).mono ?_; rintro e w6 ⟨a1, c1, rfl, ho1, hx6⟩; refine hK _ _ (hE.trans hx6) ?_; clear hK K; (try simp only [Act.put, List.setIfInBounds_toArray, List.set_cons_zero, List.set_cons_succ]))
      have hE3 := HA2.out.trans (hE.trans hx6)
      obtain ⟨f1, f2, hCn⟩ := HCn.out
      have HAd := hidP (cntAdd_any b (b + 1) k G f1 f2 a1 W.length c1 (dblL W) L w6 (hCn.below hE3) HKo.out (ho1.ints) ho1.nil_cap (by omega) (by have := HLb.out; have := HGb.out; omega) (by have := HLb.out; have := HGb.out; omega) (HTb.out.below (HX.out.trans hE3)))
      have HM1 := hidP ((hCn.below hE3).m1.is)
      have HM2 := hidP ((hCn.below hE3).m2.is)
      have HA6 := hidP (HA.out.below hE3)
      have HX6 := hidP (HX.out.trans hE3)
      clear ho1 hx6 hE hE3 hCn HCn
      (refine walkR_tail (by rfl) (by kernel_rfl) ?_; simp only [List.drop_succ_cons, List.drop_zero])
      go_wp2_with fail
      refine HAd.out.mono ?_
      rintro e w7 ⟨rfl, hC7, hx7⟩
      rw [HSn.out] at hC7
      have HC7 := hidP hC7
      have HA7 := hidP (HA6.out.extM hx7 HM1.out HM2.out)
      have HX7 := hidP (hx7.below HX6.out HB.out (Nat.le_succ_of_le HB.out) HX6.out.size)
      clear hC7 hx7
      go_wp2
      go_roundw
      case rel => exact ⟨k + 1, by omega, by go_num, HC7, HA7, HX7⟩
      case measure => simp [intOf]; omega
    · obtain rfl : n = k := by omega
      have HTk : Hid (((us.take n).map fun p => (dblL p.1, p.2)) = dblT us) := by
        show _ = _
        rw [List.take_of_length_le (by omega)]
        rfl
      rw [HTk.out] at HCn
      obtain ⟨z0, z1⟩ := HA.out
      have r0 := ((HZ.out wr HX.out 0).1).trans (show _ = some (Value.map none) from rfl)
      have r1 := ((HZ.out wr HX.out 1).1).trans (show _ = some (Value.map none) from rfl)
      have y0 := (HZ.out wr HX.out 0).2
      have y1 := (HZ.out wr HX.out 1).2
      obtain ⟨f1, f2, hCn⟩ := HCn.out
      have hblk : wr.heap[w.heap.size]? = some (.cells #[.map none, .map none] 107 (0, 0)) := by
        rw [HX.out.block _ (by have := HZ1.out; omega), HWA.out]
        exact heap_alloc_new _ _
      have HC9 := hidP (hCn.set2 hblk (.map (some b)) (.map (some (b + 1))))
      have HX9 : Hid (Ext w ((wr.setCell ⟨w.heap.size, 0, none⟩ (.map (some b))).setCell ⟨w.heap.size, 1, none⟩ (.map (some (b + 1))))) := Ext.setNew (Ext.setNew (HX1.out.trans HX.out) _ _ (Nat.le_refl _) _) _ _ (Nat.le_refl _) _
      have hs0 : ((wr.setCell ⟨w.heap.size, 0, none⟩ (.map (some b))).setCell ⟨w.heap.size, 1, none⟩ (.map (some (b + 1)))).cell? ⟨w.heap.size, 0, none⟩ = some (.map (some b)) := by
        simp [World.setCell, World.cell?, Array.getElem?_modify, hblk]
      have hs1 : ((wr.setCell ⟨w.heap.size, 0, none⟩ (.map (some b))).setCell ⟨w.heap.size, 1, none⟩ (.map (some (b + 1)))).cell? ⟨w.heap.size, 1, none⟩ = some (.map (some (b + 1))) := by
        simp [World.setCell, World.cell?, Array.getElem?_modify, hblk]
      clear hblk hCn HCn
      go_wp2
      refine bodyPost_ret (v := cntV b (b + 1)) (by simp [results, Tryz.results97, go_sem, hs0, hs1]) rfl ⟨b, rfl, ⟨f1, f2, HC9.out⟩, HX9.out⟩
theorem dblT_length (us : List Tm) : (dblT us).length = us.length := by simp [dblT]
def doubleR (r : Int) (ts : List Int) (us : List Tm) : Bool × List Tm := if typeB r ts && chrB r.toNat us then chrR r.toNat (dblT us) else (false, [])

set_option maxRecDepth 100000 in
set_option maxHeartbeats 4000000 in
theorem doubleCharacter_any (r : Int) (ta : Option Addr) (tn tc : Nat) (ts : List Int) (a : Option Addr) (n c : Nat) (us : List Tm) (w : World) (hc : IntsAt w ta tn ts) (hcn : tn ≤ 9223372036854775807)
    (h : StepsAt w a n us) (hn : n ≤ 9223372036854775807) (hm : MaxL w) (ht : Tab w) : PathRes 45 #[carV r ta tn tc, .slice a n c] w (doubleR r ts us) := by
  unfold PathRes
  have hx1 := Ext.alloc w (.cells #[.int .i64 r, .slice ta tn tc] 55)
  have HC := hidP (fun w' (hx : Ext (w.alloc (.cells #[.int .i64 r, .slice ta tn tc] 55)) w') => (CarAt.new w _ rfl r ta tn tc 55).below hx)
  have HX1 := hidP hx1
  have H := hidP h
  have HTb := hidP ht
  have HIs := hidP (fun w' (hx : Ext w w') => isCartan_any r ta tn tc ts w' (hc.below hx) hcn (hm.below hx))
  have HP := hidP (characterOk_of r ta tn tc ts a n c us _ (h.below hx1).terms hn (fun w' hx => HIs.out w' (hx1.trans hx)))
  clear hc h hx1 hm ht
  obtain ⟨w1, hw1⟩ : ∃ w1, w1 = w.alloc (.cells #[.int .i64 r, .slice ta tn tc] 55) := ⟨_, rfl⟩
  rw [← hw1] at HC HX1 HP
  obtain ⟨f0, f1⟩ := HC.out w1 (Ext.refl w1)
  cases hT : (typeB r ts && chrB r.toNat us)
  · have HR : Hid (doubleR r ts us = (false, [])) := by
      show _ = _
      unfold doubleR
      rw [hT]
      rfl
    rw [hT] at HP
    clear hT
    go_enter Tryz.func45, Tryz.ntmps45
    go_wp2_with fail
    rw [← hw1]
    clear hw1
    refine HP.out.mono ?_
    rintro e w2 ⟨rfl, hx⟩
    have HX := hidP hx
    clear hx
    go_wp2
    refine bodyPost_ret (v := .tuple #[.slice none 0 0, .bool false]) (by simp [results, Tryz.results45, go_sem]) rfl ⟨none, 0, 0, [], by rw [HR.out], ?_, HX1.out.trans HX.out⟩
    rw [HR.out]
    exact OwnK.nil stepK _ _ _
  · have HR : Hid (doubleR r ts us = chrR r.toNat (dblT us)) := by
      show _ = _
      unfold doubleR
      rw [hT]
      rfl
    rw [hT] at HP
    have hT2 : typeB r ts = true := by
      simp only [Bool.and_eq_true] at hT
      exact hT.1
    have hP1 : chrB r.toNat us = true := by
      simp only [Bool.and_eq_true] at hT
      exact hT.2
    obtain ⟨hr1, hr4, _⟩ := typeB_rank hT2
    obtain ⟨R, rfl⟩ : ∃ R : Nat, r = R := ⟨r.toNat, by omega⟩
    rw [Int.toNat_natCast] at hP1
    have hR4 : R ≤ 4 := by omega
    have HP1 := hidP (chrB_iff.1 hP1)
    have HT2 := hidP hT2
    clear hT hT2 hP1 hr1 hr4
    have hnl := H.out.len
    have hn4 := HP1.out.len
    go_enter Tryz.func45, Tryz.ntmps45
    go_wp2_with fail
    rw [← hw1]
    clear hw1 f0 f1
    refine HP.out.mono ?_
    rintro e w2 ⟨rfl, hx⟩
    have HX2 := hidP (HX1.out.trans hx)
    have HC2 := hidP (HC.out w2 hx)
    have HDb := hidP (fun w' (hx : Ext w2 w') => doubled_any a n c us w' (H.out.below (HX2.out.trans hx)) hR4 HP1.out (HTb.out.below (HX2.out.trans hx)))
    have HCr := hidP (fun w' (hx : Ext w2 w') => HC2.out.below hx)
    have hE : Ext w2 w2.drew := Ext.drew w2
    clear hx HC HP
    go_wp2
    (refine walkR_start (fun w' => Ext w2 w') 8 (by kernel_rfl) ?_; simp only [numbered, List.take_succ_cons, List.take_zero, Nat.zero_add, Nat.reduceAdd, List.length_cons, List.length_nil])
    (repeat (first | (refine walkR_still (v := ?_) rfl (by decide +kernel) rfl (fun _ _ _ h => h) hE ?_ ?_; rotate_left; (focus (intro w' hw'; skip; go_simp; all_goals (with_reducible rfl))); simp only [Act.put, List.setIfInBounds_toArray, List.set_cons_zero, List.set_cons_succ]) | (refine walkR_skip rfl (by decide +kernel) rfl (fun _ _ _ h => h) hE ?_; simp only [Act.put, List.setIfInBounds_toArray, List.set_cons_zero, List.set_cons_succ])))
    (refine walkR_later ?_; simp only [List.cons_append, List.nil_append])
    (repeat (first | (refine walkR_still (v := ?_) rfl (by decide +kernel) rfl (fun _ _ _ h => h) hE ?_ ?_; rotate_left; (focus (intro w' hw'; obtain ⟨f0, f1⟩ := HCr.out w' hw'; go_simp; all_goals (with_reducible rfl))); simp only [Act.put, List.setIfInBounds_toArray, List.set_cons_zero, List.set_cons_succ]) | (refine walkR_skip rfl (by decide +kernel) rfl (fun _ _ _ h => h) hE ?_; simp only [Act.put, List.setIfInBounds_toArray, List.set_cons_zero, List.set_cons_succ])))
    (refine walkR_later ?_; simp only [List.cons_append, List.nil_append]); (refine walkR_later ?_; simp only [List.cons_append, List.nil_append]); (refine walkR_later ?_; simp only [List.cons_append, List.nil_append]); (refine walkR_later ?_; simp only [List.cons_append, List.nil_append]); (refine walkR_later ?_; simp only [List.cons_append, List.nil_append])
    (refine walkR_only (fun w' => Ext w2 w') rfl (by decide +kernel) rfl (fun _ h => h) ?_; intro K hK; go_simp; refine (HDb.out _ hE).mono ?_; rintro e w3 ⟨b, rfl, hC3, hx3⟩; refine hK _ _ (hE.trans hx3) ?_; clear hK K; (try simp only [Act.put, List.setIfInBounds_toArray, List.set_cons_zero, List.set_cons_succ]))
    have hE3 := hE.trans hx3
    have HX3 := hidP (HX2.out.trans hE3)
    obtain ⟨f1, f2, hC3⟩ := hC3
    have HCh := hidP (cntCharacter_any R ta tn tc ts b (b + 1) n _ f1 f2 (dblT us) w3 hC3 (dbl_tells HP1.out) (dbl_ord HP1.out) (by rw [dblT_length]; omega) HT2.out (fun w' hx => HIs.out w' (HX3.out.trans hx)))
    rw [← HR.out] at HCh
    unfold PathRes at HCh
    clear hC3 hx3 hE
    (refine walkR_only (fun w' => Ext w2 w') rfl (by decide +kernel) rfl (fun _ h => h) ?_; intro K hK; go_simp; refine (HCh.out).mono ?_; rintro e w8 ⟨a8, n8, c8, hs8, rfl, ho8, hx8⟩; refine hK _ _ (hE3.trans hx8) ?_; clear hK K; (try simp only [Act.put, List.setIfInBounds_toArray, List.set_cons_zero, List.set_cons_succ]))
    have hE8 := hE3.trans hx8
    (repeat (first | (refine walkR_still (v := ?_) rfl (by decide +kernel) rfl (fun _ _ _ h => h) hE8 ?_ ?_; rotate_left; (focus (intro w' hw'; skip; go_simp; all_goals (with_reducible rfl))); simp only [Act.put, List.setIfInBounds_toArray, List.set_cons_zero, List.set_cons_succ]) | (refine walkR_skip rfl (by decide +kernel) rfl (fun _ _ _ h => h) hE8 ?_; simp only [Act.put, List.setIfInBounds_toArray, List.set_cons_zero, List.set_cons_succ])))
    (refine walkR_tail (by rfl) (by kernel_rfl) ?_; simp only [List.drop_succ_cons, List.drop_zero])
    have HO8 := hidP (ho8.weaken (B' := w.heap.size) HX3.out.size (Nat.le_refl _))
    have HX8 := hidP (HX3.out.trans hx8)
    clear ho8 hx8 hE3 hE8
    go_wp2
    refine bodyPost_ret (v := .tuple #[.slice a8 n8 c8, .bool (doubleR R ts us).1]) (by simp [results, Tryz.results45, go_sem]) rfl ⟨a8, n8, c8, hs8, rfl, HO8.out, HX8.out⟩
end Go.Proofs.YtnfbfdamlnjblaaGreatDoor

namespace Go.Proofs.YtnfbfdamlnjblaaGreatDoor
open Go.RowKit

theorem sCharacterOk_any (r : Int) (ta : Option Addr) (tn tc : Nat) (ts : List Int) (a : Option Addr) (n c : Nat) (xs : List Tm) (w : World) (hc : IntsAt w ta tn ts) (hcn : tn ≤ 9223372036854775807) (h : TermsAt w a n xs) (hn : n ≤ 9223372036854775807) :
    Calls Tryz.prog 86 #[carV r ta tn tc, .slice a n c] w fun e w' => e = .returned (.bool (typeB r ts && chrB r.toNat xs)) ∧ Ext w w' := by
  have hx1 := Ext.alloc w (.cells #[.int .i64 r, .slice ta tn tc] 55)
  have HC := hidP (fun w' (hx : Ext (w.alloc (.cells #[.int .i64 r, .slice ta tn tc] 55)) w') => (CarAt.new w _ rfl r ta tn tc 55).below hx)
  have HX1 := hidP hx1
  have H := hidP (h.below hx1)
  have HIs := hidP (sIsCartan_any r ta tn tc ts _ (hc.below hx1) hcn)
  clear hc h hx1
  obtain ⟨w1, hw1⟩ : ∃ w1, w1 = w.alloc (.cells #[.int .i64 r, .slice ta tn tc] 55) := ⟨_, rfl⟩
  rw [← hw1] at HC HX1 H HIs
  obtain ⟨f0, f1⟩ := HC.out w1 (Ext.refl w1)
  cases hT : typeB r ts
  · rw [hT] at HIs
    clear hT
    go_enter Tryz.func86, Tryz.ntmps86
    go_wp2_with fail
    rw [← hw1]
    clear hw1
    refine HIs.out.mono ?_
    rintro e w2 ⟨rfl, hx⟩
    have HX := hidP hx
    clear hx
    go_wp2
    go_ret
    exact ⟨rfl, HX1.out.trans HX.out⟩
  · obtain ⟨hr1, hr4, _⟩ := typeB_rank hT
    rw [hT] at HIs
    rw [Bool.true_and]
    clear hT
    obtain ⟨R, rfl⟩ : ∃ R : Nat, r = R := ⟨r.toNat, by omega⟩
    rw [Int.toNat_natCast]
    have hR : R ≤ 4 := by omega
    clear hr1 hr4
    have HL := hidP (fun w' (hx : Ext w1 w') => l8Ok_any R ta tn tc a n c xs w' (H.out.below hx) hn (by omega))
    generalize chrB R xs = b at HL ⊢
    go_enter Tryz.func86, Tryz.ntmps86
    go_wp2_with fail
    rw [← hw1]
    clear hw1
    refine HIs.out.mono ?_
    rintro e w2 ⟨rfl, hx⟩
    obtain ⟨g0, g1⟩ := HC.out w2 hx
    have HX := hidP hx
    clear hx f0 f1
    go_wp2_with fail
    refine (HL.out _ HX.out).mono ?_
    rintro e w3 ⟨rfl, hx⟩
    have HX3 := hidP (HX.out.trans hx)
    clear hx
    go_wp2
    go_ret
    exact ⟨rfl, HX1.out.trans HX3.out⟩


set_option maxRecDepth 100000 in
set_option maxHeartbeats 4000000 in
theorem sDualCharacter_any (r : Int) (ta : Option Addr) (tn tc : Nat) (ts : List Int) (a : Option Addr) (n c : Nat) (us : List Tm) (w : World) (hc : IntsAt w ta tn ts) (hcn : tn ≤ 9223372036854775807)
    (h : StepsAt w a n us) (hn : n ≤ 9223372036854775807) : ChrRes 35 #[carV r ta tn tc, .slice a n c] w (dualR r ts us) := by
  unfold ChrRes
  have hx1 := Ext.alloc w (.cells #[.int .i64 r, .slice ta tn tc] 55)
  have HC := hidP (fun w' (hx : Ext (w.alloc (.cells #[.int .i64 r, .slice ta tn tc] 55)) w') => (CarAt.new w _ rfl r ta tn tc 55).below hx)
  have HX1 := hidP hx1
  have H := hidP h
  have HP := hidP (sCharacterOk_any r ta tn tc ts a n c us _ (hc.below hx1) hcn (h.below hx1).terms hn)
  clear hc h hx1
  obtain ⟨w1, hw1⟩ : ∃ w1, w1 = w.alloc (.cells #[.int .i64 r, .slice ta tn tc] 55) := ⟨_, rfl⟩
  rw [← hw1] at HC HX1 HP
  obtain ⟨f0, f1⟩ := HC.out w1 (Ext.refl w1)
  cases hT : (typeB r ts && chrB r.toNat us)
  · have HR : Hid (dualR r ts us = []) := by
      show _ = _
      unfold dualR
      rw [hT]
      rfl
    rw [hT] at HP
    clear hT
    go_enter Tryz.func35, Tryz.ntmps35
    go_wp2_with fail
    rw [← hw1]
    clear hw1
    refine HP.out.mono ?_
    rintro e w2 ⟨rfl, hx⟩
    have HX := hidP hx
    clear hx
    go_wp2
    go_ret
    exact ⟨none, 0, 0, [], rfl, by rw [HR.out]; exact OwnK.nil stepK _ _ _, HX1.out.trans HX.out⟩
  · have HR : Hid (dualR r ts us = mirS us) := by
      show _ = _
      unfold dualR
      rw [hT]
      rfl
    rw [hT] at HP
    have hT2 : typeB r ts = true := by
      simp only [Bool.and_eq_true] at hT
      exact hT.1
    have hP1 : chrB r.toNat us = true := by
      simp only [Bool.and_eq_true] at hT
      exact hT.2
    obtain ⟨hr1, hr4, _⟩ := typeB_rank hT2
    obtain ⟨R, rfl⟩ : ∃ R : Nat, r = R := ⟨r.toNat, by omega⟩
    rw [Int.toNat_natCast] at hP1
    have hR4 : R ≤ 4 := by omega
    have HP1 := hidP (chrB_iff.1 hP1)
    have HT2 := hidP hT2
    clear hT hT2 hP1 hr1 hr4
    have hnl := H.out.len
    have hn4 := HP1.out.len
    go_enter Tryz.func35, Tryz.ntmps35
    go_wp2_with fail
    rw [← hw1]
    clear hw1 f0 f1
    refine HP.out.mono ?_
    rintro e w2 ⟨rfl, hx⟩
    have HX2 := hidP (HX1.out.trans hx)
    have HC2 := hidP (HC.out w2 hx)
    have HM0 : Hid (OwnK stepK (w2.alloc (.cells #[] 104)) w.heap.size (w2.alloc (.cells #[] 104)).heap.size (some ⟨w2.heap.size, 0, none⟩) 0 0 [] []) := (OwnK.made0 stepK w2).weaken (B' := w.heap.size) HX2.out.size (Nat.le_refl _)
    have HX0 := hidP (HX2.out.trans (Ext.alloc w2 (.cells #[] 104)))
    have HBd := hidP (fun k (hk : k < n) => ((by
      have hat := HP1.out.at hR4 (k := k) (by omega)
      refine ⟨by omega, fun j hj => ?_⟩
      have := hat.2.1 j (by omega)
      omega) : (wayAt us k).length ≤ 1000 ∧ ∀ j, j < (wayAt us k).length → -1000000 ≤ (wayAt us k).getD j 0 ∧ (wayAt us k).getD j 0 ≤ 1000000))
    have hn1000 : n ≤ 1000 := by omega
    clear hx HC HP
    go_wp2
    go_loopw [5, 6] (fun out i wr => ∃ (j g co : Nat) (hs : List Hdr), j ≤ n ∧ out = .slice (some ⟨g, 0, none⟩) j co ∧ i = .int .i64 ((n : Int) - 1 - j) ∧ Hid (OwnK stepK wr w.heap.size wr.heap.size (some ⟨g, 0, none⟩) j co hs ((mirS us).take j)) ∧ Hid (Ext w wr)) (fun _ i _ => (intOf i + 1).toNat)
    case atStart => exact ⟨0, _, _, [], Nat.zero_le _, rfl, by simp, HM0, HX0⟩
    case round =>
      obtain ⟨j, g, co, hs, hj, rfl, rfl, HO, HX⟩ := hrel
      by_cases hlt : j < n
      · obtain ⟨k, hk⟩ : ∃ k : Nat, k = n - 1 - j := ⟨_, rfl⟩
        have hki : (n : Int) - 1 - j = (k : Int) := by omega
        obtain ⟨b0, o, aw, cw, W, Ln, rfl, HW, HL, hwl, HNl, hq⟩ := (H.out.below HX.out).way k (by omega)
        have HQ := hidP hq
        have hbw := HBd.out k (by omega)
        rw [HW.out] at hbw
        have HTk : Hid ((mirS us).take (j + 1) = (mirS us).take j ++ [(negW W, Ln)]) := by
          show _ = _
          rw [mirS_take _ (by rw [hnl]; exact hlt), hnl, ← hk, HW.out, HL.out]
        have HMn := hidP (fun w' (hx : Ext wr w') => l5Minus_any aw W.length cw W w' (HQ.out w' hx).2.2 (by omega) hbw.2)
        have hNl : Hid ((negW W).length = W.length) := negW_length W
        have hbl := hbw.1
        have hk0 : (0 : Int) ≤ (k : Int) := by omega
        have hkn : (k : Int) < (n : Int) := by omega
        have hkj : (k : Int) = (n : Int) - 1 - j := by omega
        have HKJ := hidP hkj
        have hE : Ext wr wr.drew := Ext.drew wr
        rw [hki]
        clear hq hbw hk hki hkj
        go_wp2
        (refine walkR_start (fun w' => Ext wr w') 14 (by kernel_rfl) ?_; simp only [numbered, List.take_succ_cons, List.take_zero, Nat.zero_add, Nat.reduceAdd, List.length_cons, List.length_nil])
        (repeat (first | (refine walkR_still (v := ?_) rfl (by decide +kernel) rfl (fun _ _ _ h => h) hE ?_ ?_; rotate_left; (focus (intro w' hw'; obtain ⟨q1, q2, _⟩ := HQ.out w' hw'; go_simp; all_goals (with_reducible rfl))); simp only [Act.put, List.setIfInBounds_toArray, List.set_cons_zero, List.set_cons_succ]) | (refine walkR_skip rfl (by decide +kernel) rfl (fun _ _ _ h => h) hE ?_; simp only [Act.put, List.setIfInBounds_toArray, List.set_cons_zero, List.set_cons_succ])))
        (refine walkR_later ?_; simp only [List.cons_append, List.nil_append])
        (repeat (first | (refine walkR_still (v := ?_) rfl (by decide +kernel) rfl (fun _ _ _ h => h) hE ?_ ?_; rotate_left; (focus (intro w' hw'; obtain ⟨q1, q2, _⟩ := HQ.out w' hw'; go_simp; all_goals (with_reducible rfl))); simp only [Act.put, List.setIfInBounds_toArray, List.set_cons_zero, List.set_cons_succ]) | (refine walkR_skip rfl (by decide +kernel) rfl (fun _ _ _ h => h) hE ?_; simp only [Act.put, List.setIfInBounds_toArray, List.set_cons_zero, List.set_cons_succ])))
        (refine walkR_later ?_; simp only [List.cons_append, List.nil_append]); (refine walkR_later ?_; simp only [List.cons_append, List.nil_append])
        (refine walkR_only (fun w' => Ext wr w') rfl (by decide +kernel) rfl (fun _ h => h) ?_; intro K hK; go_simp; refine (HMn.out _ hE).mono ?_; rintro e w3 ⟨a1, rfl, ho1, hx1⟩; refine hK _ _ (hE.trans hx1) ?_; clear hK K; (try simp only [Act.put, List.setIfInBounds_toArray, List.set_cons_zero, List.set_cons_succ]))
        have hE3 := hE.trans hx1
        have HE3 := hidP (hE3.trans (Ext.alloc w3 (.cells #[.slice a1 W.length W.length, .int .i64 Ln] 104)))
        have HO3 := hidP (HO.out.below HE3.out)
        have HI3 := hidP (ho1.below (Ext.alloc w3 (.cells #[.slice a1 W.length W.length, .int .i64 Ln] 104)))
        have HAp := hidP (HO.out.new_apart ho1 (Nat.le_refl _))
        have HB3 : Hid (w.heap.size ≤ wr.drew.heap.size) := Nat.le_trans HX.out.size hE.size
        have HI4 : Hid (OwnI (w3.alloc (.cells #[.slice a1 W.length W.length, .int .i64 Ln] 104)) w.heap.size a1 (negW W).length W.length (negW W)) := by
          show OwnI _ _ _ _ _ _
          rw [hNl.out]
          exact HI3.out.base HB3.out
        have HCe : Hid (∀ q, q < stepK.size → (w3.alloc (.cells #[.slice a1 W.length W.length, .int .i64 Ln] 104)).cell? ⟨w3.heap.size, q, none⟩ = (stepK.cells a1 W.length (negW W, Ln))[q]?) := fun q _ => (cell_top _ _ _ _ _ rfl).trans (by simp [stepK, hNl.out])
        clear ho1 hx1 hE
        (repeat (first | (refine walkR_still (v := ?_) rfl (by decide +kernel) rfl (fun _ _ _ h => h) hE3 ?_ ?_; rotate_left; (focus (intro w' hw'; skip; go_simp; all_goals (with_reducible rfl))); simp only [Act.put, List.setIfInBounds_toArray, List.set_cons_zero, List.set_cons_succ]) | (refine walkR_skip rfl (by decide +kernel) rfl (fun _ _ _ h => h) hE3 ?_; simp only [Act.put, List.setIfInBounds_toArray, List.set_cons_zero, List.set_cons_succ])))
        (refine walkR_only (fun w' => Ext wr w') rfl (by decide +kernel) rfl ?_ ?_)
        · exact fun _ h => h
        intro K hK
        go_simp
        refine hK _ _ (hE3.trans (Ext.alloc w3 (.cells #[.slice a1 W.length W.length, .int .i64 Ln] 104))) ?_
        clear hK K hE3
        (try simp only [Act.put, List.setIfInBounds_toArray, List.set_cons_zero, List.set_cons_succ])
        (refine walkR_tail (by rfl) (by kernel_rfl) ?_; simp only [List.drop_succ_cons, List.drop_zero])
        go_wp2_with (at_builtin; refine wpList_append_elem2 stepK 53 (.agg #[.slice none 0 0, .int .i64 0]) 32 rfl (.tmp 19) (.tmp 32) rfl Tryz.underlying53 Tryz.info104 rfl (by omega) w.heap.size _ (some ⟨g, 0, none⟩) j co hs _ rfl HO3.out w3.heap.size 1 (a1, W.length) (negW W, Ln) rfl HCe.out HI4.out HAp.out.1 HAp.out.2 (by omega) (Nat.le_trans HX.out.size HE3.out.size) ?_; intro a4 c4 w4 ho4 hg4 _; have HX4 := hidP (Below.own (HX.out.trans HE3.out) hg4 (HX.out.trans HE3.out).size (fun b o e => by have := HO.out.base_lt b o e; omega) HO3.out.addr); rw [← HTk.out] at ho4; have HO4 := hidP ho4; clear ho4 hg4)
        obtain ⟨g4, rfl⟩ : ∃ g4, a4 = some ⟨g4, 0, none⟩ := by
          rcases HO4.out.form with ⟨_, h0, _⟩ | ⟨g4, _, e4, _⟩
          · omega
          · exact ⟨g4, e4⟩
        go_roundw
        case rel => exact ⟨j + 1, g4, c4, _, by omega, rfl, by have := HKJ.out; simp only [Value.int.injEq, true_and] <;> omega, HO4, HX4⟩
        case measure => simp [intOf] <;> (have := HKJ.out; omega)
      · obtain rfl : n = j := by omega
        have HT : Hid ((mirS us).take n = mirS us) := List.take_of_length_le (by rw [mirS_length, hnl]; exact Nat.le_refl _)
        have hneg : ¬ (0 ≤ (n : Int) - 1 - n) := by omega
        have hn1 : (n : Int) - 1 - n = -1 := by omega
        rw [hn1]
        clear hneg hn1
        go_wp2
        go_ret
        exact ⟨some ⟨g, 0, none⟩, n, co, hs, rfl, by rw [HR.out, ← HT.out]; exact HO.out, HX.out⟩
theorem plusV_dbl (W : List Int) : plusV W 1 W = dblL W := by
  refine ints_ext (by rw [plusV_length, dblL_length]) fun j hj => ?_
  rw [plusV_length] at hj
  rw [plusV_get _ _ _ _ hj, dblL_getD]
  omega
theorem dblT_take (us : List Tm) {k : Nat} (hk : k < us.length) : (dblT us).take (k + 1) = (dblT us).take k ++ [(dblL (wayAt us k), lenAt us k)] := by
  unfold dblT
  rw [← List.map_take, ← List.map_take]
  exact mapT_take dblL us hk
set_option maxRecDepth 100000 in
set_option maxHeartbeats 4000000 in
theorem l8Double_any {R : Nat} (a : Option Addr) (n c : Nat) (us : List Tm) (w : World) (h : StepsAt w a n us) (hR4 : R ≤ 4) (hP : ChrP R us) :
    Calls Tryz.prog 96 #[.slice a n c] w fun e w' => ∃ g c' hs, e = .returned (.slice (some ⟨g, 0, none⟩) n c') ∧ OwnK stepK w' w.heap.size w'.heap.size (some ⟨g, 0, none⟩) n c' hs (dblT us) ∧ Ext w w' := by
  have H := hidP h
  have HP1 := hidP hP
  have hnl := h.len
  have hn4 := hP.len
  have HM0 : Hid (OwnK stepK (w.alloc (.cells #[] 104)) w.heap.size (w.alloc (.cells #[] 104)).heap.size (some ⟨w.heap.size, 0, none⟩) 0 0 [] []) := OwnK.made0 stepK w
  have HX0 := hidP (Ext.alloc w (.cells #[] 104))
  clear h hP
  go_enter Tryz.func96, Tryz.ntmps96
  go_wp2
  go_loopw [3, 4] (fun out i wr => ∃ (j g co : Nat) (hs : List Hdr), j ≤ n ∧ out = .slice (some ⟨g, 0, none⟩) j co ∧ i = .int .i64 j ∧ Hid (OwnK stepK wr w.heap.size wr.heap.size (some ⟨g, 0, none⟩) j co hs ((dblT us).take j)) ∧ Hid (Ext w wr)) (fun _ i _ => n - (intOf i).toNat)
  case atStart => exact ⟨0, _, _, [], Nat.zero_le _, rfl, rfl, HM0, HX0⟩
  case round =>
    obtain ⟨j, g, co, hs, hj, rfl, rfl, HO, HX⟩ := hrel
    by_cases hlt : j < n
    · obtain ⟨b0, o, aw, cw, W, Ln, rfl, HW, HL, hwl, HNl, hq⟩ := (H.out.below HX.out).way j hlt
      have HQ := hidP hq
      have hat := HP1.out.at hR4 (k := j) (by omega)
      rw [HW.out] at hat
      have HTk : Hid ((dblT us).take (j + 1) = (dblT us).take j ++ [(dblL W, Ln)]) := by
        show _ = _
        rw [dblT_take us (by omega), HW.out, HL.out]
      have HMn := hidP (fun w' (hx : Ext wr w') => l5Plus_any aw W.length cw W 1 aw W.length cw W w' (HQ.out w' hx).2.2 HNl.out (by omega) (HQ.out w' hx).2.2 rfl (fun q hq => by have := hat.2.1 q (by omega); omega))
      rw [plusV_dbl] at HMn
      have hNl : Hid ((dblL W).length = W.length) := dblL_length W
      have hE : Ext wr wr.drew := Ext.drew wr
      clear hq hat
      go_wp2
      (refine walkR_start (fun w' => Ext wr w') 19 (by kernel_rfl) ?_; simp only [numbered, List.take_succ_cons, List.take_zero, Nat.zero_add, Nat.reduceAdd, List.length_cons, List.length_nil])
      (repeat (first | (refine walkR_still (v := ?_) rfl (by decide +kernel) rfl (fun _ _ _ h => h) hE ?_ ?_; rotate_left; (focus (intro w' hw'; obtain ⟨q1, q2, _⟩ := HQ.out w' hw'; go_simp; all_goals (with_reducible rfl))); simp only [Act.put, List.setIfInBounds_toArray, List.set_cons_zero, List.set_cons_succ]) | (refine walkR_skip rfl (by decide +kernel) rfl (fun _ _ _ h => h) hE ?_; simp only [Act.put, List.setIfInBounds_toArray, List.set_cons_zero, List.set_cons_succ])))
      (refine walkR_later ?_; simp only [List.cons_append, List.nil_append])
      (repeat (first | (refine walkR_still (v := ?_) rfl (by decide +kernel) rfl (fun _ _ _ h => h) hE ?_ ?_; rotate_left; (focus (intro w' hw'; obtain ⟨q1, q2, _⟩ := HQ.out w' hw'; go_simp; all_goals (with_reducible rfl))); simp only [Act.put, List.setIfInBounds_toArray, List.set_cons_zero, List.set_cons_succ]) | (refine walkR_skip rfl (by decide +kernel) rfl (fun _ _ _ h => h) hE ?_; simp only [Act.put, List.setIfInBounds_toArray, List.set_cons_zero, List.set_cons_succ])))
      (refine walkR_later ?_; simp only [List.cons_append, List.nil_append]); (refine walkR_later ?_; simp only [List.cons_append, List.nil_append])
      (refine walkR_only (fun w' => Ext wr w') rfl (by decide +kernel) rfl (fun _ h => h) ?_; intro K hK; go_simp; refine (HMn.out _ hE).mono ?_; rintro e w3 ⟨a1, c1, rfl, ho1, hx1⟩; refine hK _ _ (hE.trans hx1) ?_; clear hK K; (try simp only [Act.put, List.setIfInBounds_toArray, List.set_cons_zero, List.set_cons_succ]))
      have hE3 := hE.trans hx1
      have HE3 := hidP (hE3.trans (Ext.alloc w3 (.cells #[.slice a1 W.length c1, .int .i64 Ln] 104)))
      have HO3 := hidP (HO.out.below HE3.out)
      have HI3 := hidP (ho1.below (Ext.alloc w3 (.cells #[.slice a1 W.length c1, .int .i64 Ln] 104)))
      have HAp := hidP (HO.out.new_apart ho1 hE.size)
      have HB3 : Hid (w.heap.size ≤ wr.drew.heap.size) := Nat.le_trans HX.out.size hE.size
      have HI4 : Hid (OwnI (w3.alloc (.cells #[.slice a1 W.length c1, .int .i64 Ln] 104)) w.heap.size a1 (dblL W).length c1 (dblL W)) := by
        show OwnI _ _ _ _ _ _
        rw [hNl.out]
        exact HI3.out.base HB3.out
      have HCe : Hid (∀ q, q < stepK.size → (w3.alloc (.cells #[.slice a1 W.length c1, .int .i64 Ln] 104)).cell? ⟨w3.heap.size, q, none⟩ = (stepK.cells a1 c1 (dblL W, Ln))[q]?) := fun q _ => (cell_top _ _ _ _ _ rfl).trans (by simp [stepK, hNl.out])
      clear ho1 hx1 hE
      (repeat (first | (refine walkR_still (v := ?_) rfl (by decide +kernel) rfl (fun _ _ _ h => h) hE3 ?_ ?_; rotate_left; (focus (intro w' hw'; skip; go_simp; all_goals (with_reducible rfl))); simp only [Act.put, List.setIfInBounds_toArray, List.set_cons_zero, List.set_cons_succ]) | (refine walkR_skip rfl (by decide +kernel) rfl (fun _ _ _ h => h) hE3 ?_; simp only [Act.put, List.setIfInBounds_toArray, List.set_cons_zero, List.set_cons_succ])))
      (refine walkR_only (fun w' => Ext wr w') rfl (by decide +kernel) rfl ?_ ?_)
      · exact fun _ h => h
      intro K hK
      go_simp
      refine hK _ _ (hE3.trans (Ext.alloc w3 (.cells #[.slice a1 W.length c1, .int .i64 Ln] 104))) ?_
      clear hK K hE3
      (try simp only [Act.put, List.setIfInBounds_toArray, List.set_cons_zero, List.set_cons_succ])
      (refine walkR_tail (by rfl) (by kernel_rfl) ?_; simp only [List.drop_succ_cons, List.drop_zero])
      go_wp2_with (at_builtin; refine wpList_append_elem2 stepK 53 (.agg #[.slice none 0 0, .int .i64 0]) 32 rfl (.tmp 12) (.tmp 30) rfl Tryz.underlying53 Tryz.info104 rfl (by omega) w.heap.size _ (some ⟨g, 0, none⟩) j co hs _ rfl HO3.out w3.heap.size 1 (a1, c1) (dblL W, Ln) rfl HCe.out HI4.out HAp.out.1 HAp.out.2 (by omega) (Nat.le_trans HX.out.size HE3.out.size) ?_; intro a4 c4 w4 ho4 hg4 _; have HX4 := hidP (Below.own (HX.out.trans HE3.out) hg4 (HX.out.trans HE3.out).size (fun b o e => by have := HO.out.base_lt b o e; omega) HO3.out.addr); rw [← HTk.out] at ho4; have HO4 := hidP ho4; clear ho4 hg4)
      obtain ⟨g4, rfl⟩ : ∃ g4, a4 = some ⟨g4, 0, none⟩ := by
        rcases HO4.out.form with ⟨_, h0, _⟩ | ⟨g4, _, e4, _⟩
        · omega
        · exact ⟨g4, e4⟩
      go_roundw
      case rel => exact ⟨j + 1, g4, c4, _, by omega, rfl, by go_num, HO4, HX4⟩
      case measure => simp [intOf]; omega
    · obtain rfl : n = j := by omega
      have HT : Hid ((dblT us).take n = dblT us) := List.take_of_length_le (by rw [dblT_length]; omega)
      go_wp2
      go_ret
      exact ⟨g, co, hs, rfl, by rw [← HT.out]; exact HO.out, HX.out⟩
set_option maxHeartbeats 1000000 in
theorem l8Give_any (R : Nat) (ta : Option Addr) (tn tc : Nat) (a : Option Addr) (n c : Nat) (T : List Tm) (w : World) (h : TermsAt w a n T) (hn : n ≤ 9223372036854775807) (hR : R ≤ 1000000) :
    Calls Tryz.prog 95 #[carV R ta tn tc, .slice a n c] w fun e w' => e = .returned (if chrB R T then .tuple #[.slice a n c, .bool true] else .tuple #[.slice none 0 0, .bool false]) ∧ Ext w w' := by
  have hx1 := Ext.alloc w (.cells #[.int .i64 R, .slice ta tn tc] 55)
  obtain ⟨f0, f1⟩ := CarAt.new w _ rfl (R : Int) ta tn tc 55
  have HL := hidP (l8Ok_any R ta tn tc a n c T _ (h.below hx1) hn hR)
  have HX1 := hidP hx1
  clear h hx1
  cases hb : chrB R T
  · rw [hb] at HL
    clear hb
    go_enter Tryz.func95, Tryz.ntmps95
    go_wp2_with fail
    refine HL.out.mono ?_
    rintro e w2 ⟨rfl, hx⟩
    have HX := hidP (HX1.out.trans hx)
    clear hx
    go_wp2
    refine bodyPost_ret (v := .tuple #[.slice none 0 0, .bool false]) (by simp [results, Tryz.results95, go_sem]) rfl ⟨rfl, HX.out⟩
  · rw [hb] at HL
    clear hb
    go_enter Tryz.func95, Tryz.ntmps95
    go_wp2_with fail
    refine HL.out.mono ?_
    rintro e w2 ⟨rfl, hx⟩
    have HX := hidP (HX1.out.trans hx)
    clear hx
    go_wp2
    refine bodyPost_ret (v := .tuple #[.slice a n c, .bool true]) (by simp [results, Tryz.results95, go_sem]) rfl ⟨rfl, HX.out⟩

set_option maxRecDepth 100000 in
set_option maxHeartbeats 4000000 in
theorem sDoubleCharacter_any (r : Int) (ta : Option Addr) (tn tc : Nat) (ts : List Int) (a : Option Addr) (n c : Nat) (us : List Tm) (w : World) (hc : IntsAt w ta tn ts) (hcn : tn ≤ 9223372036854775807)
    (h : StepsAt w a n us) (hn : n ≤ 9223372036854775807) : PathRes 44 #[carV r ta tn tc, .slice a n c] w (doubleR r ts us) := by
  unfold PathRes
  have hx1 := Ext.alloc w (.cells #[.int .i64 r, .slice ta tn tc] 55)
  have HC := hidP (fun w' (hx : Ext (w.alloc (.cells #[.int .i64 r, .slice ta tn tc] 55)) w') => (CarAt.new w _ rfl r ta tn tc 55).below hx)
  have HX1 := hidP hx1
  have H := hidP h
  have HP := hidP (sCharacterOk_any r ta tn tc ts a n c us _ (hc.below hx1) hcn (h.below hx1).terms hn)
  clear hc h hx1
  obtain ⟨w1, hw1⟩ : ∃ w1, w1 = w.alloc (.cells #[.int .i64 r, .slice ta tn tc] 55) := ⟨_, rfl⟩
  rw [← hw1] at HC HX1 HP
  obtain ⟨f0, f1⟩ := HC.out w1 (Ext.refl w1)
  cases hT : (typeB r ts && chrB r.toNat us)
  · have HR : Hid (doubleR r ts us = (false, [])) := by
      show _ = _
      unfold doubleR
      rw [hT]
      rfl
    rw [hT] at HP
    clear hT
    go_enter Tryz.func44, Tryz.ntmps44
    go_wp2_with fail
    rw [← hw1]
    clear hw1
    refine HP.out.mono ?_
    rintro e w2 ⟨rfl, hx⟩
    have HX := hidP hx
    clear hx
    go_wp2
    refine bodyPost_ret (v := .tuple #[.slice none 0 0, .bool false]) (by simp [results, Tryz.results44, go_sem]) rfl ⟨none, 0, 0, [], by rw [HR.out], ?_, HX1.out.trans HX.out⟩
    rw [HR.out]
    exact OwnK.nil stepK _ _ _
  · have HR : Hid (doubleR r ts us = chrR r.toNat (dblT us)) := by
      show _ = _
      unfold doubleR
      rw [hT]
      rfl
    rw [hT] at HP
    have hT2 : typeB r ts = true := by
      simp only [Bool.and_eq_true] at hT
      exact hT.1
    have hP1 : chrB r.toNat us = true := by
      simp only [Bool.and_eq_true] at hT
      exact hT.2
    obtain ⟨hr1, hr4, _⟩ := typeB_rank hT2
    obtain ⟨R, rfl⟩ : ∃ R : Nat, r = R := ⟨r.toNat, by omega⟩
    rw [Int.toNat_natCast] at hP1
    have hR4 : R ≤ 4 := by omega
    have HP1 := hidP (chrB_iff.1 hP1)
    have HT2 := hidP hT2
    clear hT hT2 hP1 hr1 hr4
    have hnl := H.out.len
    have hn4 := HP1.out.len
    go_enter Tryz.func44, Tryz.ntmps44
    go_wp2_with fail
    rw [← hw1]
    clear hw1 f0 f1
    refine HP.out.mono ?_
    rintro e w2 ⟨rfl, hx⟩
    have HX2 := hidP (HX1.out.trans hx)
    have HC2 := hidP (HC.out w2 hx)
    have HDb := hidP (fun w' (hx : Ext w2 w') => l8Double_any a n c us w' (H.out.below (HX2.out.trans hx)) hR4 HP1.out)
    have HCr := hidP (fun w' (hx : Ext w2 w') => HC2.out.below hx)
    have hE : Ext w2 w2.drew := Ext.drew w2
    clear hx HC HP
    go_wp2
    (refine walkR_start (fun w' => Ext w2 w') 8 (by kernel_rfl) ?_; simp only [numbered, List.take_succ_cons, List.take_zero, Nat.zero_add, Nat.reduceAdd, List.length_cons, List.length_nil])
    (repeat (first | (refine walkR_still (v := ?_) rfl (by decide +kernel) rfl (fun _ _ _ h => h) hE ?_ ?_; rotate_left; (focus (intro w' hw'; obtain ⟨f0, f1⟩ := HCr.out w' hw'; go_simp; all_goals (with_reducible rfl))); simp only [Act.put, List.setIfInBounds_toArray, List.set_cons_zero, List.set_cons_succ]) | (refine walkR_skip rfl (by decide +kernel) rfl (fun _ _ _ h => h) hE ?_; simp only [Act.put, List.setIfInBounds_toArray, List.set_cons_zero, List.set_cons_succ])))
    (refine walkR_only (fun w' => Ext w2 w') rfl (by decide +kernel) rfl (fun _ h => h) ?_; intro K hK; go_simp; refine (HDb.out _ hE).mono ?_; rintro e w3 ⟨g3, c3, hs3, rfl, ho3, hx3⟩; refine hK _ _ (hE.trans hx3) ?_; clear hK K; (try simp only [Act.put, List.setIfInBounds_toArray, List.set_cons_zero, List.set_cons_succ]))
    have hE3 := hE.trans hx3
    have HX3 := hidP (HX2.out.trans hE3)
    have HGv := hidP (l8Give_any R ta tn tc (some ⟨g3, 0, none⟩) n c3 (dblT us) w3 ho3.termsAt (by omega) (by omega))
    have HO3 := hidP (ho3.weaken (B' := w.heap.size) (Nat.le_trans HX2.out.size hE.size) (Nat.le_refl _))
    clear ho3 hx3 hE
    cases hb : chrB R (dblT us)
    · rw [hb, if_neg Bool.false_ne_true] at HGv
      have hJ : Hid (doubleR R ts us = (false, [])) := by
        show _ = _
        rw [HR.out]
        unfold chrR
        rw [Int.toNat_natCast, hb]
        rfl
      clear hb
      (refine walkR_only (fun w' => Ext w2 w') rfl (by decide +kernel) rfl (fun _ h => h) ?_; intro K hK; go_simp; refine (HGv.out).mono ?_; rintro e w4 ⟨rfl, hx4⟩; refine hK _ _ (hE3.trans hx4) ?_; clear hK K; (try simp only [Act.put, List.setIfInBounds_toArray, List.set_cons_zero, List.set_cons_succ]))
      have hE4 := hE3.trans hx4
      (repeat (first | (refine walkR_still (v := ?_) rfl (by decide +kernel) rfl (fun _ _ _ h => h) hE4 ?_ ?_; rotate_left; (focus (intro w' hw'; skip; go_simp; all_goals (with_reducible rfl))); simp only [Act.put, List.setIfInBounds_toArray, List.set_cons_zero, List.set_cons_succ]) | (refine walkR_skip rfl (by decide +kernel) rfl (fun _ _ _ h => h) hE4 ?_; simp only [Act.put, List.setIfInBounds_toArray, List.set_cons_zero, List.set_cons_succ])))
      (refine walkR_tail (by rfl) (by kernel_rfl) ?_; simp only [List.drop_succ_cons, List.drop_zero])
      have HX4 := hidP (HX2.out.trans hE4)
      clear hx4 hE3 hE4
      go_wp2
      refine bodyPost_ret (v := .tuple #[.slice none 0 0, .bool false]) (by simp [results, Tryz.results44, go_sem]) rfl ⟨none, 0, 0, [], by rw [hJ.out], ?_, HX4.out⟩
      rw [hJ.out]
      exact OwnK.nil stepK _ _ _
    · rw [hb, if_pos rfl] at HGv
      have hJ : Hid (doubleR R ts us = (true, dblT us)) := by
        show _ = _
        rw [HR.out]
        unfold chrR
        rw [Int.toNat_natCast, hb]
        rfl
      clear hb
      (refine walkR_only (fun w' => Ext w2 w') rfl (by decide +kernel) rfl (fun _ h => h) ?_; intro K hK; go_simp; refine (HGv.out).mono ?_; rintro e w4 ⟨rfl, hx4⟩; refine hK _ _ (hE3.trans hx4) ?_; clear hK K; (try simp only [Act.put, List.setIfInBounds_toArray, List.set_cons_zero, List.set_cons_succ]))
      have hE4 := hE3.trans hx4
      (repeat (first | (refine walkR_still (v := ?_) rfl (by decide +kernel) rfl (fun _ _ _ h => h) hE4 ?_ ?_; rotate_left; (focus (intro w' hw'; skip; go_simp; all_goals (with_reducible rfl))); simp only [Act.put, List.setIfInBounds_toArray, List.set_cons_zero, List.set_cons_succ]) | (refine walkR_skip rfl (by decide +kernel) rfl (fun _ _ _ h => h) hE4 ?_; simp only [Act.put, List.setIfInBounds_toArray, List.set_cons_zero, List.set_cons_succ])))
      (refine walkR_tail (by rfl) (by kernel_rfl) ?_; simp only [List.drop_succ_cons, List.drop_zero])
      have HX4 := hidP (HX2.out.trans hE4)
      have HO4 := hidP ((HO3.out.below hx4).weaken (Nat.le_refl _) hx4.size)
      clear hx4 hE3 hE4
      go_wp2
      refine bodyPost_ret (v := .tuple #[.slice (some ⟨g3, 0, none⟩) n c3, .bool true]) (by simp [results, Tryz.results44, go_sem]) rfl ⟨some ⟨g3, 0, none⟩, n, c3, hs3, by rw [hJ.out], ?_, HX4.out⟩
      rw [hJ.out]
      exact HO4.out
end Go.Proofs.YtnfbfdamlnjblaaGreatDoor

namespace Go.Proofs.YtnfbfdamlnjblaaGreatDoor
open Go.RowKit

def SmallL (J : List Tm) : Prop := J.length ≤ 400 ∧ ∀ k, k < J.length → (J.getD k ([], 0)).1.length ≤ 4
theorem terms_small {J : List Tm} (h : SmallL J) {n : Nat} (hn : J.length = n) : mkAt J n ≤ 10000000 := by
  subst hn
  have := mkAt_bound J 4 J.length h.2
  have := h.1
  omega
theorem termsJ_small {J1 : Bool} {J2 : List Tm} (h : SmallL (J1, J2).2) {n : Nat} (hn : J2.length = n) : mkAt J2 n ≤ 10000000 := terms_small h hn
theorem SmallL.nil : SmallL [] := ⟨by simp, fun k hk => by simp at hk⟩
theorem ChrP.smallL {r : Nat} {us : List Tm} (h : ChrP r us) (hr : r ≤ 4) : SmallL us := ⟨h.len, fun k hk => by
  have := (h.at hr hk).1
  unfold wayAt at this
  omega⟩
theorem chrR_small {r : Nat} (hr : r ≤ 4) (T : List Tm) : SmallL (chrR r T).2 := by
  unfold chrR
  split
  · rename_i h
    exact (chrB_iff.1 h).smallL hr
  · exact SmallL.nil
theorem dualR_small (r : Int) (ts : List Int) (us : List Tm) : SmallL (dualR r ts us) := by
  unfold dualR
  split
  · rename_i h
    simp only [Bool.and_eq_true] at h
    have := typeB_rank h.1
    exact (dual_chr (chrB_iff.1 h.2)).smallL (by omega)
  · exact SmallL.nil
theorem doubleR_small (r : Int) (ts : List Int) (us : List Tm) : SmallL (doubleR r ts us).2 := by
  unfold doubleR
  split
  · rename_i h
    simp only [Bool.and_eq_true] at h
    have := typeB_rank h.1
    exact chrR_small (by omega) _
  · exact SmallL.nil
end Go.Proofs.YtnfbfdamlnjblaaGreatDoor
