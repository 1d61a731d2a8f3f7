/-
  An owned slice of structs is sorted by the library: what the sort asks of it, what it leaves.
-/
import Derived.Test.YtcfgcacmmmhjcaaGreatDoorStp
import Derived.Shelf.SlSortCmp.WholeK
import Derived.Lib.OwnBridge
namespace Go.Proofs.YtcfgcacmmmhjcaaGreatDoor
open Go.RowKit Go.Sort Go.Shelf

theorem ownsRow_put {w : World} {B : Nat} {e : TypeId} {g n c q size : Nat} {vs ys : List Value} (h : w.ownsRow B e size (.slice (some ⟨g, 0, none⟩) n c) n vs) (hy : ys.length = n * size) :
    (putRow id (Sort.ahead w q) g 0 ys.toArray).ownsRow B e size (.slice (some ⟨g, 0, none⟩) n c) n ys := by
  rcases h.2 with ⟨e0, _⟩ | ⟨g', cap', cur, e0, hb, hg, hn, hm, hs, ht⟩
  · cases e0
  · injection e0 with e1 _ e3
    injection e1 with e1
    injection e1 with e1
    subst e1; subst e3
    have hsz : n * size ≤ cur.size := by rw [hs]; exact Nat.mul_le_mul_right _ hn
    refine ⟨hy, .inr ⟨g, c, putCells id 0 ys.toArray cur, rfl, hb, ?_, hn, hm, by simpa [putCells] using hs, ?_⟩⟩
    · simp [putRow, mapBlock, Sort.ahead, Array.getElem?_modify, hg, onCells]
    · apply List.ext_getElem?
      intro j
      rw [List.getElem?_take, Array.getElem?_toList]
      by_cases hj : j < n * size
      · have hjc : j < cur.size := by omega
        simp only [if_pos hj, putCells, Array.getElem?_mapIdx, Array.getElem?_eq_getElem hjc, Option.map_some]
        rw [if_pos (by simp; omega), List.getElem?_eq_getElem (by omega)]
        simp [getElem!_pos, show j < ys.length by omega]
      · rw [if_neg hj, List.getElem?_eq_none (by omega)]

variable {α : Type}
theorem flat_all {β : Type} [Inhabited β] (K : Knd α) (val : β → Hdr × α) (d : Array β) :
    (flatK (fun b => K.cells (val b).1.1 (val b).1.2 (val b).2) K.size d).toList = K.all (d.toList.map fun b => (val b).1) (d.toList.map fun b => (val b).2) := by
  have hl := K.all_length (d.toList.map fun b => (val b).1) (d.toList.map fun b => (val b).2) (by simp)
  simp only [List.length_map, Array.length_toList] at hl
  apply List.ext_getElem?
  intro t
  by_cases ht : t < d.size * K.size
  · have hp : 0 < K.size := K.pos
    have h1 : t / K.size < d.size := (Nat.div_lt_iff_lt_mul hp).2 ht
    have h2 : t % K.size < K.size := Nat.mod_lt _ hp
    have h3 := K.all_get (d.toList.map fun b => (val b).1) (d.toList.map fun b => (val b).2) (by simp) (t / K.size) (t % K.size) (by simpa using h1) h2
    rw [show t / K.size * K.size + t % K.size = t by rw [Nat.mul_comm]; exact Nat.div_add_mod t K.size] at h3
    rw [h3]
    have h4 := get_flatK (fun b => K.cells (val b).1.1 (val b).1.2 (val b).2) K.size d t ht
    have h5 : t < (flatK (fun b => K.cells (val b).1.1 (val b).1.2 (val b).2) K.size d).size := by rw [size_flatK]; exact ht
    rw [getElem!_pos (flatK (fun b => K.cells (val b).1.1 (val b).1.2 (val b).2) K.size d) t h5] at h4
    rw [Array.getElem?_toList, Array.getElem?_eq_getElem h5, h4]
    have e1 : d[t / K.size]! = d[t / K.size] := getElem!_pos d (t / K.size) h1
    rw [e1]
    have g1 : (d.toList.map fun b => (val b).1).getD (t / K.size) (none, 0) = (val d[t / K.size]).1 := by simp [List.getD_eq_getElem?_getD, h1]
    have g2 : (d.toList.map fun b => (val b).2).getD (t / K.size) K.dft = (val d[t / K.size]).2 := by simp [List.getD_eq_getElem?_getD, h1]
    rw [g1, g2]
    have h6 : t % K.size < (K.cells (val d[t / K.size]).1.1 (val d[t / K.size]).1.2 (val d[t / K.size]).2).length := by rw [K.len]; exact h2
    rw [List.getElem?_eq_getElem h6, getElem!_pos (K.cells (val d[t / K.size]).1.1 (val d[t / K.size]).1.2 (val d[t / K.size]).2) (t % K.size) h6]
  · rw [List.getElem?_eq_none (by rw [Array.length_toList, size_flatK]; omega), List.getElem?_eq_none (by omega)]

theorem OwnK.permuted {K : Knd α} {w w' : World} {B U : Nat} {n c g : Nat} {hs hs' : List Hdr} {xs xs' : List α} (h : OwnK K w B U (some ⟨g, 0, none⟩) n c hs xs)
    (hr : w'.ownsRow B K.E K.size (.slice (some ⟨g, 0, none⟩) n c) n (K.all hs' xs')) (hg : w.grownBy w' (some g)) (hl : hs'.length = n) (xl : xs'.length = n) (hp : (hs'.zip xs').Perm (hs.zip xs)) : OwnK K w' B U (some ⟨g, 0, none⟩) n c hs' xs' := by
  have hhl := h.hl
  have hxl := h.xl
  have hz : ∀ i, i < n → (hs'.getD i (none, 0), xs'.getD i K.dft) ∈ hs.zip xs := fun i hi => by
    refine hp.mem_iff.1 ?_
    rw [List.mem_iff_getElem]
    refine ⟨i, by simp; omega, ?_⟩
    simp [List.getD_eq_getElem?_getD, List.getElem?_eq_getElem (show i < hs'.length by omega), List.getElem?_eq_getElem (show i < xs'.length by omega)]
  have hback : ∀ i, i < n → ∃ j, j < n ∧ hs.getD j (none, 0) = hs'.getD i (none, 0) ∧ xs.getD j K.dft = xs'.getD i K.dft := fun i hi => by
    obtain ⟨j, hj, e⟩ := List.mem_iff_getElem.1 (hz i hi)
    simp only [List.length_zip] at hj
    simp only [List.getElem_zip, Prod.mk.injEq] at e
    refine ⟨j, by omega, ?_, ?_⟩
    · rw [← e.1]; simp [List.getD_eq_getElem?_getD, show j < hs.length by omega]
    · rw [← e.2]; simp [List.getD_eq_getElem?_getD, show j < xs.length by omega]
  have hpw : hs'.Pairwise fun a b => Apart a.1 b.1 := by
    have h1 : hs.Pairwise fun a b => Apart a.1 b.1 := by
      rw [List.pairwise_iff_getElem]
      intro i j hi hj hij
      have := h.apart i j (by omega) (by omega) (by omega)
      simpa [List.getD_eq_getElem?_getD, hi, hj] using this
    have h2 : (hs.zip xs).Pairwise fun a b => Apart a.1.1 b.1.1 := by
      have : ((hs.zip xs).map Prod.fst).Pairwise fun a b => Apart a.1 b.1 := by rw [List.map_fst_zip (by omega)]; exact h1
      rw [List.pairwise_map] at this
      exact this
    have h3 := (hp.pairwise_iff (fun {a b} (hab : Apart a.1.1 b.1.1) => hab.symm)).2 h2
    have h4 : ((hs'.zip xs').map Prod.fst).Pairwise fun a b => Apart a.1 b.1 := by rw [List.pairwise_map]; exact h3
    rwa [List.map_fst_zip (by omega)] at h4
  refine ⟨hr, hl, xl, fun i hi => ?_, fun i j hi hj hne => ?_, fun i hi b o e => ?_, h.olt⟩
  · obtain ⟨j, hj, e1, e2⟩ := hback i hi
    rw [← e1, ← e2]
    exact (h.each j hj).grown hg fun b o e' => by
      have := h.far j hj g 0 b o rfl e'
      simp only [ne_eq, Option.some.injEq]
      omega
  · have hi' : i < hs'.length := by omega
    have hj' : j < hs'.length := by omega
    simp only [List.getD_eq_getElem?_getD, List.getElem?_eq_getElem hi', List.getElem?_eq_getElem hj', Option.getD_some]
    rcases Nat.lt_or_gt_of_ne hne with h1 | h1
    · exact List.pairwise_iff_getElem.1 hpw i j hi' hj' h1
    · exact (List.pairwise_iff_getElem.1 hpw j i hj' hi' h1).symm
  · obtain ⟨j, hj, e1, e2⟩ := hback i hi
    rw [← e1] at e
    exact h.lt j hj b o e

/-- what may stand in the slice while it is sorted: whatever reads in the world of the call, off the slice's own block -/
def SrtOk (K : Knd α) (w : World) (g : Nat) (x : Hdr × α) : Prop := IntsAt w x.1.1 (K.ints x.2).length (K.ints x.2) ∧ (K.ints x.2).length ≤ 9223372036854775807 ∧ ∀ b o, x.1.1 = some ⟨b, o, none⟩ → 0 < (K.ints x.2).length → b ≠ g ∧ b < w.heap.size
theorem SrtOk.later {K : Knd α} {w : World} {g : Nat} {x : Hdr × α} (h : SrtOk K w g x) (m : Nat) (F : Array Value) (os : Array Obj) : IntsAt (grow (putRow id (Sort.ahead w m) g 0 F) os) x.1.1 (K.ints x.2).length (K.ints x.2) := by
  refine ⟨h.1.len, fun i hi => ?_⟩
  obtain ⟨b, o, e, hc⟩ := h.1.get i hi
  obtain ⟨h1, h2⟩ := h.2.2 b o e (by omega)
  refine ⟨b, o, e, ?_⟩
  rw [cell?_grow _ os _ (by simpa using h2), cell?_putRow_other id _ g 0 F _ (Or.inl h1)]
  exact hc

/-- the sort, on an owned slice: what is read in it stands in order behind -/
theorem sort_owned {ρ : Ren} (L : SlLaysF0.n6 Tryz.prog ρ) (K : Knd α) (d0 : α) (h00 : K.ints d0 = []) (aE : ∀ w, (isAgg (ρ.t 24)).run Tryz.prog w = .ok true w) (zE : ∀ w, (Go.sizeOf (ρ.t 24)).run Tryz.prog w = .ok K.size w)
    (cf : α → α → Int) (hO : SWO (ltOf cf)) (g0 : Nat) (eg : ∀ args w, (callFunc g0 args).run Tryz.prog w = .ok (.enter g0 args) w)
    (hclo : ∀ (w' : World) (x y : Hdr × α), IntsAt w' x.1.1 (K.ints x.2).length (K.ints x.2) → IntsAt w' y.1.1 (K.ints y.2).length (K.ints y.2) → (K.ints x.2).length ≤ 9223372036854775807 → (K.ints y.2).length ≤ 9223372036854775807 → Calls Tryz.prog g0 #[.agg (K.cells x.1.1 x.1.2 x.2).toArray, .agg (K.cells y.1.1 y.1.2 y.2).toArray] w' fun e w'' => e = .returned (.int .i64 (cf x.2 y.2)) ∧ ∃ q os', w'' = grow (w'.drewN q) os')
    {w : World} {B U g n c : Nat} {hs : List Hdr} {xs : List α} (h : OwnK K w B U (some ⟨g, 0, none⟩) n c hs xs) (hn : n < 4611686018427387904) :
    Calls Tryz.prog (ρ.f 6) #[.slice (some ⟨g, 0, none⟩) n c, .func (.func g0) #[] #[]] w fun e w' => e = .returned (.tuple #[]) ∧
      ∃ hs' xs', OwnK K w' B U (some ⟨g, 0, none⟩) n c hs' xs' ∧ xs'.Perm xs ∧ (xs'.Pairwise fun x y => ltOf cf y x = false) ∧ w.grownBy w' (some g) := by
  have hhl := h.hl
  have hxl := h.xl
  have hall := K.all_length hs xs (hhl.trans hxl.symm)
  let β := {x : Hdr × α // SrtOk K w g x}
  have hd0 : SrtOk K w g ((none, 0), d0) := ⟨by rw [h00]; exact IntsAt.nil _ _, by rw [h00]; simp, fun b o e => by cases e⟩
  letI : Inhabited β := ⟨⟨((none, 0), d0), hd0⟩⟩
  let enc : β → List Value := fun b => K.cells b.1.1.1 b.1.1.2 b.1.2
  have hmem : ∀ x ∈ hs.zip xs, SrtOk K w g x := fun x hx => by
    obtain ⟨i, hi, e⟩ := List.mem_iff_getElem.1 hx
    simp only [List.length_zip] at hi
    have hin : i < n := by omega
    have ho := h.each i hin
    have hf := h.far i hin
    have g1 : hs.getD i (none, 0) = x.1 := by rw [← e]; simp [List.getD_eq_getElem?_getD, show i < hs.length by omega]
    have g2 : xs.getD i K.dft = x.2 := by rw [← e]; simp [List.getD_eq_getElem?_getD, show i < xs.length by omega]
    rw [g1, g2] at ho
    rw [g1] at hf
    refine ⟨ho.ints, ho.small, fun b o e' hp => ⟨fun e2 => hf g 0 b o rfl e' e2.symm, ?_⟩⟩
    have hi2 := ho.ints
    rw [e'] at hi2
    exact hi2.block_lt hp
  let l : List β := (hs.zip xs).attach.map fun x => ⟨x.1, hmem x.1 x.2⟩
  have hlv : l.map (·.1) = hs.zip xs := by
    show ((hs.zip xs).attach.map fun x => (⟨x.1, hmem x.1 x.2⟩ : β)).map (·.1) = _
    rw [List.map_map]
    exact List.attach_map_subtype_val _
  have hll : l.length = n := by simp [l]; omega
  let d : Array β := l.toArray
  have hds : d.size = n := by simp [d, hll]
  have hl1 : l.map (fun b => b.1.1) = hs := by
    rw [show (fun b : β => b.1.1) = Prod.fst ∘ (fun b : β => b.1) from rfl, ← List.map_map, hlv, List.map_fst_zip (by omega)]
  have hl2 : l.map (fun b => b.1.2) = xs := by
    rw [show (fun b : β => b.1.2) = Prod.snd ∘ (fun b : β => b.1) from rfl, ← List.map_map, hlv, List.map_snd_zip (by omega)]
  have hflat : (flatK enc K.size d).toList = K.all hs xs := by
    have := flat_all K (fun b : β => b.1) d
    rw [show d.toList = l from rfl, hl1, hl2] at this
    exact this
  obtain ⟨gb, cur, eb, hB, hgl, hgb, hnc, _⟩ : ∃ gb cur, (some (⟨g, 0, none⟩ : Addr)) = some ⟨gb, 0, none⟩ ∧ B ≤ gb ∧ gb < w.heap.size ∧ w.heap[gb]? = some (.cells cur K.E (0, 0)) ∧ n ≤ c ∧ True := by
    rcases h.form with ⟨e, _⟩ | ⟨gb, cur, e, h1, h2, h3, h4, _⟩
    · cases e
    · exact ⟨gb, cur, e, h1, h2, h3, h4, trivial⟩
  simp only [Option.some.injEq, Addr.mk.injEq, and_true] at eb
  subst eb
  have hH : HoldsK enc K.size w g 0 d := by
    intro j hj
    rw [size_flatK, hds] at hj
    have h3 := h.row.cellAt j hj
    have h5 : j < (flatK enc K.size d).size := by rw [size_flatK, hds]; exact hj
    refine ⟨?_, by simp [World.frozen?, hgb]⟩
    rw [Nat.zero_add, h3, ← hflat, Array.getElem?_toList, Array.getElem?_eq_getElem h5, getElem!_pos (flatK enc K.size d) j h5]
    rfl
  have hswo : SWO (ltOf fun x y : β => cf x.1.2 y.1.2) := ⟨fun x => hO.irrefl x.1.2, fun x y z => hO.trans x.1.2 y.1.2 z.1.2, fun x y z => hO.ntrans x.1.2 y.1.2 z.1.2⟩
  have hcmp : CmpLays Tryz.prog g0 #[] enc K.size (fun x y : β => cf x.1.2 y.1.2) g 0 d.size w := fun m os dk _ x y => by
    refine hclo _ x.1 y.1 ?_ ?_ x.2.2.1 y.2.2.1
    · exact x.2.later m _ os
    · exact y.2.later m _ os
  have hcon := AnyQ.slices_SortFunc L K.size aE zE enc (fun x => K.len _ _ _) (fun x => K.one _ _ _) (fun x y : β => cf x.1.2 y.1.2) hswo g0 #[] g 0 c d w eg hcmp hH hgl (by omega)
  rw [hds] at hcon
  refine hcon.mono ?_
  rintro e w' ⟨rfl, d', m, os, ⟨hps, _, hpp⟩, hsrt, rfl⟩
  rw [hds] at hps
  have hpe : d'.toList.Perm l := by
    have e1 : (d'.extract 0 n).toList = d'.toList := by simp [← hps]
    have e2 : (d.extract 0 n).toList = l := by rw [← hds]; simp [d]
    rwa [e1, e2] at hpp
  have hd'l : d'.toList.length = n := by rw [Array.length_toList]; exact hps
  have hflat' : (flatK enc K.size d').toList = K.all (d'.toList.map fun b => b.1.1) (d'.toList.map fun b => b.1.2) := flat_all K (fun b : β => b.1) d'
  have hal' := K.all_length (d'.toList.map fun b => b.1.1) (d'.toList.map fun b => b.1.2) (by simp)
  rw [List.length_map, hd'l] at hal'
  have hg : w.grownBy (sortWorldK enc K.size w g 0 m d' os) (some g) := by
    refine ⟨rfl, rfl, rfl, ?_, fun k hk hne => ?_⟩
    · simp [sortWorldK, putRowK, grow, putRow, mapBlock, Sort.ahead]
    · have hkg : g ≠ k := fun e => hne (by rw [e])
      have h1 : k < (putRowK enc K.size (Sort.ahead w m) g 0 d').heap.size := by simpa [putRowK, putRow, mapBlock, Sort.ahead] using hk
      rw [show sortWorldK enc K.size w g 0 m d' os = grow (putRowK enc K.size (Sort.ahead w m) g 0 d') os from rfl, heap_grow_old _ os h1]
      simp [putRowK, putRow, mapBlock, Sort.ahead, Array.getElem?_modify, hkg]
  have hr : (sortWorldK enc K.size w g 0 m d' os).ownsRow B K.E K.size (.slice (some ⟨g, 0, none⟩) n c) n (K.all (d'.toList.map fun b => b.1.1) (d'.toList.map fun b => b.1.2)) := by
    have h1 := ownsRow_put (q := m) (ys := (flatK enc K.size d').toList) h.row (by rw [hflat']; exact hal')
    rw [Array.toArray_toList, hflat'] at h1
    exact h1.kept (row := none) ⟨rfl, rfl, rfl, by show _ ≤ (_ ++ os).size; rw [Array.size_append]; exact Nat.le_add_right _ _, fun k hk _ => heap_grow_old _ os hk⟩ (.inr (by simp [Value.ownBlock]))
  refine ⟨rfl, d'.toList.map fun b => b.1.1, d'.toList.map fun b => b.1.2, h.permuted hr hg (by simp [hd'l]) (by simp [hd'l]) ?_, ?_, ?_, hg⟩
  · have h1 := hpe.map (fun b : β => b.1)
    rw [hlv] at h1
    rw [List.zip_map']
    exact h1
  · have h1 := hpe.map (fun b : β => b.1.2)
    rwa [hl2] at h1
  · rw [List.pairwise_map, List.pairwise_iff_getElem]
    intro i j hi hj hij
    have h1 := hsrt i j (Nat.zero_le _) hij (by rw [← hd'l]; exact hj)
    have hi' : i < d'.size := by simpa using hi
    have hj' : j < d'.size := by simpa using hj
    rw [getElem!_pos d' i hi', getElem!_pos d' j hj'] at h1
    exact h1
end Go.Proofs.YtcfgcacmmmhjcaaGreatDoor
