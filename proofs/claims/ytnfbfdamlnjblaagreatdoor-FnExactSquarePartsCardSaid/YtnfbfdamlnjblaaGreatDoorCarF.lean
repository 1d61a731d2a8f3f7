/-
  CartanOf of the program, at the names of types.
-/
import Derived.Test.YtnfbfdamlnjblaaGreatDoorCarB
import Derived.Test.YtnfbfdamlnjblaaGreatDoorCarC
import Derived.Test.YtnfbfdamlnjblaaGreatDoorCarD
namespace Go.Proofs.YtnfbfdamlnjblaaGreatDoor
open Go.RowKit

def joinN (ks : List Nat) : ByteArray := str (Lib.join ((rowS ks).map (·.data.toList)) [43])
theorem split_all : ∀ ks ∈ allTypes, Lib.splitB ⟨#[43]⟩ 0 (Lib.countB (joinN ks) ⟨#[43]⟩) (joinN ks) = rowS ks ∧ Lib.countB (joinN ks) ⟨#[43]⟩ + 1 = ks.length ∧ (joinN ks).size ≤ 20 ∧ 1 ≤ (joinN ks).size := by decide +kernel

theorem Tryz.info55 : (Tryz.prog.info? 55).map (fun i => (i.zero, i.size, i.bytes)) = some (some (.agg #[.int .i64 0, .slice none 0 0]), 2, 32) := by kernel_rfl
/-- internal/bytealg.MaxLen holds some number -/
def MaxL (w : World) : Prop := ∃ m, w.cell? ⟨0, 0, none⟩ = some (.int .i64 m)
theorem MaxL.below {w w' : World} (h : MaxL w) (hx : Ext w w') : MaxL w' := by
  obtain ⟨m, hm⟩ := h
  exact ⟨m, (hx.cell (p := ⟨0, 0, none⟩) (World.block_lt_of_cell? w _ hm)).trans hm⟩
theorem split_any (ks : List Nat) (hks : ks ∈ allTypes) (w : World) (hm : MaxL w) :
    Calls Tryz.prog 205 #[.string (joinN ks), .string ⟨#[43]⟩] w fun e w' => ∃ b, e = .returned (.slice (some ⟨b, 0, none⟩) ks.length ks.length) ∧ StrsAt w' (some ⟨b, 0, none⟩) ks.length (rowS ks) ∧ Ext w w' := by
  obtain ⟨h1, h2, h3, h4⟩ := split_all ks hks
  obtain ⟨m, hm⟩ := hm
  refine (Tryz.strings_Split (joinN ks) ⟨#[43]⟩ m w (by omega) hm (by decide)).mono fun e w' ⟨he, hw⟩ => ⟨w.heap.size, ?_, ?_, ?_⟩
  · rw [he, h2]
  · rw [hw, h1]
    have := strs_alloc w (rowS ks) 9
    rw [rowS_length] at this
    exact this
  · rw [hw]
    exact Ext.alloc _ _
theorem take_map_snoc (ks : List Nat) (k : Nat) (h : k < ks.length) : (ks.take (k + 1)).map partP = (ks.take k).map partP ++ [partP (ks.getD k 0)] := by
  rw [List.take_succ_eq_append_getElem h, List.map_append]
  simp [List.getD_eq_getElem?_getD, h]
set_option maxRecDepth 100000 in
set_option maxHeartbeats 4000000 in
theorem cartanOf_any (ks : List Nat) (hks : ks ∈ allTypes) (w : World) (hm : MaxL w) :
    Calls Tryz.prog 186 #[.string (joinN ks)] w fun e w' => ∃ a, e = .returned (.tuple #[carV (rankL ks) a (rankL ks * rankL ks) (rankL ks * rankL ks), .bool true]) ∧ OwnI w' w.heap.size a (rankL ks * rankL ks) (rankL ks * rankL ks) (blockL ks) ∧ Ext w w' := by
  obtain ⟨t1, t2, t3, t4⟩ := types_all ks hks
  have HK := hidP t1
  obtain ⟨R, hR⟩ : ∃ R, R = rankL ks := ⟨_, rfl⟩
  have HJ := hidP (fun (a : Option Addr) (n c : Nat) w' (h : CarsAt w' a n ks) => joined_any ks hks a n c w' h)
  rw [← hR] at t2 t3 HJ ⊢
  have HR := hidP hR
  have hx0 := Ext.alloc w (.cells #[.int .i64 0, .slice none 0 0] 55)
  have HS := hidP (split_any ks hks _ (hm.below hx0))
  have HX0 := hidP hx0
  obtain ⟨n, hn⟩ : ∃ n, n = ks.length := ⟨_, rfl⟩
  rw [← hn] at HS t4
  have HL := hidP hn
  clear t1 hR hx0 hn hm
  generalize joinN ks = nm at *
  go_enter Tryz.func186, Tryz.ntmps186
  go_wp2_with fail
  refine HS.out.mono ?_
  rintro e w1 ⟨bs, rfl, hs1, hx1⟩
  have HS1 := hidP hs1
  have HXr := hidP hx1
  have HX1 := hidP (HX0.out.trans hx1)
  have hb2 : w.heap.size < w1.heap.size := by have := hx1.size; simp at this; omega
  clear hs1 hx1 HS
  go_wp2
  have HO := hidP (OwnK.made0 carK w1)
  have HX2 := hidP (Ext.alloc w1 (.cells #[] 55))
  rw [show carK.E = 55 from rfl] at HO
  go_loopw [16, 5, 6] (fun t u v wr => ∃ (k : Nat) (av : Option Addr) (cv : Nat) (hv : List Hdr), k ≤ n ∧ t = .int .i64 k ∧ u = .slice av k cv ∧ v = .int .i64 (offK ks k) ∧ Hid (OwnK carK wr w1.heap.size wr.heap.size av k cv hv ((ks.take k).map partP)) ∧ Hid (Ext w1 wr)) (fun t _ _ _ => n - (intOf t).toNat)
  case atStart => exact ⟨0, _, _, [], Nat.zero_le _, rfl, rfl, rfl, HO, HX2⟩
  case round =>
    clear HO HX2
    obtain ⟨k, av, cv, hv, hk, rfl, rfl, rfl, HO, HX⟩ := hrel
    obtain ⟨wo, rfl⟩ : ∃ wo : World, wo = wr := ⟨_, rfl⟩
    by_cases hlt : k < n
    · obtain ⟨b, o, e, q⟩ := (HS1.out.below HX.out).get k hlt
      simp only [Option.some.injEq, Addr.mk.injEq, and_true] at e
      obtain ⟨rfl, rfl⟩ := e
      rw [Nat.zero_add] at q
      have hki : ks.getD k 0 < 12 := HK.out _ (getD_mem (by rw [← HL.out]; exact hlt))
      have hgd : (rowS ks).getD k ByteArray.empty = nameS.getD (ks.getD k 0) ByteArray.empty := by
        have : k < ks.length := by rw [← HL.out]; exact hlt
        simp [rowS, List.getD_eq_getElem?_getD, this]
      rw [hgd] at q
      have HOK := hidP (offK_succ ks k (by rw [← HL.out]; exact hlt))
      have HT := hidP (take_map_snoc ks k (by rw [← HL.out]; exact hlt))
      have hol := offK_le ks (ks.length - (k + 1)) (k + 1) (by have := HL.out; omega)
      rw [show k + 1 + (ks.length - (k + 1)) = ks.length by have := HL.out; omega, offK_all, HOK.out, ← HR.out] at hol
      have HP := hidP (fun w' => partCartan_any (ks.getD k 0) hki _ rfl w')
      have HPL := hidP (pMat_length _ hki)
      have hrk := pRank_pos _ hki
      generalize ks.getD k 0 = kk at *
      have HPP : Hid (partP kk = ((pRank kk : Int), pMat kk)) := rfl
      generalize nameS.getD kk ByteArray.empty = s at *
      generalize offK ks k = ok at *
      generalize pRank kk = r at *
      clear hgd
      go_wp2_with fail
      refine (HP.out _).mono ?_
      rintro e w3 ⟨a3, rfl, ho3, hx3⟩
      have HO3 := hidP ho3
      have HXo := hidP hx3
      have HX3 := hidP (HX.out.trans hx3)
      clear ho3 hx3
      have hxa := Ext.alloc w3 (.cells #[.int .i64 r, .slice a3 (r * r) (r * r)] 55)
      have hxb := Ext.alloc (w3.alloc (.cells #[.int .i64 r, .slice a3 (r * r) (r * r)] 55)) (.cells #[.int .i64 r, .slice a3 (r * r) (r * r)] 55)
      have HX5 := hidP (HX3.out.trans (hxa.trans hxb))
      have HO5 := hidP (HO.out.below (HXo.out.trans (hxa.trans hxb)))
      have HI5 : Hid (OwnI ((w3.alloc (.cells #[.int .i64 r, .slice a3 (r * r) (r * r)] 55)).alloc (.cells #[.int .i64 r, .slice a3 (r * r) (r * r)] 55)) w1.heap.size a3 (carK.ints (partP kk)).length (r * r) (carK.ints (partP kk))) := by
        rw [HPP.out]
        show OwnI _ _ _ (pMat kk).length _ (pMat kk)
        rw [HPL.out]
        exact (HO3.out.below (hxa.trans hxb)).base HX.out.size
      have HCl : Hid (∀ j, j < carK.size → ((w3.alloc (.cells #[.int .i64 r, .slice a3 (r * r) (r * r)] 55)).alloc (.cells #[.int .i64 r, .slice a3 (r * r) (r * r)] 55)).cell? ⟨w3.heap.size + 1, j, none⟩ = (carK.cells a3 (r * r) (partP kk))[j]?) := fun j hj => by
        rw [cell_top _ _ _ _ _ (by simp), HPP.out]
        show _ = ([Value.int .i64 r, Value.slice a3 (pMat kk).length (r * r)])[j]?
        rw [HPL.out]
        simp
      have HAp : Hid (∀ q, q < k → Apart (hv.getD q (none, 0)).1 a3) := fun q hq b o b' o' e e' => by
        have := HO.out.lt q hq b o e
        have := (HO3.out.at_base b' o' e').1
        omega
      have HFr : Hid (Apart av a3) := fun b o b' o' e e' => by
        have := HO.out.olt b o e
        have := (HO3.out.at_base b' o' e').1
        omega
      clear hxa hxb HO3
      go_wp2_with (at_builtin; refine wpList_append_elem2 carK 204 (.agg #[.int .i64 0, .slice none 0 0]) 32 rfl (.tmp 32) (.tmp 34) rfl Tryz.underlying204 Tryz.info55 rfl (by omega) w1.heap.size _ av k cv hv _ rfl HO5.out (w3.heap.size + 1) 1 (a3, r * r) (partP kk) rfl HCl.out HI5.out HAp.out HFr.out (by omega) HX5.out.size ?_; intro a6 c6 w6 ho6 hg6 hn6)
      have HX6 := hidP (HO5.out.below_grown hg6 HX5.out HX5.out.size)
      rw [← HT.out] at ho6
      have HO6 := hidP ho6
      go_roundw
      case rel => exact ⟨k + 1, a6, c6, _, by omega, by go_num, rfl, by rw [HOK.out]; simp, HO6, HX6⟩
      case measure => simp [intOf]; omega
    · obtain rfl : k = n := by omega
      have hof : offK ks k = R := by rw [HR.out, HL.out, offK_all]
      rw [hof]
      have hot : (ks.take k) = ks := by rw [HL.out, List.take_length]
      rw [hot] at HO
      have HJw := hidP (HJ.out av k cv wo (HO.out.cars HK.out))
      have hrg : ¬ (4 < (R : Int)) := by omega
      clear hof hot
      go_wp2_with fail
      refine HJw.out.mono ?_
      rintro e w3 ⟨a3, rfl, ho3, hx3⟩
      have hxx := (HXr.out.trans HX.out).trans hx3
      obtain ⟨c0, f0⟩ := new_cell (w := w) (b := w.heap.size) rfl hxx 0
      obtain ⟨c1, f1⟩ := new_cell (w := w) (b := w.heap.size) rfl hxx 1
      have c0' : w3.cell? ⟨w.heap.size, 0, none⟩ = some (.int .i64 0) := c0
      have c1' : w3.cell? ⟨w.heap.size, 1, none⟩ = some (.slice none 0 0) := c1
      have hl3 : w.heap.size < w3.heap.size := by have := hxx.size; simp at this; omega
      have hne : ∀ g, a3 = some ⟨g, 0, none⟩ → g ≠ w.heap.size := fun g e => by have := (ho3.at_base g 0 e).1; have := HX.out.size; omega
      have HEnd : Hid (OwnI ((w3.setCell ⟨w.heap.size, 0, none⟩ (.int .i64 R)).setCell ⟨w.heap.size, 1, none⟩ (.slice a3 (R * R) (R * R))) w.heap.size a3 (R * R) (R * R) (blockL ks) ∧ Ext w ((w3.setCell ⟨w.heap.size, 0, none⟩ (.int .i64 R)).setCell ⟨w.heap.size, 1, none⟩ (.slice a3 (R * R) (R * R)))) := by
        refine ⟨?_, ?_⟩
        · have h1 := ho3.base (B' := wo.heap.size) (Nat.le_refl _)
          have h2 : OwnI ((w3.setCell ⟨w.heap.size, 0, none⟩ (.int .i64 R)).setCell ⟨w.heap.size, 1, none⟩ (.slice a3 (R * R) (R * R))) wo.heap.size a3 (R * R) (R * R) (blockL ks) := (h1.setBelow _ 0 (by have := HX.out.size; omega) _).setBelow _ 1 (by have := HX.out.size; omega) _
          exact h2.base (by have := HX.out.size; omega)
        · exact (((HX1.out.trans HX.out).trans hx3).setNew _ _ (Nat.le_refl _) _).setNew _ _ (Nat.le_refl _) _
      clear ho3 hx3 hxx c0 c1 hne
      go_wp2
      refine bodyPost_ret (v := .tuple #[carV R a3 (R * R) (R * R), .bool true]) (by simp [results, Tryz.results186, go_sem, c0', c1']) rfl ⟨a3, rfl, ?_, ?_⟩
      · exact HEnd.out.1
      · exact HEnd.out.2
end Go.Proofs.YtnfbfdamlnjblaaGreatDoor
