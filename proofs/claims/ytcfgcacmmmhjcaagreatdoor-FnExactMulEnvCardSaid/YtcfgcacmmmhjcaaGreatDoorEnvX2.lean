/-
  The library's slices.Grow and Concat.
  The library's slices.Reverse on an owned slice of integers.
  The program's products put into order: addProduct.
-/
import Derived.Test.YtcfgcacmmmhjcaaGreatDoorOwnB
import Derived.Test.YtcfgcacmmmhjcaaGreatDoorReg
import Derived.Lib.AppendZeros
import Derived.Test.YtcfgcacmmmhjcaaGreatDoorInS
import Derived.Test.YtcfgcacmmmhjcaaGreatDoorSrt
import Derived.Test.YtcfgcacmmmhjcaaGreatDoorRev
import Derived.Test.YtcfgcacmmmhjcaaGreatDoorEnvW
import Derived.BigRegion
namespace Go.Proofs.YtcfgcacmmmhjcaaGreatDoor
open Go.RowKit

/-- slices.Grow of nil -/
theorem grow_any (n : Nat) (w : World) (hn : n ≤ 1000000000) :
    Calls Tryz.prog 97 #[.slice none 0 0, .int .i64 n] w fun e w' => ∃ a c, e = .returned (.slice a 0 c) ∧ OwnI w' w.heap.size a 0 c [] ∧ Ext w w' := by
  rcases Nat.eq_zero_or_pos n with h0 | h0
  · subst h0
    go_enter Tryz.func97, Tryz.ntmps97
    go_wp2
    go_ret
    exact ⟨_, _, rfl, OwnI.nil _ _, Ext.refl _⟩
  · obtain ⟨i, hi, hz0, hz1, hz2⟩ := info_parts Tryz.info3
    have hr := fun ty => Lib.run_append_nil_zeros (P := Tryz.prog) w 22 3 ty 3 i (.int .i64 0) .i64 .i64 Tryz.underlying22 Tryz.underlying3 hi hz0 n h0 (by omega) (by omega) (by rw [hz2]; omega)
    have hge := grownCap_ge w n 0 3
    have hle := grownCap_le_maxLen w n 0 3 (by unfold maxLen; omega)
    have HO := hidP (ownI_zeros w n (grownCap w n 0 3 - n) w.heap.size (Nat.le_refl _) (grownCap w n 0 3) (by omega) hle)
    have HR := hidP hr
    clear hr hge hle hi hz0 hz1 hz2
    generalize grownCap w n 0 3 = cap at *
    go_enter Tryz.func97, Tryz.ntmps97
    go_wp2_with (at_builtin; refine Lib.wpList_append_run _ rfl (.tmp 20) (.tmp 21) 22 3 rfl _ _ rfl rfl _ _ (HR.out _) ?_)
    go_ret
    exact ⟨_, _, rfl, HO.out.below (Ext.drew _), (Ext.alloc _ _).trans (Ext.drew _)⟩
set_option maxHeartbeats 1000000 in
theorem concat_any (a : Option Addr) (n c : Nat) (rows : List (List Int)) (w : World) (h : RowsI w a n rows) (hn : n ≤ 1000000000) (hl : rows.flatten.length ≤ 1000000000) :
    Calls Tryz.prog 81 #[.slice a n c] w fun e w' => ∃ a' c', e = .returned (.slice a' rows.flatten.length c') ∧ OwnI w' w.heap.size a' rows.flatten.length c' rows.flatten ∧ Ext w w' := by
  have G := hidP h
  have L := hidP h.len
  have HLE := hidP (fun i => Nat.le_trans (flatten_take_le rows i) hl)
  clear h
  go_enter Tryz.func81, Tryz.ntmps81
  go_wp2
  go_loop [3, 11] (fun v i => ∃ k m : Nat, k ≤ n ∧ i = .int .i64 k ∧ v = .int .i64 m ∧ Hid (m = (rows.take k).flatten.length)) (fun _ i => n - (intOf i).toNat)
  case atStart => exact ⟨0, 0, Nat.zero_le _, rfl, rfl, by show _ = _; simp⟩
  case round =>
    obtain ⟨k, m, hk, rfl, rfl, HM⟩ := hrel
    by_cases hlt : k < n
    · obtain ⟨b, o, a', c', rfl, q, _⟩ := G.out.get k hlt
      have hs := flatten_take_succ rows k (by have := L.out; omega)
      have hb := HLE.out (k + 1)
      rw [hs, List.length_append] at hb
      have hm := HM.out
      rw [← hm] at hb
      have HM2 : Hid (m + (rows.getD k []).length = (rows.take (k + 1)).flatten.length) := by show _ = _; rw [hs, List.length_append, hm]
      clear hs hm
      generalize (rows.getD k []).length = l at *
      go_wp2
      go_round
      case rel => exact ⟨k + 1, m + l, by omega, by go_num, by go_num, HM2⟩
      case measure => simp [intOf]; omega
    · obtain rfl : k = n := by omega
      have hm := HM.out
      rw [List.take_of_length_le (by have := L.out; omega)] at hm
      have HM2 := hidP hm
      have hmb : m ≤ 1000000000 := by omega
      have HG := hidP (grow_any m w hmb)
      clear hm HM
      go_wp2_with fail
      refine HG.out.mono ?_
      rintro e w1 ⟨ag, cg, rfl, hog, hxg⟩
      have HOG := hidP hog
      have HXG := hidP hxg
      clear hog hxg HG
      go_wp2
      go_loopw [6, 27] (fun v i wr => ∃ (j q : Nat) (av : Option Addr) (cv : Nat), j ≤ k ∧ i = .int .i64 j ∧ v = .slice av q cv ∧ Hid (OwnI wr w.heap.size av q cv (rows.take j).flatten) ∧ Hid (Ext w wr)) (fun _ i _ => k - (intOf i).toNat)
      case atStart => exact ⟨0, 0, _, _, Nat.zero_le _, rfl, rfl, HOG, HXG⟩
      case round =>
        obtain ⟨j, q0, av, cv, hj, rfl, rfl, HO, HX⟩ := hrel
        by_cases hjl : j < k
        · obtain ⟨b, o, a', c', rfl, q, hI, hnil⟩ := (G.out.below HX.out).get j hjl
          have HI := hidP hI
          have HN := hidP hnil
          have hs := flatten_take_succ rows j (by have := L.out; omega)
          have hb := HLE.out (j + 1)
          have hq0 := HO.out.len
          rw [hs, List.length_append, hq0] at hb
          have HS := hidP hs
          clear hs hI hnil hq0
          generalize (rows.getD j []).length = l at *
          go_wp2_with (at_builtin; refine wpList_append_ints rfl (.tmp 31) (.tmp 32) rfl w.heap.size av q0 cv _ rfl HO.out a' l c' _ rfl HI.out HN.out (by omega) HX.out.size ?_; intro a2 c2 w2 ho2 hg2; have HX2 := hidP (grown_ext hg2 HX.out HX.out.size (fun q e => HO.out.addr_base q e)); clear hg2)
          have HO2 : Hid (OwnI w2 w.heap.size a2 (q0 + l) c2 (rows.take (j + 1)).flatten) := by
            show OwnI _ _ _ _ _ _
            rw [HS.out]
            exact ho2
          clear ho2
          go_roundw
          case rel => exact ⟨j + 1, q0 + l, a2, c2, by omega, by go_num, rfl, HO2, HX2⟩
          case measure => simp [intOf]; omega
        · obtain rfl : j = k := by omega
          have ho := HO.out
          rw [List.take_of_length_le (by have := L.out; omega)] at ho
          have hq := ho.len
          have HQ := hidP hq
          have HO2 := hidP ho
          clear ho HO hq
          go_wp2
          go_ret
          rw [HQ.out]
          exact ⟨_, _, rfl, HO2.out, HX.out⟩
end Go.Proofs.YtcfgcacmmmhjcaaGreatDoor

namespace Go.Proofs.YtcfgcacmmmhjcaaGreatDoor
open Go.RowKit Go.Sort Go.Shelf

theorem ownsRow_putI {w : World} {B : Nat} {e : TypeId} {g n c q : Nat} {vs : List Value} {zs : List Int} (h : w.ownsRow B e 1 (.slice (some ⟨g, 0, none⟩) n c) n vs) (hy : zs.length = n) :
    (putRow (Value.int .i64) (Sort.ahead w q) g 0 zs.toArray).ownsRow B e 1 (.slice (some ⟨g, 0, none⟩) n c) n (ivs zs) := by
  rcases h.2 with ⟨e0, _⟩ | ⟨g', cap', cur, e0, hb, hg, hn, hm, hs, ht⟩
  · cases e0
  · injection e0 with e1 _ e3
    injection e1 with e1
    injection e1 with e1
    subst e1; subst e3
    have hsz : n * 1 ≤ cur.size := by rw [hs]; exact Nat.mul_le_mul_right _ hn
    refine ⟨by rw [ivs_length, hy]; omega, .inr ⟨g, c, putCells (Value.int .i64) 0 zs.toArray cur, rfl, hb, ?_, hn, hm, by simpa [putCells] using hs, ?_⟩⟩
    · simp [putRow, mapBlock, Sort.ahead, Array.getElem?_modify, hg, onCells]
    · apply List.ext_getElem?
      intro j
      rw [List.getElem?_take, Array.getElem?_toList]
      by_cases hj : j < n * 1
      · have hjc : j < cur.size := by omega
        simp only [if_pos hj, putCells, Array.getElem?_mapIdx, Array.getElem?_eq_getElem hjc, Option.map_some]
        rw [if_pos (by simp; omega), ivs_get zs j (by omega)]
        simp [List.getD_eq_getElem?_getD, getElem!_pos, show j < zs.length by omega]
      · rw [if_neg hj, List.getElem?_eq_none (by rw [ivs_length]; omega)]
theorem putI_grown (w : World) (g q : Nat) (zs : List Int) : w.grownBy (putRow (Value.int .i64) (Sort.ahead w q) g 0 zs.toArray) (some g) := by
  refine ⟨rfl, rfl, rfl, by simp [putRow, mapBlock, Sort.ahead], fun k hk hne => ?_⟩
  have hkg : g ≠ k := fun e => hne (by rw [e])
  simp [putRow, mapBlock, Sort.ahead, Array.getElem?_modify, hkg]
theorem reverse_any {w : World} {B n c : Nat} {a : Option Addr} {xs : List Int} (h : OwnI w B a n c xs) (hn : n ≤ 9223372036854775807) :
    Calls Tryz.prog 51 #[.slice a n c] w fun e w' => e = .returned (.tuple #[]) ∧ OwnI w' B a n c xs.reverse ∧ Below B w w' := by
  have hl := h.len
  rcases Nat.eq_zero_or_pos n with h0 | h0
  · subst h0
    obtain rfl := List.length_eq_zero_iff.1 hl
    refine (Tryz.slices_Reverse_int_empty a c w).mono ?_
    rintro e w' ⟨rfl, rfl⟩
    exact ⟨rfl, h, Below.refl _ _⟩
  · obtain ⟨g, rfl, hB, _⟩ := h.cell 0 h0
    have hH : Holds (Value.int .i64) w g 0 xs.toArray := by
      intro j hj
      have hj' : j < n := by simpa [hl] using hj
      obtain ⟨g', e', _, _, hc, hf⟩ := h.cell j hj'
      simp only [Option.some.injEq, Addr.mk.injEq, and_true] at e'
      subst e'
      rw [Nat.zero_add, hc]
      refine ⟨?_, hf⟩
      congr 2
      simp [List.getD_eq_getElem?_getD, getElem!_pos, show j < xs.length by omega]
    have hr := Tryz.slices_Reverse_int g 0 c xs w hH (by omega)
    rw [hl] at hr
    refine hr.mono ?_
    rintro e w' ⟨rfl, q, rfl⟩
    have hg := putI_grown w g q xs.reverse
    refine ⟨rfl, ⟨ownsRow_putI h.row (by simpa using hl)⟩, ⟨hg.os, hg.tape, hg.output, hg.size, fun k hk => ?_⟩⟩
    by_cases hkl : k < w.heap.size
    · exact hg.block k hkl (by simp; omega)
    · have h1 := Array.getElem?_eq_none (xs := w.heap) (Nat.le_of_not_lt hkl)
      have h2 : (putRow (Value.int .i64) (Sort.ahead w q) g 0 xs.reverse.toArray).heap.size = w.heap.size := by simp [putRow, mapBlock, Sort.ahead]
      rw [h1, Array.getElem?_eq_none (by omega)]
end Go.Proofs.YtcfgcacmmmhjcaaGreatDoor

namespace Go.Proofs.YtcfgcacmmmhjcaaGreatDoor
open Go.RowKit

theorem gM_zeros {p : Int} (L : List Tm) {A : List Tm} (h : ∀ q ∈ A, q.2 = 0) : gM p (L ++ A) = gM p L := by
  funext x
  unfold gM
  rw [cntSum_append, cntSum_zero h, Int.add_zero]
theorem swapA_set {x : List Int} {k : Nat} (h : k + 1 < x.length) : (x.set k (x.getD (k + 1) 0)).set (k + 1) (x.getD k 0) = swapA x k := by
  unfold swapA
  apply List.ext_getElem?
  intro j
  rw [List.getElem?_set, List.getElem?_set]
  simp only [List.length_set]
  by_cases h1 : k + 1 = j
  · subst h1
    rw [if_pos rfl, if_pos h, List.getElem?_append_right (by simp; omega), List.length_take, Nat.min_eq_left (by omega)]
    simp
  · rw [if_neg h1]
    by_cases h2 : k = j
    · subst h2
      rw [if_pos rfl, if_pos (by omega), List.getElem?_append_right (by simp; omega), List.length_take, Nat.min_eq_left (by omega)]
      simp
    · rw [if_neg h2]
      rcases Nat.lt_or_ge j k with h3 | h3
      · rw [List.getElem?_append_left (by simp; omega), List.getElem?_take, if_pos h3]
      · rw [List.getElem?_append_right (by simp; omega), List.length_take, Nat.min_eq_left (by omega)]
        obtain ⟨i, rfl⟩ : ∃ i, j = k + 2 + i := ⟨j - (k + 2), by omega⟩
        rw [show k + 2 + i - k = i + 1 + 1 by omega, List.getElem?_cons_succ, List.getElem?_cons_succ, List.getElem?_drop]
theorem OwnI.room2 {w : World} {B : Nat} {a : Option Addr} {n c : Nat} {xs : List Int} (h : OwnI w B a n c xs) : n ≤ c := by
  rcases h.row.2 with ⟨e, h0⟩ | ⟨g, cap, cur, e, hb, hg, hn, hm, hs, ht⟩
  · simp only [Value.slice.injEq] at e
    omega
  · simp only [Value.slice.injEq] at e
    omega
theorem OwnI.nilc {w : World} {B : Nat} {a : Option Addr} {n c : Nat} {xs : List Int} (h : OwnI w B a n c xs) : a = none → c = 0 := by
  intro ea
  rcases h.row.2 with ⟨e, h0⟩ | ⟨g, cap, cur, e, hb, hg, hn, hm, hs, ht⟩
  · simp only [Value.slice.injEq] at e
    omega
  · simp only [Value.slice.injEq] at e
    rw [ea] at e
    cases e.1
theorem cutA_rows (x : List Int) (k : Nat) (q : Int) : [x.take k, [q], x.drop (k + 2)].flatten = cutA x k q := by simp [cutA]
/-- the bracket terms of the first k letters -/
def brkT (d : Nat) (row : Int → Int → Int → Int) (p : Int) (f : Nat) (x : List Int) (i : Nat) (v : Int) (k : Nat) : List Tm := (List.range k).flatMap fun (k : Nat) => if row (x.getD i 0) (x.getD (i + 1) 0) k = 0 then [] else strT d row p f (cutA x i k) (v * row (x.getD i 0) (x.getD (i + 1) 0) k % p)
theorem brkT_succ (d : Nat) (row : Int → Int → Int → Int) (p : Int) (f : Nat) (x : List Int) (i : Nat) (v : Int) (k : Nat) : brkT d row p f x i v (k + 1) = brkT d row p f x i v k ++ if row (x.getD i 0) (x.getD (i + 1) 0) k = 0 then [] else strT d row p f (cutA x i k) (v * row (x.getD i 0) (x.getD (i + 1) 0) k % p) := by
  unfold brkT
  rw [List.range_succ, List.flatMap_append]
  simp
theorem brkT_mono (d : Nat) (row : Int → Int → Int → Int) (p : Int) (f : Nat) (x : List Int) (i : Nat) (v : Int) {k m : Nat} (hk : k ≤ m) : (brkT d row p f x i v k).length ≤ (brkT d row p f x i v m).length := by
  induction m with
  | zero => rw [Nat.le_zero.1 hk]; exact Nat.le_refl _
  | succ m ih =>
    rcases Nat.le_or_eq_of_le_succ hk with h | h
    · have := ih h
      rw [brkT_succ, List.length_append]
      omega
    · rw [h]; exact Nat.le_refl _
theorem strT_desc {d : Nat} {row : Int → Int → Int → Int} {p : Int} {f : Nat} {x : List Int} {i : Nat} (v : Int) (h : DescAt x i) : strT d row p (f + 1) x v = strT d row p f (swapA x i) v ++ brkT d row p f x i v d := by
  rw [strT, descA_of h]
  rfl
theorem strT_end {d : Nat} {row : Int → Int → Int → Int} {p : Int} {f : Nat} {x : List Int} (v : Int) (h : ∀ j, j + 1 < x.length → x.getD j 0 ≤ x.getD (j + 1) 0) : strT d row p (f + 1) x v = [(x, v)] := by
  rw [strT, descA_no h]
set_option maxRecDepth 100000 in
set_option maxHeartbeats 8000000 in
theorem addProduct_any (p : Int) (d : Nat) (ta : Option Addr) (N tc : Nat) (ts : List Int) (b1 b2 : Nat) (hd : d ≤ 28) (hN : N = d * d * d) (hNc : N ≤ tc) (hc2 : tc ≤ 1000000000000) (hp : 2 ≤ p) (hp2 : p ≤ 10007) (hrt : Res p ts) :
    ∀ (f n : Nat) (L : List Tm) (f1 f2 : ByteArray → Option Value) (a : Option Addr) (m c : Nat) (x : List Int) (v : Int) (w : World), fuelA x < f → Counts w b1 b2 n (gM p L) f1 f2 → IntsAt w a m x → (a = none → c = 0) → m ≤ c → WordA d x → x.length ≤ 6 → 0 ≤ v → v < p →
      n + (strT d (rowE d ts) p f x v).length ≤ 9000000000000000000 → IntsAt w ta N ts → Tab w →
      Calls Tryz.prog 52 #[envV p d ta N tc b1 b2, .slice a m c, .int .i64 v] w fun e w' => e = .returned (.tuple #[]) ∧ (∃ n' f1' f2', n' ≤ n + (strT d (rowE d ts) p f x v).length ∧ Counts w' b1 b2 n' (gM p (L ++ strT d (rowE d ts) p f x v)) f1' f2') ∧ ExtM b1 b2 w w'
  | 0, _, _, _, _, _, _, _, _, _, _, hf, _, _, _, _, _, _, _, _, _, _, _ => absurd hf (Nat.not_lt_zero _)
  | f + 1, n, L, f1, f2, a, m, c, x, v, w, hf, hC, hi, hnil, hxc, hwd, hx6, hv0, hv1, hnn, ht, htb => by
    obtain rfl : m = x.length := hi.len.symm
    have IH := hidP (addProduct_any p d ta N tc ts b1 b2 hd hN hNc hc2 hp hp2 hrt f)
    have hxa := Ext.alloc w (.cells #[.int .i64 p, .int .i64 d, .slice ta N tc, .map (some b1), .map (some b2)] 56)
    by_cases hz : v = 0
    · subst hz
      have HCn : Hid (Counts (w.alloc (.cells #[.int .i64 p, .int .i64 d, .slice ta N tc, .map (some b1), .map (some b2)] 56)) b1 b2 n (gM p (L ++ strT d (rowE d ts) p (f + 1) x 0)) f1 f2) := by
        show Counts _ _ _ _ _ _ _
        rw [gM_zeros L (strT_zero d (rowE d ts) p (f + 1) x)]
        exact hC.below hxa
      have HX := hidP (ExtM.of_ext (b1 := b1) (b2 := b2) hxa)
      clear hxa hC hi hnil hf IH hwd ht htb hnn hrt hN
      go_enter Tryz.func52, Tryz.ntmps52
      go_wp2
      refine bodyPost_ret (v := .tuple #[]) (by simp [results, Tryz.results52]) rfl ⟨rfl, ⟨n, f1, f2, Nat.le_add_right _ _, HCn.out⟩, HX.out⟩
    · have hzb : (v == 0) = false := by simpa using hz
      have M1 := hidP hC.m1.is
      have M2 := hidP hC.m2.is
      have HC := hidP (hC.below hxa)
      have HI := hidP (hi.below hxa)
      have HA := hidP (EnvAt.new w _ rfl p d ta N tc b1 b2 56)
      have HT := hidP (ht.below hxa)
      have HTb := hidP (htb.below hxa)
      have HNil := hidP hnil
      have HW := hidP hwd
      have HNn := hidP hnn
      have HF := hidP hf
      have HR := hidP hrt
      have HNe := hidP hN
      have HX0 := hidP hxa
      have hm1 := (hC.below hxa).m1.is
      have hm2 := (hC.below hxa).m2.is
      have M1 := hidP hm1
      have M2 := hidP hm2
      clear hxa hC hi hnil hf hwd ht htb hnn hrt hN hm1 hm2
      go_enter Tryz.func52, Tryz.ntmps52
      go_wp2
      obtain ⟨w0, hw0⟩ : ∃ w0, w0 = w.alloc (.cells #[.int .i64 p, .int .i64 d, .slice ta N tc, .map (some b1), .map (some b2)] 56) := ⟨_, rfl⟩
      rw [← hw0] at HC HI HA HT HTb HX0 M1 M2
      first | rw [← hw0] | skip
      obtain ⟨bk, hbk⟩ : ∃ bk, bk = w.heap.size := ⟨_, rfl⟩
      rw [← hbk] at HA
      simp only [← hbk]
      clear hw0 hbk
      go_loopw [15] (fun i wr => ∃ k : Nat, (k = 0 ∨ k + 1 ≤ x.length) ∧ i = .int .i64 k ∧ Hid (∀ j, j < k → x.getD j 0 ≤ x.getD (j + 1) 0) ∧ Hid (Ext w0 wr)) (fun i _ => x.length - (intOf i).toNat)
      case atStart => exact ⟨0, .inl rfl, rfl, fun j h => by omega, Ext.refl _⟩
      case round =>
        obtain ⟨k, hk, rfl, HJ, HX⟩ := hrel
        by_cases hlt : k + 1 < x.length
        · have hki : (k : Int) < (x.length : Int) - 1 := by omega
          have hk1 : (k : Int) < (x.length : Int) := by omega
          have hk2 : (k : Int) + 1 < (x.length : Int) := by omega
          have hk3 : (0 : Int) ≤ (k : Int) + 1 := by omega
          have hkw : IntKind.i64.wrap ((k : Int) + 1) = (k : Int) + 1 := wrap_in (by omega) (by omega)
          have hkn : ((k : Int) + 1).toNat = k + 1 := by omega
          obtain ⟨bx, ox, rfl, q0⟩ := (HI.out.below HX.out).get k (by omega)
          have q0' := (HI.out.below HX.out).atc (k + 1) hlt
          obtain ⟨y0, hy0⟩ : ∃ y, y = x.getD k 0 := ⟨_, rfl⟩
          obtain ⟨y1, hy1⟩ : ∃ y, y = x.getD (k + 1) 0 := ⟨_, rfl⟩
          rw [← hy0] at q0
          rw [← hy1] at q0'
          have HY0 := hidP hy0
          have HY1 := hidP hy1
          clear hy0 hy1
          cases hle : decide (y0 ≤ y1)
          · have hgt := of_decide_eq_false hle
            have hDs : DescAt x k := ⟨hlt, by rw [← HY0.out, ← HY1.out]; omega, HJ.out⟩
            have HDs := hidP hDs
            have HE := hidP (strT_desc (d := d) (row := rowE d ts) (p := p) (f := f) v hDs)
            have hb0 := HW.out.all y0 (by rw [HY0.out]; simp [List.getD_eq_getElem?_getD, hlt, show k < x.length by omega])
            have hb1 := HW.out.all y1 (by rw [HY1.out]; simp [List.getD_eq_getElem?_getD, hlt])
            obtain ⟨i0, rfl⟩ : ∃ i : Nat, y0 = i := ⟨y0.toNat, by omega⟩
            obtain ⟨j0, rfl⟩ : ∃ i : Nat, y1 = i := ⟨y1.toNat, by omega⟩
            have hid : i0 < d := by omega
            have hjd : j0 < d := by omega
            have hNp : 0 < N := by rw [HNe.out]; exact Nat.mul_pos (Nat.mul_pos (by omega) (by omega)) (by omega)
            obtain ⟨bt, ot, rfl, _⟩ := HT.out.get 0 hNp
            obtain ⟨T, hT⟩ : ∃ T, T = (i0 * d + j0) * d := ⟨_, rfl⟩
            have hTN : T + d ≤ N := by
              have := nidx_lt hid hjd
              rw [HNe.out, hT]
              exact this
            have HPr := hidP (fun w' => pair_any p d i0 j0 bt ot N tc w' hd hid hjd (by rw [HNe.out]; exact Nat.le_refl _) hNc hc2)
            rw [← hT] at HPr
            have HRow : Hid (∀ q : Nat, rowE d ts (x.getD k 0) (x.getD (k + 1) 0) q = ts.getD (T + q) 0) := fun q => by
              rw [← HY0.out, ← HY1.out, hT]
              simp [rowE]
            have hTl := HT.out.len
            have HCl := hidP (fun w' (hx : Ext wr w') => clone_any (some ⟨bx, ox, none⟩) x.length c x w' ((HI.out.below HX.out).below hx) (fun e => by cases e) (by omega))
            clear hle hDs hT hb0 hb1
            go_wp2
            go_quiet (fail)
            go_wp2_with fail
            refine (HCl.out _ (Ext.drewN _ _)).mono ?_
            rintro e w2 ⟨a1, c1, rfl, ho1, hx1⟩
            have hXq : Ext w0 (wr.drewN nq) := HX.out.trans (Ext.drewN _ _)
            have HX2 := hidP (hXq.trans hx1)
            have hsq := hXq.size
            obtain ⟨g, rfl, hgB, hgl, e0, z0⟩ := ho1.cell k (by omega)
            obtain ⟨g', e', _, _, e1, z1⟩ := ho1.cell (k + 1) hlt
            simp only [Option.some.injEq, Addr.mk.injEq, and_true] at e'
            subst e'
            rw [← HY0.out] at e0
            rw [← HY1.out] at e1
            have hgw : w0.heap.size ≤ g := by omega
            have hbg : bx ≠ g := by
              have := HI.out.block_lt (by omega)
              omega
            have q0 := (HI.out.below HX2.out).atc k (by omega)
            have q1 := (HI.out.below HX2.out).atc (k + 1) hlt
            rw [← HY0.out] at q0
            rw [← HY1.out] at q1
            have hE : Ext w2 w2.drew := Ext.drew w2
            have hu := ((UpdI.start ho1.ints).store k (by omega) (j0 : Int)).store (k + 1) hlt (i0 : Int)
            rw [Nat.zero_add, Nat.zero_add] at hu
            have HU := hidP hu
            have HO1 := hidP ho1
            have HGw := hidP hgw
            clear hu ho1 hx1 hXq HCl q0' hgw hsq hE
            go_wp2
            go_region
            have hX3 : Ext w0 ((w2.setCell ⟨g, k, none⟩ (.int .i64 (j0 : Int))).setCell ⟨g, k + 1, none⟩ (.int .i64 (i0 : Int))).drew := Ext.trans (HU.out.below HX2.out HX2.out.size (fun b o e _ => by
              simp only [Option.some.injEq, Addr.mk.injEq, and_true] at e
              rw [← e.1]; exact HGw.out)) (Ext.drew _)
            have hO3 := (HU.out.own HO1.out).below (Ext.drew ((w2.setCell ⟨g, k, none⟩ (.int .i64 (j0 : Int))).setCell ⟨g, k + 1, none⟩ (.int .i64 (i0 : Int))))
            rw [HY0.out, HY1.out, swapA_set hlt, ← HY0.out, ← HY1.out] at hO3
            have HX3 := hidP hX3
            have HO3 := hidP hO3
            clear hX3 hO3 HU HO1 e0 e1 z0 z1
            obtain ⟨w3, hw3⟩ : ∃ x, x = ((w2.setCell ⟨g, k, none⟩ (.int .i64 (j0 : Int))).setCell ⟨g, k + 1, none⟩ (.int .i64 (i0 : Int))).drew := ⟨_, rfl⟩
            rw [← hw3] at HX3 HO3 ⊢
            clear hw3 q0 q1
            have hln : (strT d (rowE d ts) p f (swapA x k) v).length + (brkT d (rowE d ts) p f x k v d).length = (strT d (rowE d ts) p (f + 1) x v).length := by rw [HE.out, List.length_append]
            have HLn := hidP hln
            have HS1 := hidP (IH.out n L f1 f2 (some ⟨g, 0, none⟩) x.length c1 (swapA x k) v w3 (by have h1 := fuel_swap HDs.out; have h2 := HF.out; omega) (HC.out.below HX3.out) HO3.out.ints (fun e => by cases e) HO3.out.room2 (HW.out.swap hlt) (by rw [swapA_length hlt]; exact hx6) hv0 hv1 (by have := HNn.out; omega) (HT.out.below HX3.out) (HTb.out.below HX3.out))
            have HA3 := hidP (HA.out.below HX3.out)
            have hm1 := (HC.out.below HX3.out).m1.is
            have hm2 := (HC.out.below HX3.out).m2.is
            have N1 := hidP hm1
            have N2 := hidP hm2
            clear hln hm1 hm2 HO3
            obtain ⟨z0, z1, z2, z3, z4⟩ := HA3.out
            go_wp2_with fail
            refine HS1.out.mono ?_
            rintro e w4 ⟨rfl, ⟨n4, f14, f24, hn4, hC4⟩, hx4⟩
            have HA4 := hidP (HA3.out.extM hx4 N1.out N2.out)
            have HX4 := hidP ((ExtM.of_ext (b1 := b1) (b2 := b2) HX3.out).trans hx4)
            have HC4 := hidP hC4
            have HN4 := hidP hn4
            clear z0 z1 z2 z3 z4 hx4 hC4 hn4 HS1 HA3 N1 N2
            have HI4 := hidP (HI.out.extM HX4.out M1.out M2.out)
            have q0 := HI4.out.atc k (by omega)
            have q1 := HI4.out.atc (k + 1) hlt
            rw [← HY0.out] at q0
            rw [← HY1.out] at q1
            have HQ0 := hidP (fun w' (hx : Ext w4 w') => (hx.cell (p := ⟨bx, ox + k, none⟩) (World.block_lt_of_cell? w4 _ q0)).trans q0)
            have HQ1 := hidP (fun w' (hx : Ext w4 w') => (hx.cell (p := ⟨bx, ox + (k + 1), none⟩) (World.block_lt_of_cell? w4 _ q1)).trans q1)
            have hE : Ext w4 w4.drew := Ext.drew w4
            go_wp2
            clear q0 q1
            (refine walkR_start (fun w' => Ext w4 w') 14 (by kernel_rfl) ?_; simp only [numbered, List.take_succ_cons, List.take_zero, Nat.zero_add, Nat.reduceAdd, List.length_cons, List.length_nil])
            (repeat (first | (refine walkR_still (v := ?_) rfl (by decide +kernel) rfl (fun _ _ _ h => h) hE ?_ ?_; rotate_left; (focus (intro w' hw'; have q0 := HQ0.out w' hw'; have q1 := HQ1.out w' hw'; obtain ⟨z0, z1, z2, z3, z4⟩ := HA4.out.below hw'; go_simp; all_goals (with_reducible rfl))); simp only [Act.put, List.setIfInBounds_toArray, List.set_cons_zero, List.set_cons_succ]) | (refine walkR_skip rfl (by decide +kernel) rfl (fun _ _ _ h => h) hE ?_; simp only [Act.put, List.setIfInBounds_toArray, List.set_cons_zero, List.set_cons_succ])))
            (refine walkR_later ?_; simp only [List.cons_append, List.nil_append]); (refine walkR_later ?_; simp only [List.cons_append, List.nil_append])
            (repeat (first | (refine walkR_still (v := ?_) rfl (by decide +kernel) rfl (fun _ _ _ h => h) hE ?_ ?_; rotate_left; (focus (intro w' hw'; skip; go_simp; all_goals (with_reducible rfl))); simp only [Act.put, List.setIfInBounds_toArray, List.set_cons_zero, List.set_cons_succ]) | (refine walkR_skip rfl (by decide +kernel) rfl (fun _ _ _ h => h) hE ?_; simp only [Act.put, List.setIfInBounds_toArray, List.set_cons_zero, List.set_cons_succ])))
            (refine walkR_only (fun w' => Ext w4 w') rfl (by decide +kernel) rfl (fun _ h => h) ?_; intro K hK; go_simp; refine (HPr.out _).mono ?_; rintro e w6 ⟨rfl, hx6⟩; refine hK _ _ (hE.trans hx6) ?_; clear hK K; (try simp only [Act.put, List.setIfInBounds_toArray, List.set_cons_zero, List.set_cons_succ]))
            have hE6 := hE.trans hx6
            clear hx6 hE HPr
            (repeat (first | (refine walkR_still (v := ?_) rfl (by decide +kernel) rfl (fun _ _ _ h => h) hE6 ?_ ?_; rotate_left; (focus (intro w' hw'; skip; go_simp; all_goals (with_reducible rfl))); simp only [Act.put, List.setIfInBounds_toArray, List.set_cons_zero, List.set_cons_succ]) | (refine walkR_skip rfl (by decide +kernel) rfl (fun _ _ _ h => h) hE6 ?_; simp only [Act.put, List.setIfInBounds_toArray, List.set_cons_zero, List.set_cons_succ])))
            (refine walkR_tail (by rfl) (by kernel_rfl) ?_; simp only [List.drop_succ_cons, List.drop_zero])
            have HC6 : Hid (∃ n' f1' f2', n' ≤ n + (strT d (rowE d ts) p f (swapA x k) v).length + (brkT d (rowE d ts) p f x k v 0).length ∧ Counts w6 b1 b2 n' (gM p (L ++ strT d (rowE d ts) p f (swapA x k) v ++ brkT d (rowE d ts) p f x k v 0)) f1' f2') :=
              ⟨n4, f14, f24, Nat.le_trans HN4.out (Nat.le_add_right _ _), by rw [show brkT d (rowE d ts) p f x k v 0 = [] from rfl, List.append_nil]; exact HC4.out.below hE6⟩
            have HX6 := hidP (HX4.out.trans (ExtM.of_ext hE6))
            have HA6 := hidP (HA4.out.below hE6)
            clear hE6 HC4 HN4 HA4 HI4 HX4 HQ0 HQ1
            go_wp2
            have hdi : (d : Int) ≤ 28 := by omega
            clear hNp hgt
            go_loopw [63] (fun i wr => ∃ q : Nat, q ≤ d ∧ i = .int .i64 q ∧ Hid (∃ n' f1' f2', n' ≤ n + (strT d (rowE d ts) p f (swapA x k) v).length + (brkT d (rowE d ts) p f x k v q).length ∧ Counts wr b1 b2 n' (gM p (L ++ strT d (rowE d ts) p f (swapA x k) v ++ brkT d (rowE d ts) p f x k v q)) f1' f2') ∧ Hid (EnvAt wr bk p d (some ⟨bt, ot, none⟩) N tc b1 b2) ∧ Hid (ExtM b1 b2 w0 wr)) (fun i _ => d - (intOf i).toNat)
            case atStart => exact ⟨0, Nat.zero_le _, rfl, HC6, HA6, HX6⟩
            case round =>
              clear HC6 HA6 HX6
              obtain ⟨q, hq, rfl, HCq, HAq, HXq⟩ := hrel
              by_cases hql : q < d
              · have HTq := hidP (HT.out.extM HXq.out M1.out M2.out)
                have t0 := HTq.out.atc (T + q) (by omega)
                have hmr := HR.out (T + q) (by omega)
                have hmq2 := HRow.out q
                obtain ⟨mq, hmq⟩ : ∃ m, m = ts.getD (T + q) 0 := ⟨_, rfl⟩
                rw [← hmq] at t0 hmr hmq2
                rw [← Nat.add_assoc] at t0
                have HBs := hidP (brkT_succ d (rowE d ts) p f x k v q)
                rw [hmq2] at HBs
                clear hmq hmq2
                by_cases hm0 : mq = 0
                · subst hm0
                  rw [if_pos rfl, List.append_nil] at HBs
                  go_wp2
                  go_roundw
                  case rel => exact ⟨q + 1, by omega, by go_num, by rw [HBs.out]; exact HCq, HAq, HXq⟩
                  case measure => simp [intOf]; omega
                · rw [if_neg hm0] at HBs
                  have hmb : (mq != 0) = true := by simpa using hm0
                  have hvm0 : 0 ≤ v * mq := Int.mul_nonneg hv0 hmr.1
                  have hvm1 : v * mq ≤ 10007 * 10007 := Int.mul_le_mul (by omega) (by omega) hmr.1 (by omega)
                  have hvw : IntKind.i64.wrap (v * mq) = v * mq := wrap_in (by omega) (by omega)
                  have hpz : ¬ (p = 0) := by omega
                  have htm : (v * mq).tmod p = v * mq % p := Int.tmod_eq_emod_of_nonneg hvm0
                  have hu0 := Int.emod_nonneg (v * mq) hpz
                  have hu1 := Int.emod_lt_of_pos (v * mq) (show 0 < p by omega)
                  obtain ⟨u, hu⟩ : ∃ u, u = v * mq % p := ⟨_, rfl⟩
                  rw [← hu] at htm hu0 hu1 HBs
                  have hkw2 : IntKind.i64.wrap ((k : Int) + 2) = (k : Int) + 2 := wrap_in (by omega) (by omega)
                  have hk5 : (k : Int) + 2 ≤ (x.length : Int) := by omega
                  have hk6 : (0 : Int) ≤ (k : Int) + 2 := by omega
                  have hk7 : ((k : Int) + 2).toNat = k + 2 := by omega
                  have hk8 : (k : Int) ≤ (c : Int) := by omega
                  have hk9 : (x.length : Int) ≤ (c : Int) := by omega
                  have hk10 : (0 : Int) ≤ (k : Int) := by omega
                  have HIq := hidP (HI.out.extM HXq.out M1.out M2.out)
                  have HAw := hidP (fun w' (hx : Ext wr w') => HAq.out.below hx)
                  have hE : Ext wr wr.drew := Ext.drew wr
                  clear hu hvm0 hvm1
                  go_wp2
                  (refine walkR_start (fun w' => Ext wr w') 19 (by kernel_rfl) ?_; simp only [numbered, List.take_succ_cons, List.take_zero, Nat.zero_add, Nat.reduceAdd, List.length_cons, List.length_nil])
                  (repeat (first | (refine walkR_still (v := ?_) rfl (by decide +kernel) rfl (fun _ _ _ h => h) hE ?_ ?_; rotate_left; (focus (intro w' hw'; obtain ⟨z0, z1, z2, z3, z4⟩ := HAw.out w' hw'; go_simp; all_goals (with_reducible rfl))); simp only [Act.put, List.setIfInBounds_toArray, List.set_cons_zero, List.set_cons_succ]) | (refine walkR_skip rfl (by decide +kernel) rfl (fun _ _ _ h => h) hE ?_; simp only [Act.put, List.setIfInBounds_toArray, List.set_cons_zero, List.set_cons_succ])))
                  (refine walkR_later ?_; simp only [List.cons_append, List.nil_append])
                  (repeat (first | (refine walkR_still (v := ?_) rfl (by decide +kernel) rfl (fun _ _ _ h => h) hE ?_ ?_; rotate_left; (focus (intro w' hw'; obtain ⟨z0, z1, z2, z3, z4⟩ := HAw.out w' hw'; go_simp; all_goals (with_reducible rfl))); simp only [Act.put, List.setIfInBounds_toArray, List.set_cons_zero, List.set_cons_succ]) | (refine walkR_skip rfl (by decide +kernel) rfl (fun _ _ _ h => h) hE ?_; simp only [Act.put, List.setIfInBounds_toArray, List.set_cons_zero, List.set_cons_succ])))
                  (refine walkR_later ?_; simp only [List.cons_append, List.nil_append]); (refine walkR_later ?_; simp only [List.cons_append, List.nil_append])
                  (repeat (first | (refine walkR_still (v := ?_) rfl (by decide +kernel) rfl (fun _ _ _ h => h) hE ?_ ?_; rotate_left; (focus (intro w' hw'; obtain ⟨z0, z1, z2, z3, z4⟩ := HAw.out w' hw'; go_simp; all_goals (with_reducible rfl))); simp only [Act.put, List.setIfInBounds_toArray, List.set_cons_zero, List.set_cons_succ]) | (refine walkR_skip rfl (by decide +kernel) rfl (fun _ _ _ h => h) hE ?_; simp only [Act.put, List.setIfInBounds_toArray, List.set_cons_zero, List.set_cons_succ])))
                  (refine walkR_only (fun w' => Ext wr w') rfl (by decide +kernel) rfl ?_ ?_)
                  · exact fun _ h => h
                  intro K hK
                  go_simp
                  have hE5 : Ext wr (wr.alloc (.cells #[.int .i64 (q : Int)] 3)).drew := (Ext.alloc wr _).trans (Ext.drew _)
                  have HOne := hidP ((one_ints wr (q : Int) 3).below (Ext.drew (wr.alloc (.cells #[.int .i64 (q : Int)] 3))))
                  refine hK _ _ hE5 ?_
                  clear hK K hE
                  (try simp only [Act.put, List.setIfInBounds_toArray, List.set_cons_zero, List.set_cons_succ])
                  obtain ⟨w5, hw5⟩ : ∃ x, x = (wr.alloc (.cells #[.int .i64 (q : Int)] 3)).drew := ⟨_, rfl⟩
                  rw [← hw5] at hE5 HOne
                  first | rw [← hw5] | skip
                  clear hw5
                  obtain ⟨bq, hbq⟩ : ∃ b, b = wr.heap.size := ⟨_, rfl⟩
                  rw [← hbq] at HOne
                  simp only [← hbq]
                  clear hbq
                  obtain ⟨xa, hxa⟩ : ∃ xa, xa = (if c = k + 2 then (some ⟨bx, ox, none⟩ : Option Addr) else some ⟨bx, ox + (k + 2), none⟩) := ⟨_, rfl⟩
                  try simp only [← hxa]
                  have HXa : Hid (IntsAt w0 xa (x.length - (k + 2)) (x.drop (k + 2))) := by
                    show IntsAt _ _ _ _
                    rw [hxa]
                    split
                    · have e : x.length - (k + 2) = 0 := by omega
                      rw [e, List.drop_eq_nil_of_le (by omega)]
                      exact IntsAt.nil _ _
                    · have h := HI.out.part (k + 2) (x.length - (k + 2)) (by omega)
                      rwa [List.take_of_length_le (by rw [List.length_drop]; exact Nat.le_refl _)] at h
                  have HXn : Hid (xa = none → c - (k + 2) = 0) := fun e => by rw [hxa] at e; split at e <;> cases e
                  clear hxa
                  have HTk : Hid (IntsAt w0 (some ⟨bx, ox, none⟩) k (x.take k)) := by
                    have h := HI.out.part 0 k (by omega)
                    show IntsAt _ _ _ _
                    simpa using h
                  have HRows := hidP (fun (W : World) (hW : Ext w5 W) => (⟨rfl, fun i hi => by
                    have hm1 := M1.out
                    have hm2 := M2.out
                    have hxm := HXq.out.trans (ExtM.of_ext (b1 := b1) (b2 := b2) (hE5.trans hW))
                    have hall := ((Ext.alloc W (.cells #[.slice (some ⟨bx, ox, none⟩) k c, .slice (some ⟨bq, 0, none⟩) 1 1, .slice xa (x.length - (k + 2)) (c - (k + 2))] 22)))
                    have hc : ∀ j, (W.alloc (.cells #[.slice (some ⟨bx, ox, none⟩) k c, .slice (some ⟨bq, 0, none⟩) 1 1, .slice xa (x.length - (k + 2)) (c - (k + 2))] 22)).cell? ⟨W.heap.size, j, none⟩ = #[Value.slice (some ⟨bx, ox, none⟩) k c, .slice (some ⟨bq, 0, none⟩) 1 1, .slice xa (x.length - (k + 2)) (c - (k + 2))][j]? := fun j => cell_top _ _ _ _ _ rfl
                    have hlt2 : k ≤ x.length := by omega
                    match i, hi with
                    | 0, _ => exact ⟨W.heap.size, 0, some ⟨bx, ox, none⟩, c, rfl, by rw [hc]; simp [Nat.min_eq_left hlt2], by simpa [Nat.min_eq_left hlt2] using ((HTk.out.extM hxm hm1 hm2).below hall), fun e => by cases e⟩
                    | 1, _ => exact ⟨W.heap.size, 0, some ⟨bq, 0, none⟩, 1, rfl, by rw [hc]; simp, (HOne.out.below hW).below hall, fun e => by cases e⟩
                    | 2, _ => exact ⟨W.heap.size, 0, xa, c - (k + 2), rfl, by rw [hc]; simp, by simpa using ((HXa.out.extM hxm hm1 hm2).below hall), HXn.out⟩⟩ :
                      RowsI (W.alloc (.cells #[.slice (some ⟨bx, ox, none⟩) k c, .slice (some ⟨bq, 0, none⟩) 1 1, .slice xa (x.length - (k + 2)) (c - (k + 2))] 22)) (some ⟨W.heap.size, 0, none⟩) 3 [x.take k, [(q : Int)], x.drop (k + 2)]))
                  (refine walkR_only (fun w' => Ext wr w') rfl (by decide +kernel) rfl ?_ ?_)
                  · exact fun _ h => h
                  intro K hK
                  go_simp
                  have hE6 : Ext wr (w5.alloc (.cells #[.slice (some ⟨bx, ox, none⟩) k c, .slice (some ⟨bq, 0, none⟩) 1 1, .slice xa (x.length - (k + 2)) (c - (k + 2))] 22)) := hE5.trans (Ext.alloc _ _)
                  have hcl := cutA_length (k := (q : Int)) hlt
                  have hRw := concat_any (some ⟨w5.heap.size, 0, none⟩) 3 3 _ _ (HRows.out w5 (Ext.refl w5)) (by omega) (by rw [cutA_rows]; omega)
                  rw [cutA_rows] at hRw
                  have HCc := hidP hRw
                  refine hK _ _ hE6 ?_
                  clear hK K hRw HRows
                  (try simp only [Act.put, List.setIfInBounds_toArray, List.set_cons_zero, List.set_cons_succ])
                  (refine walkR_only (fun w' => Ext wr w') rfl (by decide +kernel) rfl (fun _ h => h) ?_; intro K hK; go_simp; refine (HCc.out).mono ?_; rintro e w7 ⟨a7, c7, rfl, ho7, hx7⟩; refine hK _ _ (hE6.trans hx7) ?_; clear hK K; (try simp only [Act.put, List.setIfInBounds_toArray, List.set_cons_zero, List.set_cons_succ]))
                  have hE7 := hE6.trans hx7
                  obtain ⟨n1, f11, f21, hn1, hC1⟩ := HCq.out
                  have hbm := brkT_mono d (rowE d ts) p f x k v (show q + 1 ≤ d by omega)
                  have hbl : (brkT d (rowE d ts) p f x k v (q + 1)).length = (brkT d (rowE d ts) p f x k v q).length + (strT d (rowE d ts) p f (cutA x k (q : Int)) u).length := by rw [HBs.out, List.length_append]
                  have hxw := HXq.out.trans (ExtM.of_ext (b1 := b1) (b2 := b2) hE7)
                  have HS2 := hidP (IH.out n1 (L ++ strT d (rowE d ts) p f (swapA x k) v ++ brkT d (rowE d ts) p f x k v q) f11 f21 a7 (cutA x k (q : Int)).length c7 (cutA x k (q : Int)) u w7 (by have h1 := fuel_cut HDs.out hx6 (q : Int); have h2 := HF.out; omega) (hC1.below hE7) ho7.ints ho7.nilc ho7.room2 (HW.out.cut hlt hql) (by omega) hu0 hu1 (by have h1 := HNn.out; have h2 := HLn.out; omega) (HT.out.extM hxw M1.out M2.out) (HTb.out.extM hxw M1.out M2.out))
                  have hm1 := (hC1.below hE7).m1.is
                  have hm2 := (hC1.below hE7).m2.is
                  have N1 := hidP hm1
                  have N2 := hidP hm2
                  have HA7 := hidP (HAq.out.below hE7)
                  have HX7 := hidP hxw
                  have HBl := hidP (show n1 + (strT d (rowE d ts) p f (cutA x k (q : Int)) u).length ≤ n + (strT d (rowE d ts) p f (swapA x k) v).length + (brkT d (rowE d ts) p f x k v (q + 1)).length by omega)
                  clear hm1 hm2 hxw hbm hbl hn1 hC1 ho7 hx7 hE6 hE5 hE7 hcl HCc
                  (refine walkR_tail (by rfl) (by kernel_rfl) ?_; simp only [List.drop_succ_cons, List.drop_zero])
                  go_wp2_with fail
                  refine HS2.out.mono ?_
                  rintro e w8 ⟨rfl, ⟨n8, f18, f28, hn8, hC8⟩, hx8⟩
                  have HC8 : Hid (∃ n' f1' f2', n' ≤ n + (strT d (rowE d ts) p f (swapA x k) v).length + (brkT d (rowE d ts) p f x k v (q + 1)).length ∧ Counts w8 b1 b2 n' (gM p (L ++ strT d (rowE d ts) p f (swapA x k) v ++ brkT d (rowE d ts) p f x k v (q + 1))) f1' f2') :=
                    ⟨n8, f18, f28, Nat.le_trans hn8 HBl.out, by rw [HBs.out, ← List.append_assoc]; exact hC8⟩
                  have HA8 := hidP (HA7.out.extM hx8 N1.out N2.out)
                  have HX8 := hidP (HX7.out.trans hx8)
                  clear hn8 hC8 hx8
                  go_wp2
                  go_roundw
                  case rel => exact ⟨q + 1, by omega, by go_num, HC8, HA8, HX8⟩
                  case measure => simp [intOf]; omega
              · obtain rfl : q = d := by omega
                have HC8 : Hid (∃ n' f1' f2', n' ≤ n + (strT q (rowE q ts) p (f + 1) x v).length ∧ Counts wr b1 b2 n' (gM p (L ++ strT q (rowE q ts) p (f + 1) x v)) f1' f2') := by
                  obtain ⟨n1, f11, f21, hn1, hC1⟩ := HCq.out
                  refine ⟨n1, f11, f21, ?_, ?_⟩
                  · have := HLn.out; omega
                  · rw [HE.out, ← List.append_assoc]; exact hC1
                have HX8 := hidP ((ExtM.of_ext (b1 := b1) (b2 := b2) HX0.out).trans HXq.out)
                clear HCq HXq
                go_wp2
                refine bodyPost_ret (v := .tuple #[]) (by simp [results, Tryz.results52]) rfl ⟨rfl, HC8.out, HX8.out⟩
          · have hle2 := of_decide_eq_true hle
            have HJ2 : Hid (∀ j, j < k + 1 → x.getD j 0 ≤ x.getD (j + 1) 0) := by
              intro j hj
              rcases Nat.lt_succ_iff_lt_or_eq.1 hj with h3 | rfl
              · exact HJ.out j h3
              · rw [← HY0.out, ← HY1.out]; exact hle2
            clear hle
            go_wp2
            go_quiet (fail)
            go_wp2
            go_roundw
            case rel => exact ⟨k + 1, .inr (by omega), by go_num, HJ2, HX.out.trans (Ext.drewN _ _)⟩
            case measure => simp [intOf]; omega
        · have hki : ¬ ((k : Int) < (x.length : Int) - 1) := by omega
          have HE : Hid (strT d (rowE d ts) p (f + 1) x v = [(x, v)]) := strT_end v fun j hj => HJ.out j (by omega)
          have HAd := hidP (envAdd_any p d ta N tc b1 b2 n L f1 f2 a x.length c x v wr (HC.out.below HX.out) (wordB_key hd HW.out hx6) (HI.out.below HX.out) HNil.out (by have := HNn.out; omega) hp hp2 hv0 hv1 (HTb.out.below HX.out))
          obtain ⟨z0, z1, z2, z3, z4⟩ := HA.out.below HX.out
          go_wp2_with fail
          refine HAd.out.mono ?_
          rintro e w7 ⟨rfl, ⟨f1', f2', hC7⟩, hx7⟩
          rw [← HE.out] at hC7
          have HC7 := hidP hC7
          have HX7 := hidP (((ExtM.of_ext (b1 := b1) (b2 := b2) HX0.out).trans (ExtM.of_ext HX.out)).trans hx7)
          have hlen : (strT d (rowE d ts) p (f + 1) x v).length = 1 := by rw [HE.out]; rfl
          clear hC7 hx7
          go_wp2
          go_end0
          exact ⟨rfl, ⟨n + 1, f1', f2', by omega, HC7.out⟩, HX7.out⟩
end Go.Proofs.YtcfgcacmmmhjcaaGreatDoor
