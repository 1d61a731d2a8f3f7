/-
  The matrix of a type of one part, by the program.
-/
import Derived.Test.YtnfbfdamlnjblaaGreatDoorCarA
import Derived.Laws.EntriesVeiled
namespace Go.Proofs.YtnfbfdamlnjblaaGreatDoor
open Go.RowKit

theorem containsS_any (a : Option Addr) (n c : Nat) (ss : List ByteArray) (x : ByteArray) (w : World) (h : StrsAt w a n ss) (hn : n ≤ 1000000000000) :
    Calls Tryz.prog 217 #[.slice a n c, .string x] w fun e w' => e = .returned (.bool (Lib.containsS ss x)) ∧ w = w' := by
  have hl := h.len
  rcases Nat.eq_zero_or_pos n with rfl | h0
  · have : ss = [] := List.eq_nil_of_length_eq_zero hl
    subst this
    exact (Tryz.slices_Contains_string_empty a c x w).mono fun e w' ⟨he, hw⟩ => ⟨he, hw.symm⟩
  · obtain ⟨b, o, rfl, _⟩ := h.get 0 h0
    refine (Tryz.slices_Contains_string b o n c ss x w (by omega) (by omega) fun j hj => ?_).mono fun e w' ⟨he, hw⟩ => ⟨?_, hw.symm⟩
    · obtain ⟨b', o', e, hc⟩ := h.get j (by omega)
      simp only [Option.some.injEq, Addr.mk.injEq, and_true] at e
      obtain ⟨rfl, rfl⟩ := e
      exact hc
    · rw [he, List.take_of_length_le (by omega)]

def chainM (n : Nat) (d4 : Bool) : Nat → List Int
  | 0 => List.replicate (n * n) 0
  | i + 1 => if decide (i + 1 < n) && !d4 then (((chainM n d4 i).set (i * n + i) 2).set (i * n + (i + 1)) (-1)).set ((i + 1) * n + i) (-1) else (chainM n d4 i).set (i * n + i) 2
def letterN (k : Nat) : Nat := if k < 4 then 65 else if k < 7 then 66 else if k < 9 then 67 else if k = 9 then 68 else if k = 10 then 70 else 71
theorem place_nat (a b n : Nat) : (((a : Int) + 1 - 1) * (n : Int) + ((b : Int) + 1)).toNat - 1 = a * n + b := by
  have : ((a : Int) + 1 - 1) * (n : Int) + ((b : Int) + 1) = ((a * n + b + 1 : Nat) : Int) := by
    rw [Int.add_sub_cancel, Int.natCast_add, Int.natCast_add, Int.natCast_mul]
    omega
  rw [this]
  omega
set_option maxRecDepth 100000 in
set_option maxHeartbeats 4000000 in
theorem partCartan_any (k : Nat) (hk : k < 12) (s : ByteArray) (hs : s = nameS.getD k ByteArray.empty) (w : World) :
    Calls Tryz.prog 206 #[.string s] w fun e w' => ∃ a, e = .returned (.tuple #[carV (pRank k) a (pRank k * pRank k) (pRank k * pRank k), .bool true]) ∧ OwnI w' w.heap.size a (pRank k * pRank k) (pRank k * pRank k) (pMat k) ∧ Ext w w' := by
  have hc : Lib.containsS nameS s = true := by
    subst hs
    have : ∀ k, k < 12 → Lib.containsS nameS (nameS.getD k ByteArray.empty) = true := by decide +kernel
    exact this k hk
  have h2 : s.size = 2 := by
    subst hs
    have : ∀ k, k < 12 → (nameS.getD k ByteArray.empty).size = 2 := by decide +kernel
    exact this k hk
  have h2' : 1 < s.size := by omega
  obtain ⟨hn1, hn4⟩ := pRank_pos k hk
  have hb : ((s[1].toNat : Int) - 48) % 256 = (pRank k : Int) := by
    have key : ∀ k, k < 12 → ((((nameS.getD k ByteArray.empty).data[1]?.getD 0).toNat : Int) - 48) % 256 = (pRank k : Int) := by decide +kernel
    have := key k hk
    rw [← hs] at this
    rw [← this]
    congr 2
    have h3 : 1 < s.data.size := h2'
    rw [Array.getElem?_eq_getElem h3]
    rfl
  have hD : (s.toList == [68, 52]) = (k == 9) := by
    have key : ∀ k, k < 12 → ((nameS.getD k ByteArray.empty).toList == [68, 52]) = (k == 9) := by decide +kernel
    rw [hs]
    exact key k hk
  have HD := hidP hD
  have HL0 : Hid (∀ c, letterN k = c → s[0].toNat = c) := by
    rintro c rfl
    have key : ∀ k, k < 12 → ((nameS.getD k ByteArray.empty).data[0]?.getD 0).toNat = letterN k := by decide +kernel
    have := key k hk
    rw [← hs] at this
    rw [← this]
    have h3 : 0 < s.data.size := by have : s.data.size = 2 := h2; omega
    rw [Array.getElem?_eq_getElem h3]
    rfl
  clear hD
  obtain ⟨d4, hd4⟩ : ∃ d, d = (k == 9) := ⟨_, rfl⟩
  rw [← hd4] at HD
  generalize hnk : pRank k = n at *
  have HK := hidP hnk
  have HK4 := hidP hd4
  clear hnk hd4
  have HC := hidP hc
  have HN := hidP (fun w' => partNames_any w')
  clear hc hs
  go_enter Tryz.func206, Tryz.ntmps206
  go_wp2_with fail
  refine (HN.out _).mono ?_
  rintro e w1 ⟨bn, rfl, hs1, hx1⟩
  have HX1 := hidP ((Ext.alloc w (.cells #[.int .i64 0, .slice none 0 0] 55)).trans hx1)
  have HX1a := hidP hx1
  have HB2 : Hid (w.heap.size < w1.heap.size) := by show _ < _; have := hx1.size; simp at this; omega
  have H1 := hidP (containsS_any _ 12 12 nameS s w1 hs1 (by omega))
  rw [HC.out] at H1
  clear hs1 hx1
  go_wp2_with fail
  refine H1.out.mono ?_
  rintro e w' ⟨rfl, rfl⟩
  go_wp2
  have hx4 := Ext.alloc w1 (.cells #[.int .i64 n] 3)
  have hq4 : (w1.alloc (.cells #[.int .i64 n] 3)).cell? ⟨w1.heap.size, 0, none⟩ = some (.int .i64 n) := (cell_top _ _ _ _ _ rfl).trans rfl
  obtain ⟨b4, hb4⟩ : ∃ b, b = w1.heap.size := ⟨_, rfl⟩
  obtain ⟨w4, hw4⟩ : ∃ w, w = w1.alloc (.cells #[.int .i64 n] 3) := ⟨_, rfl⟩
  rw [← hb4] at hq4 ⊢
  rw [← hw4] at hx4 hq4 ⊢
  have hnn : (n : Int) * n ≤ 16 := by
    have := Nat.mul_le_mul hn4 hn4
    have h : ((n * n : Nat) : Int) ≤ ((4 * 4 : Nat) : Int) := by exact_mod_cast this
    rw [Int.natCast_mul] at h
    exact h
  have hnn0 : 0 ≤ (n : Int) * n := Int.mul_nonneg (by omega) (by omega)
  have hmk := make_ints ((n : Int) * n) hnn0 (by omega)
  have hwr : IntKind.i64.wrap ((n : Int) * n) = (n : Int) * n := wrap_in (by omega) (by omega)
  have hmn : ((n : Int) * n).toNat = n * n := by rw [← Int.natCast_mul]; rfl
  rw [hmn] at hmk
  clear hmn hw4 hb4 hb
  go_region_held3 (fun w' => w'.cell? ⟨b4, 0, none⟩ = some (.int .i64 n)) (go_keep) (fail)
  all_goals first
    | (
        have hz := OwnI.made w4 w.heap.size (n * n) (by have := HX1.out.size; have := hx4.size; omega) (by unfold maxLen; omega)
        have hxa := Ext.alloc w4 (.cells (Array.replicate (n * n) (.int .i64 0)) 3)
        have hxb := Ext.alloc (w4.alloc (.cells (Array.replicate (n * n) (.int .i64 0)) 3)) (.cells #[.int .i64 n, .slice (some ⟨w4.heap.size, 0, none⟩) (n * n) (n * n)] 55)
        have hcar := CarAt.new (w4.alloc (.cells (Array.replicate (n * n) (.int .i64 0)) 3)) (w4.heap.size + 1) (by simp) n (some ⟨w4.heap.size, 0, none⟩) (n * n) (n * n) 55
        obtain ⟨w5, hw5⟩ : ∃ w5, w5 = ((w4.alloc (Obj.cells (Array.replicate (n * n) (Value.int IntKind.i64 0)) 3)).alloc (Obj.cells #[Value.int IntKind.i64 ↑n, Value.slice (some ⟨w4.heap.size, 0, none⟩) (n * n) (n * n)] 55)).drew := ⟨_, rfl⟩
        have hx5 : Ext w4 w5 := by rw [hw5]; exact (hxa.trans hxb).trans (Ext.drew _)
        have ho5 : OwnI w5 w.heap.size (some ⟨w4.heap.size, 0, none⟩) (n * n) (n * n) (List.replicate (n * n) 0) := by rw [hw5]; exact (hz.below hxb).below (Ext.drew _)
        have hc5 : CarAt w5 (w4.heap.size + 1) n (some ⟨w4.heap.size, 0, none⟩) (n * n) (n * n) := by rw [hw5]; exact hcar.below (Ext.drew _)
        rw [← hw5]
        clear hw5 hz hxa hxb hcar
        obtain ⟨g, hg⟩ : ∃ g, g = w4.heap.size := ⟨_, rfl⟩
        obtain ⟨b5, hb5⟩ : ∃ b, b = w4.heap.size + 1 := ⟨_, rfl⟩
        have hne : b5 ≠ g := by omega
        have hg4 : w4.heap.size ≤ g := by omega
        rw [← hb5] at hc5 ⊢
        rw [← hg] at ho5 hc5 ⊢
        clear hg hb5)
    | (
        have hxa := Ext.alloc w4 (.cells #[.int .i64 n, .slice (some ⟨w4.heap.size + 1, 0, none⟩) (n * n) (n * n)] 55)
        have hz := OwnI.made (w4.alloc (.cells #[.int .i64 n, .slice (some ⟨w4.heap.size + 1, 0, none⟩) (n * n) (n * n)] 55)) w.heap.size (n * n) (by have := HX1.out.size; have := hx4.size; have := hxa.size; omega) (by unfold maxLen; omega)
        have hxb := Ext.alloc (w4.alloc (.cells #[.int .i64 n, .slice (some ⟨w4.heap.size + 1, 0, none⟩) (n * n) (n * n)] 55)) (.cells (Array.replicate (n * n) (.int .i64 0)) 3)
        have hcar := (CarAt.new w4 w4.heap.size rfl n (some ⟨w4.heap.size + 1, 0, none⟩) (n * n) (n * n) 55).below hxb
        rw [show (w4.alloc (.cells #[.int .i64 n, .slice (some ⟨w4.heap.size + 1, 0, none⟩) (n * n) (n * n)] 55)).heap.size = w4.heap.size + 1 by simp] at hz
        obtain ⟨w5, hw5⟩ : ∃ w5, w5 = ((w4.alloc (Obj.cells #[Value.int IntKind.i64 ↑n, Value.slice (some ⟨w4.heap.size + 1, 0, none⟩) (n * n) (n * n)] 55)).alloc (Obj.cells (Array.replicate (n * n) (Value.int IntKind.i64 0)) 3)).drew := ⟨_, rfl⟩
        have hx5 : Ext w4 w5 := by rw [hw5]; exact (hxa.trans hxb).trans (Ext.drew _)
        have ho5 : OwnI w5 w.heap.size (some ⟨w4.heap.size + 1, 0, none⟩) (n * n) (n * n) (List.replicate (n * n) 0) := by rw [hw5]; exact hz.below (Ext.drew _)
        have hc5 : CarAt w5 w4.heap.size n (some ⟨w4.heap.size + 1, 0, none⟩) (n * n) (n * n) := by rw [hw5]; exact hcar.below (Ext.drew _)
        rw [← hw5]
        clear hw5 hz hxa hxb hcar
        obtain ⟨g, hg⟩ : ∃ g, g = w4.heap.size + 1 := ⟨_, rfl⟩
        obtain ⟨b5, hb5⟩ : ∃ b, b = w4.heap.size := ⟨_, rfl⟩
        have hne : b5 ≠ g := by omega
        have hg4 : w4.heap.size ≤ g := by omega
        rw [← hg] at ho5 hc5 ⊢
        rw [← hb5] at hc5 ⊢
        clear hg hb5)
  all_goals
    have H5 := hidP ho5
    have HC5 := hidP hc5
    have HX5 := hidP ((HX1.out.trans hx4).trans hx5)
    have HX45 := hidP hx5
    have HX16 := hidP hx4
    have HG := hidP hne
    have HG4 := hidP hg4
    have hcp := callFunc_put
    have hcb := callFunc_both
    clear ho5 hc5 hx5 hx4 hne hg4 hwr hmk HC HN
    go_wp2
    have hx6 := Ext.alloc w5 (.cells #[.func (.func 218) #[] #[.pointer (some ⟨b5, 0, none⟩), .pointer (some ⟨b4, 0, none⟩)]] 217)
    have hq6 : (w5.alloc (.cells #[.func (.func 218) #[] #[.pointer (some ⟨b5, 0, none⟩), .pointer (some ⟨b4, 0, none⟩)]] 217)).cell? ⟨w5.heap.size, 0, none⟩ = some (.func (.func 218) #[] #[.pointer (some ⟨b5, 0, none⟩), .pointer (some ⟨b4, 0, none⟩)]) := (cell_top _ _ _ _ _ rfl).trans rfl
    obtain ⟨b6, hb6⟩ : ∃ b, b = w5.heap.size := ⟨_, rfl⟩
    obtain ⟨w6, hw6⟩ : ∃ w, w = w5.alloc (.cells #[.func (.func 218) #[] #[.pointer (some ⟨b5, 0, none⟩), .pointer (some ⟨b4, 0, none⟩)]] 217) := ⟨_, rfl⟩
    rw [← hb6] at hq6 ⊢
    rw [← hw6] at hx6 hq6 ⊢
    have hb4 : b4 < w4.heap.size := World.block_lt_of_cell? w4 _ hq4
    have hg5 : g < w5.heap.size := (H5.out.at_base g 0 rfl).2
    have n1 : b6 ≠ g := by omega
    have n3 : b4 ≠ g := by have := HG4.out; omega
    have h46 : b4 < w6.heap.size := Nat.lt_of_lt_of_le hb4 (Nat.le_trans (show w4.heap.size ≤ w5.heap.size from HX45.out.size) hx6.size)
    have HGW : Hid (g ≠ w.heap.size) := by show _ ≠ _; have := HG4.out; have := HB2.out; have := HX16.out.size; omega
    have HGB : Hid (w.heap.size ≤ g) := by show _ ≤ _; have := HG4.out; have := HB2.out; have := HX16.out.size; omega
    have HP6 : Hid (PutAt w6 b6 b5 b4 g (n * n) (n * n) n) :=
      ⟨hq6, (HC5.out.below hx6).c1, (hx6.cell (p := ⟨b4, 0, none⟩) (Nat.lt_of_lt_of_le hb4 HX45.out.size)).trans ((HX45.out.cell (p := ⟨b4, 0, none⟩) hb4).trans hq4), n1, HG.out, n3⟩
    clear n1 n3 hb4 hg5
    have H6 := hidP (H5.out.below hx6)
    have HX6 := hidP (HX5.out.trans hx6)
    have HF6 : Hid (∀ t, t < n * n → w6.frozen? ⟨g, t, none⟩ = false) := fun t ht => by
      have := H6.out.unfrozen t g 0 ht rfl
      rwa [Nat.zero_add] at this
    have HC6 := hidP (HC5.out.below hx6)
    have HR6 : Hid (∀ v fin, UpdI w6 v (some ⟨g, 0, none⟩) (n * n) fin → v.cell? ⟨w.heap.size, 0, none⟩ = some (.int .i64 0) ∧ v.cell? ⟨w.heap.size, 1, none⟩ = some (.slice none 0 0) ∧ v.frozen? ⟨w.heap.size, 0, none⟩ = false ∧ v.frozen? ⟨w.heap.size, 1, none⟩ = false ∧ w.heap.size < v.heap.size) := fun v fin hu => by
      have hx := (HX1a.out.trans (HX16.out.trans HX45.out)).trans hx6
      obtain ⟨a0, a1⟩ := new_cell (w := w) (b := w.heap.size) rfl hx 0
      obtain ⟨b0, b1⟩ := new_cell (w := w) (b := w.heap.size) rfl hx 1
      have hlt : w.heap.size < w6.heap.size := by have := hx.size; simp at this; omega
      exact ⟨hu.far a0 (Ne.symm HGW.out), hu.far b0 (Ne.symm HGW.out), (hu.farF hlt (Ne.symm HGW.out)).trans a1, (hu.farF hlt (Ne.symm HGW.out)).trans b1, Nat.lt_of_lt_of_le hlt hu.size⟩
    have HU0 := hidP (UpdI.start H6.out.ints)
    have hb26 : w.heap.size < w6.heap.size := by have := HX45.out.size; have := hx6.size; have := HB2.out; have := HX16.out.size; omega
    have hm : ((n * n : Nat) : Int) = (n : Int) * n := Int.natCast_mul n n
    have HMM := hidP hm
    clear hm
    clear hq6 hx6 H5 HC5 HX5 HX45 hw6 hb6 hq4
    go_loopw [8] (fun i wr => ∃ q : Nat, q ≤ n ∧ i = .int .i64 ((q : Int) + 1) ∧ Hid (UpdI w6 wr (some ⟨g, 0, none⟩) (n * n) (chainM n d4 q))) (fun i _ => n + 1 - (intOf i).toNat)
    case atStart => exact ⟨0, Nat.zero_le _, rfl, HU0⟩
    case round =>
      obtain ⟨q, hq, rfl, HU⟩ := hrel
      by_cases hlt : q < n
      · have HPU := hidP (put_upd ((q : Int) + 1) ((q : Int) + 1) 2 n b5 b4 g (n * n) (n * n) _ w6 wr (HP6.out.upd HU.out).h1 (HP6.out.upd HU.out).h2 (by omega) (by omega) (by omega) (by omega) (by omega) HMM.out HU.out HF6.out)
        rw [place_nat] at HPU
        obtain ⟨f0, f1, f2, _, _, _⟩ := HP6.out.upd HU.out
        go_wp2_with fail
        refine HPU.out.mono ?_
        rintro e w7 ⟨rfl, hu7⟩
        have HU7 := hidP hu7
        clear hu7 f0 f1 f2 HPU
        obtain ⟨f0, f1, f2, _, _, _⟩ := HP6.out.upd HU7.out
        by_cases hq1 : q + 1 < n
        · have hq1' : (q : Int) + 1 < n := by omega
          cases d4
          · have hd := HD.out
            have HE : Hid (chainM n false (q + 1) = (((chainM n false q).set (q * n + q) 2).set (q * n + (q + 1)) (-1)).set ((q + 1) * n + q) (-1)) := by
              show _ = _
              rw [chainM, if_pos (by simp [hq1])]
            have HBU := hidP (both_upd ((q : Int) + 1) ((q : Int) + 1 + 1) n b6 b5 b4 g (n * n) (n * n) _ w6 w7 HP6.out (by omega) (by omega) (by omega) (by omega) (by omega) HMM.out HU7.out HF6.out)
            rw [show (q : Int) + 1 + 1 = ((q + 1 : Nat) : Int) + 1 by omega, place_nat, place_nat, ← HE.out] at HBU
            simp only [Int.natCast_add, Int.cast_ofNat_Int] at HBU
            go_wp2_with fail
            refine HBU.out.mono ?_
            rintro e w8 ⟨rfl, hu8⟩
            have HU8 := hidP hu8
            clear hu8 f0 f1 f2 HBU
            go_wp2
            go_roundw
            case rel => exact ⟨q + 1, by omega, by go_num, HU8⟩
            case measure => simp [intOf]; omega
          · have hd := HD.out
            have HE : Hid (chainM n true (q + 1) = (chainM n true q).set (q * n + q) 2) := by
              show _ = _
              rw [chainM, if_neg (by simp)]
            rw [← HE.out] at HU7
            go_wp2
            go_roundw
            case rel => exact ⟨q + 1, by omega, by go_num, HU7⟩
            case measure => simp [intOf]; omega
        · have hq1' : ¬ (q : Int) + 1 < n := by omega
          have HE : Hid (chainM n d4 (q + 1) = (chainM n d4 q).set (q * n + q) 2) := by
            show _ = _
            rw [chainM, if_neg (by simp [hq1])]
          rw [← HE.out] at HU7
          go_wp2
          go_roundw
          case rel => exact ⟨q + 1, by omega, by go_num, HU7⟩
          case measure => simp [intOf]; omega
      · obtain rfl : q = n := by omega
        have HKQ := HK
        have hcase : k < 4 ∨ (4 ≤ k ∧ k < 7) ∨ (7 ≤ k ∧ k < 9) ∨ k = 9 ∨ k = 10 ∨ k = 11 := by omega
        rcases hcase with hkc | hkc | hkc | hkc | hkc | hkc
        · have h0 : s[0].toNat = 65 := HL0.out 65 (by unfold letterN; rw [if_pos hkc])
          have HCK := hidP hkc
          clear hkc
          obtain ⟨fin, hfin⟩ : ∃ l, l = pMat k := ⟨_, rfl⟩
          have HUF : Hid (UpdI w6 wr (some ⟨g, 0, none⟩) (q * q) fin) := by
            have h := HU.out
            show UpdI _ _ _ _ _
            rw [hfin]
            obtain rfl | rfl | rfl | rfl : k = 0 ∨ k = 1 ∨ k = 2 ∨ k = 3 := by have := HCK.out; omega
            all_goals
              have hd := HK4.out
              have hn := HK.out
              subst hd
              subst hn
              exact h
          have HFN := hidP hfin
          clear hfin
          obtain ⟨g0, g1⟩ := HC6.out
          have f0 := HUF.out.far g0 HG.out
          obtain ⟨f2, f1, f3, _, _, _⟩ := HP6.out.upd HUF.out
          obtain ⟨r0, r1, r2, r3, r4⟩ := HR6.out wr fin HUF.out
          have HEnd : Hid (OwnI ((wr.setCell ⟨w.heap.size, 0, none⟩ (.int .i64 q)).setCell ⟨w.heap.size, 1, none⟩ (.slice (some ⟨g, 0, none⟩) (q * q) (q * q))) w.heap.size (some ⟨g, 0, none⟩) (q * q) (q * q) (pMat k) ∧ Ext w ((wr.setCell ⟨w.heap.size, 0, none⟩ (.int .i64 q)).setCell ⟨w.heap.size, 1, none⟩ (.slice (some ⟨g, 0, none⟩) (q * q) (q * q)))) := by
            refine ⟨?_, ?_⟩
            · have h := HUF.out.own H6.out
              rw [HFN.out] at h
              exact (h.setFar _ 0 _ (HGW.out)).setFar _ 1 _ (HGW.out)
            · have h : Ext w wr := HUF.out.below HX6.out HX6.out.size fun b o e _ => by cases e; exact HGB.out
              exact (h.setNew _ _ (Nat.le_refl _) _).setNew _ _ (Nat.le_refl _) _
          clear g0 g1
          go_wp2
          refine bodyPost_ret (v := .tuple #[carV q (some ⟨g, 0, none⟩) (q * q) (q * q), .bool true]) (by simp [results, Tryz.results206, go_sem, r0, r1]) rfl ⟨some ⟨g, 0, none⟩, rfl, ?_, ?_⟩
          · exact HEnd.out.1
          · exact HEnd.out.2
        · have h0 : s[0].toNat = 66 := HL0.out 66 (by unfold letterN; rw [if_neg (by omega), if_pos (by omega)])
          have hq2 : 2 ≤ q := by
            have key : ∀ k, k < 12 → (4 ≤ k ∧ k < 7) → 2 ≤ pRank k := by decide
            rw [← HK.out]
            exact key k hk hkc
          have HCK := hidP hkc
          clear hkc
          obtain ⟨f0, f1, f2, _, _, _⟩ := HP6.out.upd HU.out
          have HPU := hidP (put_upd ((q : Int)) ((q : Int) - 1) (-2) q b5 b4 g (q * q) (q * q) _ w6 wr (HP6.out.upd HU.out).h1 (HP6.out.upd HU.out).h2 (by omega) (by omega) (by omega) (by omega) (by omega) HMM.out HU.out HF6.out)
          go_wp2_with fail
          refine HPU.out.mono ?_
          rintro e v1 ⟨rfl, hu⟩
          have HU11 := hidP hu
          clear hu f0 f1 f2 HPU
          obtain ⟨fin, hfin⟩ : ∃ l, l = pMat k := ⟨_, rfl⟩
          have HUF : Hid (UpdI w6 v1 (some ⟨g, 0, none⟩) (q * q) fin) := by
            have h := HU11.out
            show UpdI _ _ _ _ _
            rw [hfin]
            obtain rfl | rfl | rfl : k = 4 ∨ k = 5 ∨ k = 6 := by have := HCK.out; omega
            all_goals
              have hd := HK4.out
              have hn := HK.out
              subst hd
              subst hn
              exact h
          have HFN := hidP hfin
          clear hfin
          obtain ⟨g0, g1⟩ := HC6.out
          have f0 := HUF.out.far g0 HG.out
          obtain ⟨f2, f1, f3, _, _, _⟩ := HP6.out.upd HUF.out
          obtain ⟨r0, r1, r2, r3, r4⟩ := HR6.out v1 fin HUF.out
          have HEnd : Hid (OwnI ((v1.setCell ⟨w.heap.size, 0, none⟩ (.int .i64 q)).setCell ⟨w.heap.size, 1, none⟩ (.slice (some ⟨g, 0, none⟩) (q * q) (q * q))) w.heap.size (some ⟨g, 0, none⟩) (q * q) (q * q) (pMat k) ∧ Ext w ((v1.setCell ⟨w.heap.size, 0, none⟩ (.int .i64 q)).setCell ⟨w.heap.size, 1, none⟩ (.slice (some ⟨g, 0, none⟩) (q * q) (q * q)))) := by
            refine ⟨?_, ?_⟩
            · have h := HUF.out.own H6.out
              rw [HFN.out] at h
              exact (h.setFar _ 0 _ (HGW.out)).setFar _ 1 _ (HGW.out)
            · have h : Ext w v1 := HUF.out.below HX6.out HX6.out.size fun b o e _ => by cases e; exact HGB.out
              exact (h.setNew _ _ (Nat.le_refl _) _).setNew _ _ (Nat.le_refl _) _
          clear g0 g1
          go_wp2
          refine bodyPost_ret (v := .tuple #[carV q (some ⟨g, 0, none⟩) (q * q) (q * q), .bool true]) (by simp [results, Tryz.results206, go_sem, r0, r1]) rfl ⟨some ⟨g, 0, none⟩, rfl, ?_, ?_⟩
          · exact HEnd.out.1
          · exact HEnd.out.2
        · have h0 : s[0].toNat = 67 := HL0.out 67 (by unfold letterN; rw [if_neg (by omega), if_neg (by omega), if_pos (by omega)])
          have hq2 : 3 ≤ q := by
            have key : ∀ k, k < 12 → (7 ≤ k ∧ k < 9) → 3 ≤ pRank k := by decide
            rw [← HK.out]
            exact key k hk hkc
          have HCK := hidP hkc
          clear hkc
          obtain ⟨f0, f1, f2, _, _, _⟩ := HP6.out.upd HU.out
          have HPU := hidP (put_upd ((q : Int) - 1) ((q : Int)) (-2) q b5 b4 g (q * q) (q * q) _ w6 wr (HP6.out.upd HU.out).h1 (HP6.out.upd HU.out).h2 (by omega) (by omega) (by omega) (by omega) (by omega) HMM.out HU.out HF6.out)
          go_wp2_with fail
          refine HPU.out.mono ?_
          rintro e v1 ⟨rfl, hu⟩
          have HU11 := hidP hu
          clear hu f0 f1 f2 HPU
          obtain ⟨fin, hfin⟩ : ∃ l, l = pMat k := ⟨_, rfl⟩
          have HUF : Hid (UpdI w6 v1 (some ⟨g, 0, none⟩) (q * q) fin) := by
            have h := HU11.out
            show UpdI _ _ _ _ _
            rw [hfin]
            obtain rfl | rfl : k = 7 ∨ k = 8 := by have := HCK.out; omega
            all_goals
              have hd := HK4.out
              have hn := HK.out
              subst hd
              subst hn
              exact h
          have HFN := hidP hfin
          clear hfin
          obtain ⟨g0, g1⟩ := HC6.out
          have f0 := HUF.out.far g0 HG.out
          obtain ⟨f2, f1, f3, _, _, _⟩ := HP6.out.upd HUF.out
          obtain ⟨r0, r1, r2, r3, r4⟩ := HR6.out v1 fin HUF.out
          have HEnd : Hid (OwnI ((v1.setCell ⟨w.heap.size, 0, none⟩ (.int .i64 q)).setCell ⟨w.heap.size, 1, none⟩ (.slice (some ⟨g, 0, none⟩) (q * q) (q * q))) w.heap.size (some ⟨g, 0, none⟩) (q * q) (q * q) (pMat k) ∧ Ext w ((v1.setCell ⟨w.heap.size, 0, none⟩ (.int .i64 q)).setCell ⟨w.heap.size, 1, none⟩ (.slice (some ⟨g, 0, none⟩) (q * q) (q * q)))) := by
            refine ⟨?_, ?_⟩
            · have h := HUF.out.own H6.out
              rw [HFN.out] at h
              exact (h.setFar _ 0 _ (HGW.out)).setFar _ 1 _ (HGW.out)
            · have h : Ext w v1 := HUF.out.below HX6.out HX6.out.size fun b o e _ => by cases e; exact HGB.out
              exact (h.setNew _ _ (Nat.le_refl _) _).setNew _ _ (Nat.le_refl _) _
          clear g0 g1
          go_wp2
          refine bodyPost_ret (v := .tuple #[carV q (some ⟨g, 0, none⟩) (q * q) (q * q), .bool true]) (by simp [results, Tryz.results206, go_sem, r0, r1]) rfl ⟨some ⟨g, 0, none⟩, rfl, ?_, ?_⟩
          · exact HEnd.out.1
          · exact HEnd.out.2
        · have h0 : s[0].toNat = 68 := HL0.out 68 (by unfold letterN; rw [if_neg (by omega), if_neg (by omega), if_neg (by omega), if_pos hkc])
          have hq2 : 4 ≤ q := by
            have key : ∀ k, k < 12 → (k = 9) → 4 ≤ pRank k := by decide
            rw [← HK.out]
            exact key k hk hkc
          have HCK := hidP hkc
          clear hkc
          obtain ⟨f0, f1, f2, _, _, _⟩ := HP6.out.upd HU.out
          have HPU := hidP (both_upd (2) (1) q b6 b5 b4 g (q * q) (q * q) _ w6 wr HP6.out (by omega) (by omega) (by omega) (by omega) (by omega) HMM.out HU.out HF6.out)
          go_wp2_with fail
          refine HPU.out.mono ?_
          rintro e v1 ⟨rfl, hu⟩
          have HU11 := hidP hu
          clear hu f0 f1 f2 HPU
          obtain ⟨f0, f1, f2, _, _, _⟩ := HP6.out.upd HU11.out
          have HPU := hidP (both_upd (2) (3) q b6 b5 b4 g (q * q) (q * q) _ w6 v1 HP6.out (by omega) (by omega) (by omega) (by omega) (by omega) HMM.out HU11.out HF6.out)
          go_wp2_with fail
          refine HPU.out.mono ?_
          rintro e v2 ⟨rfl, hu⟩
          have HU12 := hidP hu
          clear hu f0 f1 f2 HPU
          obtain ⟨f0, f1, f2, _, _, _⟩ := HP6.out.upd HU12.out
          have HPU := hidP (both_upd (2) (4) q b6 b5 b4 g (q * q) (q * q) _ w6 v2 HP6.out (by omega) (by omega) (by omega) (by omega) (by omega) HMM.out HU12.out HF6.out)
          go_wp2_with fail
          refine HPU.out.mono ?_
          rintro e v3 ⟨rfl, hu⟩
          have HU13 := hidP hu
          clear hu f0 f1 f2 HPU
          obtain ⟨fin, hfin⟩ : ∃ l, l = pMat k := ⟨_, rfl⟩
          have HUF : Hid (UpdI w6 v3 (some ⟨g, 0, none⟩) (q * q) fin) := by
            have h := HU13.out
            show UpdI _ _ _ _ _
            rw [hfin]
            obtain rfl := HCK.out
            have hd := HK4.out
            have hn := HK.out
            subst hd
            subst hn
            exact h
          have HFN := hidP hfin
          clear hfin
          obtain ⟨g0, g1⟩ := HC6.out
          have f0 := HUF.out.far g0 HG.out
          obtain ⟨f2, f1, f3, _, _, _⟩ := HP6.out.upd HUF.out
          obtain ⟨r0, r1, r2, r3, r4⟩ := HR6.out v3 fin HUF.out
          have HEnd : Hid (OwnI ((v3.setCell ⟨w.heap.size, 0, none⟩ (.int .i64 q)).setCell ⟨w.heap.size, 1, none⟩ (.slice (some ⟨g, 0, none⟩) (q * q) (q * q))) w.heap.size (some ⟨g, 0, none⟩) (q * q) (q * q) (pMat k) ∧ Ext w ((v3.setCell ⟨w.heap.size, 0, none⟩ (.int .i64 q)).setCell ⟨w.heap.size, 1, none⟩ (.slice (some ⟨g, 0, none⟩) (q * q) (q * q)))) := by
            refine ⟨?_, ?_⟩
            · have h := HUF.out.own H6.out
              rw [HFN.out] at h
              exact (h.setFar _ 0 _ (HGW.out)).setFar _ 1 _ (HGW.out)
            · have h : Ext w v3 := HUF.out.below HX6.out HX6.out.size fun b o e _ => by cases e; exact HGB.out
              exact (h.setNew _ _ (Nat.le_refl _) _).setNew _ _ (Nat.le_refl _) _
          clear g0 g1
          go_wp2
          refine bodyPost_ret (v := .tuple #[carV q (some ⟨g, 0, none⟩) (q * q) (q * q), .bool true]) (by simp [results, Tryz.results206, go_sem, r0, r1]) rfl ⟨some ⟨g, 0, none⟩, rfl, ?_, ?_⟩
          · exact HEnd.out.1
          · exact HEnd.out.2
        · have h0 : s[0].toNat = 70 := HL0.out 70 (by unfold letterN; rw [if_neg (by omega), if_neg (by omega), if_neg (by omega), if_neg (by omega), if_pos hkc])
          have hq2 : 4 ≤ q := by
            have key : ∀ k, k < 12 → (k = 10) → 4 ≤ pRank k := by decide
            rw [← HK.out]
            exact key k hk hkc
          have HCK := hidP hkc
          clear hkc
          obtain ⟨f0, f1, f2, _, _, _⟩ := HP6.out.upd HU.out
          have HPU := hidP (put_upd (3) (2) (-2) q b5 b4 g (q * q) (q * q) _ w6 wr (HP6.out.upd HU.out).h1 (HP6.out.upd HU.out).h2 (by omega) (by omega) (by omega) (by omega) (by omega) HMM.out HU.out HF6.out)
          go_wp2_with fail
          refine HPU.out.mono ?_
          rintro e v1 ⟨rfl, hu⟩
          have HU11 := hidP hu
          clear hu f0 f1 f2 HPU
          obtain ⟨fin, hfin⟩ : ∃ l, l = pMat k := ⟨_, rfl⟩
          have HUF : Hid (UpdI w6 v1 (some ⟨g, 0, none⟩) (q * q) fin) := by
            have h := HU11.out
            show UpdI _ _ _ _ _
            rw [hfin]
            obtain rfl := HCK.out
            have hd := HK4.out
            have hn := HK.out
            subst hd
            subst hn
            exact h
          have HFN := hidP hfin
          clear hfin
          obtain ⟨g0, g1⟩ := HC6.out
          have f0 := HUF.out.far g0 HG.out
          obtain ⟨f2, f1, f3, _, _, _⟩ := HP6.out.upd HUF.out
          obtain ⟨r0, r1, r2, r3, r4⟩ := HR6.out v1 fin HUF.out
          have HEnd : Hid (OwnI ((v1.setCell ⟨w.heap.size, 0, none⟩ (.int .i64 q)).setCell ⟨w.heap.size, 1, none⟩ (.slice (some ⟨g, 0, none⟩) (q * q) (q * q))) w.heap.size (some ⟨g, 0, none⟩) (q * q) (q * q) (pMat k) ∧ Ext w ((v1.setCell ⟨w.heap.size, 0, none⟩ (.int .i64 q)).setCell ⟨w.heap.size, 1, none⟩ (.slice (some ⟨g, 0, none⟩) (q * q) (q * q)))) := by
            refine ⟨?_, ?_⟩
            · have h := HUF.out.own H6.out
              rw [HFN.out] at h
              exact (h.setFar _ 0 _ (HGW.out)).setFar _ 1 _ (HGW.out)
            · have h : Ext w v1 := HUF.out.below HX6.out HX6.out.size fun b o e _ => by cases e; exact HGB.out
              exact (h.setNew _ _ (Nat.le_refl _) _).setNew _ _ (Nat.le_refl _) _
          clear g0 g1
          go_wp2
          refine bodyPost_ret (v := .tuple #[carV q (some ⟨g, 0, none⟩) (q * q) (q * q), .bool true]) (by simp [results, Tryz.results206, go_sem, r0, r1]) rfl ⟨some ⟨g, 0, none⟩, rfl, ?_, ?_⟩
          · exact HEnd.out.1
          · exact HEnd.out.2
        · have h0 : s[0].toNat = 71 := HL0.out 71 (by unfold letterN; rw [if_neg (by omega), if_neg (by omega), if_neg (by omega), if_neg (by omega), if_neg (by omega)])
          have hq2 : 2 ≤ q := by
            have key : ∀ k, k < 12 → (k = 11) → 2 ≤ pRank k := by decide
            rw [← HK.out]
            exact key k hk hkc
          have HCK := hidP hkc
          clear hkc
          obtain ⟨f0, f1, f2, _, _, _⟩ := HP6.out.upd HU.out
          have HPU := hidP (put_upd (1) (2) (-3) q b5 b4 g (q * q) (q * q) _ w6 wr (HP6.out.upd HU.out).h1 (HP6.out.upd HU.out).h2 (by omega) (by omega) (by omega) (by omega) (by omega) HMM.out HU.out HF6.out)
          go_wp2_with fail
          refine HPU.out.mono ?_
          rintro e v1 ⟨rfl, hu⟩
          have HU11 := hidP hu
          clear hu f0 f1 f2 HPU
          obtain ⟨fin, hfin⟩ : ∃ l, l = pMat k := ⟨_, rfl⟩
          have HUF : Hid (UpdI w6 v1 (some ⟨g, 0, none⟩) (q * q) fin) := by
            have h := HU11.out
            show UpdI _ _ _ _ _
            rw [hfin]
            obtain rfl := HCK.out
            have hd := HK4.out
            have hn := HK.out
            subst hd
            subst hn
            exact h
          have HFN := hidP hfin
          clear hfin
          obtain ⟨g0, g1⟩ := HC6.out
          have f0 := HUF.out.far g0 HG.out
          obtain ⟨f2, f1, f3, _, _, _⟩ := HP6.out.upd HUF.out
          obtain ⟨r0, r1, r2, r3, r4⟩ := HR6.out v1 fin HUF.out
          have HEnd : Hid (OwnI ((v1.setCell ⟨w.heap.size, 0, none⟩ (.int .i64 q)).setCell ⟨w.heap.size, 1, none⟩ (.slice (some ⟨g, 0, none⟩) (q * q) (q * q))) w.heap.size (some ⟨g, 0, none⟩) (q * q) (q * q) (pMat k) ∧ Ext w ((v1.setCell ⟨w.heap.size, 0, none⟩ (.int .i64 q)).setCell ⟨w.heap.size, 1, none⟩ (.slice (some ⟨g, 0, none⟩) (q * q) (q * q)))) := by
            refine ⟨?_, ?_⟩
            · have h := HUF.out.own H6.out
              rw [HFN.out] at h
              exact (h.setFar _ 0 _ (HGW.out)).setFar _ 1 _ (HGW.out)
            · have h : Ext w v1 := HUF.out.below HX6.out HX6.out.size fun b o e _ => by cases e; exact HGB.out
              exact (h.setNew _ _ (Nat.le_refl _) _).setNew _ _ (Nat.le_refl _) _
          clear g0 g1
          go_wp2
          refine bodyPost_ret (v := .tuple #[carV q (some ⟨g, 0, none⟩) (q * q) (q * q), .bool true]) (by simp [results, Tryz.results206, go_sem, r0, r1]) rfl ⟨some ⟨g, 0, none⟩, rfl, ?_, ?_⟩
          · exact HEnd.out.1
          · exact HEnd.out.2
end Go.Proofs.YtnfbfdamlnjblaaGreatDoor
