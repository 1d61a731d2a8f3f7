/-
  The program's FormatInt and FormatInts, by the library's Itoa and Join.
-/
import Derived.Test.YtnfbfdamlnjblaaGreatDoorStr2
import Derived.Test.YtnfbfdamlnjblaaGreatDoorShl
import Derived.WalkSmall
import Derived.Lib.AppendIntMem
namespace Go.Proofs.YtnfbfdamlnjblaaGreatDoor
open Go.RowKit

/-- the library's table of powers lies where its initialiser lays it -/
def Tab (w : World) : Prop := Lib.TabIs Tryz.prog w "internal/strconv.uint64pow10" .u64 Lib.pow10Tab
theorem Tab.below {w w' : World} (h : Tab w) (hx : Ext w w') : Tab w' := by
  unfold Tab Lib.TabIs at *
  cases hg : Tryz.prog.globalNamed "internal/strconv.uint64pow10" with
  | none => unfold World.var? at h; rw [hg] at h; cases h
  | some g =>
    refine var?_below hx hg ?_ h
    unfold World.var? at h
    rw [hg] at h
    simp only [Option.bind_some] at h
    cases hb : w.heap[g]? with
    | none => rw [hb] at h; cases h
    | some o => exact (Array.getElem?_eq_some_iff.1 hb).1

theorem formatInt_any (n : Int) (w : World) (h0 : -9223372036854775808 ≤ n) (h1 : n ≤ 9223372036854775807) (ht : Tab w) :
    Calls Tryz.prog 153 #[.int .i64 n] w fun e w' => e = .returned (.string (str (Lib.itoa n))) ∧ Ext w w' := by
  have HI := hidP (Tryz.strconv_Itoa n h0 h1 w ht)
  clear ht
  go_enter Tryz.func153, Tryz.ntmps153
  go_wp2_with (go_at_call 165; refine HI.out.mono ?_; rintro e w' ⟨rfl, k, os, rfl⟩)
  go_ret
  exact ⟨rfl, Lib.below_grow _ _ (Nat.le_refl _) _ _⟩
def intsS (xs : List Int) : List ByteArray := xs.map fun x => str (Lib.itoa x)
theorem intsS_join (xs : List Int) (sep : List UInt8) : Lib.join ((intsS xs).map (·.data.toList)) sep = Lib.join (xs.map Lib.itoa) sep := by
  congr 1
  simp [intsS, str, Function.comp_def]
theorem intsS_snoc (xs : List Int) (k : Nat) (hk : k < xs.length) : intsS (xs.take (k + 1)) = intsS (xs.take k) ++ [str (Lib.itoa (xs.getD k 0))] := by
  unfold intsS
  rw [List.take_succ_eq_append_getElem hk, List.map_append, getD_lt _ hk]
  rfl
set_option maxRecDepth 100000 in
set_option maxHeartbeats 1000000 in
theorem formatInts_any (a : Option Addr) (n c : Nat) (xs : List Int) (w : World) (h : IntsAt w a n xs) (hs : Small xs) (hn : n ≤ 1048576) (ht : Tab w) :
    Calls Tryz.prog 126 #[.slice a n c] w fun e w' => e = .returned (.string (str (intsT xs))) ∧ Ext w w' := by
  have G := hidP h
  have L := hidP h.len
  have HS := hidP hs
  have HT := hidP ht
  have HM := hidP (OwnS.made w w.heap.size (Nat.le_refl _))
  have HX0 := hidP (Ext.alloc w (.cells #[] 9))
  clear h hs ht
  go_enter Tryz.func126, Tryz.ntmps126
  go_wp2
  go_loopw [3, 9] (fun a b wr => ∃ (k : Nat) (av : Option Addr) (cv : Nat), k ≤ n ∧ a = .slice av k cv ∧ b = .int .i64 k ∧ Hid (OwnS wr w.heap.size av k cv (intsS (xs.take k))) ∧ Hid (Ext w wr)) (fun _ b _ => n - (intOf b).toNat)
  case atStart => exact ⟨0, _, 0, Nat.zero_le _, rfl, rfl, HM, HX0⟩
  case round =>
    clear HM HX0
    obtain ⟨k, av, cv, hk, rfl, rfl, HO, HX⟩ := hrel
    by_cases hlt : k < n
    · obtain ⟨b, o, rfl, q⟩ := (G.out.below HX.out).get k hlt
      have hb := HS.out k (by rw [L.out]; exact hlt)
      have HF := hidP (fun w' (hx : Ext w w') => formatInt_any (xs.getD k 0) w' hb.1 hb.2 (HT.out.below hx))
      have HN := hidP (intsS_snoc xs k (by rw [L.out]; exact hlt))
      generalize xs.getD k 0 = x at *
      clear hb
      go_wp2_with fail
      refine (HF.out _ HX.out).mono ?_
      rintro e w1 ⟨rfl, hx1⟩
      have hx2 := Ext.alloc w1 (.cells #[.string (str (Lib.itoa x))] 9)
      have HX1 := hidP ((HX.out.trans hx1).trans hx2)
      have HO1 := hidP (HO.out.below (hx1.trans hx2))
      have HC := hidP ((cell_top w1 #[.string (str (Lib.itoa x))] 9 w1.heap.size 0 rfl).trans (show _ = some (Value.string (str (Lib.itoa x))) from rfl))
      clear hx1 hx2
      go_wp2_with (at_builtin; refine wpList_append_str rfl (.tmp 13) (.tmp 16) rfl w.heap.size av k cv _ rfl HO1.out w1.heap.size 1 _ rfl HC.out (by omega) HX1.out.size ?_; intro a3 c3 w3 ho3 hg3; have HX3 := hidP (HO1.out.ext hg3 HX1.out (Nat.le_refl _)); have HO3 := hidP ho3; clear ho3 hg3)
      rw [← HN.out] at HO3
      go_roundw
      case rel => exact ⟨k + 1, a3, c3, by omega, rfl, by go_num, HO3, HX3⟩
      case measure => simp [intOf]; omega
    · obtain rfl : k = n := by omega
      have ho := HO.out
      rw [List.take_of_length_le (by rw [L.out]; exact Nat.le_refl _)] at ho
      have hl := ho.len
      obtain ⟨g, rfl, _, hgl, hnc, _, hcl⟩ := ho.form
      have hjl : (Lib.join (xs.map Lib.itoa) [32]).length ≤ k * 22 := by
        have := intsT_length xs HS.out k
        rw [List.take_of_length_le (by rw [L.out]; exact Nat.le_refl _)] at this
        exact this
      have hJ := Tryz.strings_Join g 0 cv (intsS xs) ⟨#[32]⟩ wr hcl hgl (by omega) (by omega) (by rw [intsS_join]; exact Nat.le_trans hjl (by omega))
      rw [hl, intsS_join] at hJ
      have HJ := hidP hJ
      clear hJ hjl hcl ho
      go_wp2_with fail
      refine HJ.out.mono ?_
      rintro e w1 ⟨rfl, hx1⟩
      have HX1 := hidP (HX.out.trans hx1)
      clear hx1
      go_wp2
      go_ret
      exact ⟨rfl, HX1.out⟩
end Go.Proofs.YtnfbfdamlnjblaaGreatDoor
