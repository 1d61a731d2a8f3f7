/-
  TypeOf and IsCartan of the program.
-/
import Derived.Test.YtnfbfdamlnjblaaGreatDoorCarF
namespace Go.Proofs.YtnfbfdamlnjblaaGreatDoor
open Go.RowKit

def memTB (r : Nat) : Bool := (typesL 5 r 0).all fun ks => allTypes.contains ks && decide (rankL ks = r) && decide (1 ≤ ks.length) && decide (ks.length ≤ 4)
theorem memTB_all : ∀ r, r < 5 → 1 ≤ r → memTB r = true := by decide +kernel
theorem types_mem (r : Nat) (h1 : r < 5) (h2 : 1 ≤ r) : ∀ ks ∈ typesL 5 r 0, ks ∈ allTypes ∧ rankL ks = r ∧ 1 ≤ ks.length ∧ ks.length ≤ 4 := by
  intro ks hk
  have := memTB_all r h1 h2
  simp only [memTB, List.all_eq_true, Bool.and_eq_true, decide_eq_true_eq, List.contains_iff_mem] at this
  obtain ⟨⟨⟨a, b⟩, c⟩, d⟩ := this ks hk
  exact ⟨a, b, c, d⟩
/-- a name if it is a type's matrix, else none -/
def NameIf (b : Bool) (s : ByteArray) : Prop := (b = true → s.toList.isEmpty = false) ∧ (b = false → s = ⟨#[]⟩)
theorem NameIf.no {b : Bool} (h : b = false) : NameIf b ⟨#[]⟩ := ⟨fun e => absurd (h.symm.trans e) (by simp), fun _ => rfl⟩
theorem NameIf.yes {b : Bool} {s : ByteArray} (h : b = true) (hs : s.toList.isEmpty = false) : NameIf b s := ⟨fun _ => hs, fun e => absurd (h.symm.trans e) (by simp)⟩
theorem name_ne : ∀ ks ∈ allTypes, (joinN ks).toList.isEmpty = false := by decide +kernel
theorem join_any (v : Value) (ks : List Nat) (hks : ks ∈ allTypes) (h1 : 1 ≤ ks.length) (h4 : ks.length ≤ 4) (w : World) (h : HdrS w v (rowS ks)) :
    Calls Tryz.prog 154 #[v, .string ⟨#[43]⟩] w fun e w' => e = .returned (.string (joinN ks)) ∧ Ext w w' := by
  obtain ⟨a, c, rfl, hcap, hs, _, ht⟩ := h
  obtain ⟨_, _, hz, _⟩ := split_all ks hks
  have hl := rowS_length ks
  obtain ⟨b, o, rfl, _⟩ := hs.get 0 (by omega)
  obtain ⟨cur, fr, hb⟩ := ht b o rfl
  have hsz : (Lib.join ((rowS ks).map (·.data.toList)) [43]).length ≤ 20 := by
    have : (joinN ks).size = (Lib.join ((rowS ks).map (·.data.toList)) [43]).length := str_size _
    omega
  have := Tryz.strings_Join b o c (rowS ks) ⟨#[43]⟩ w (fun j x hx => by
    have hj : j < (rowS ks).length := (List.getElem?_eq_some_iff.1 hx).1
    obtain ⟨b', o', e, hc⟩ := hs.get j hj
    simp only [Option.some.injEq, Addr.mk.injEq, and_true] at e
    obtain ⟨rfl, rfl⟩ := e
    rw [hc, List.getD_eq_getElem?_getD, hx]
    rfl) (Array.getElem?_eq_some_iff.1 hb).1 (by omega) (by omega) (by show (Lib.join _ [43]).length ≤ _; omega)
  refine this.mono fun e w' ⟨he, hw⟩ => ⟨he, hw⟩
set_option maxRecDepth 100000 in
set_option maxHeartbeats 4000000 in
theorem typeOf_any (r : Int) (a : Option Addr) (n c : Nat) (xs : List Int) (w : World) (h : IntsAt w a n xs) (hn : n ≤ 9223372036854775807) (hm : MaxL w) :
    Calls Tryz.prog 161 #[carV r a n c] w fun e w' => ∃ s : ByteArray, e = .returned (.string s) ∧ NameIf (typeB r xs) s ∧ Ext w w' := by
  have L := hidP h.len
  have hx0 := Ext.alloc w (.cells #[.int .i64 r, .slice a n c] 55)
  obtain ⟨f0, f1⟩ := CarAt.new w _ rfl r a n c 55
  cases hi : insB r 1 4
  · have HT : Hid (typeB r xs = false) := by
      show _ = _
      unfold typeB
      have : decide (1 ≤ r ∧ r ≤ 4) = false := hi
      rw [this]
      rfl
    have HI := hidP (fun w' => inside_any r 1 4 w')
    rw [hi] at HI
    have HX0 := hidP hx0
    clear h hi hx0
    go_enter Tryz.func161, Tryz.ntmps161
    go_wp2_with fail
    refine (HI.out _).mono ?_
    rintro e w' ⟨rfl, rfl⟩
    go_wp2
    go_ret
    exact ⟨_, rfl, NameIf.no HT.out, HX0.out⟩
  · obtain ⟨h1, h4⟩ := insB_true.1 hi
    have HI := hidP (fun w' => inside_any r 1 4 w')
    rw [hi] at HI
    have hdi : decide (1 ≤ r ∧ r ≤ 4) = true := hi
    have hr0 : 0 ≤ r * r := Int.mul_nonneg (by omega) (by omega)
    have hr16 : r * r ≤ 16 := by
      have := Int.mul_le_mul h4 h4 (by omega) (by omega : (0 : Int) ≤ 4)
      omega
    by_cases hl : (n : Int) = r * r
    · obtain ⟨R, rfl⟩ : ∃ R : Nat, r = R := ⟨r.toNat, by omega⟩
      have hR1 : 1 ≤ R := by omega
      have hR4 : R ≤ 4 := by omega
      have hnr : n = R * R := by rw [← Int.natCast_mul] at hl; omega
      subst hnr
      have HT : Hid (typeB (R : Int) xs = (typesL 5 R 0).any fun ks => reordB xs R (blockL ks)) := by
        show _ = _
        unfold typeB
        rw [hdi, Int.toNat_natCast, decide_eq_true (by rw [L.out]; exact hl), Bool.true_and, Bool.true_and]
      have hTM := types_mem R (by omega) hR1
      have HTM := hidP hTM
      have HTO := hidP (fun w' => typesOf_any 5 R 0 w' (by omega) hR4 (by omega))
      have hlb : ((((R * R : Nat) : Int)) != (R : Int) * R) = false := by
        rw [Int.natCast_mul]; simp
      have H := hidP (h.below hx0)
      have HMx := hidP (hm.below hx0)
      have HX0 := hidP hx0
      have hlen := typesL_len 5 R 0
      have h13 := pow13 hR4
      have HLn : Hid ((typesL 5 R 0).length ≤ 28561) := Nat.le_trans hlen h13
      generalize typesL 5 R 0 = T at *
      clear h hi hx0 hl hdi hTM hm hlen h13
      go_enter Tryz.func161, Tryz.ntmps161
      go_wp2_with fail
      refine (HI.out _).mono ?_
      rintro e w' ⟨rfl, rfl⟩
      obtain ⟨w0, hw0⟩ : ∃ w0, w0 = w.alloc (.cells #[.int .i64 R, .slice a (R * R) c] 55) := ⟨_, rfl⟩
      rw [← hw0] at f0 f1 H HMx HX0 ⊢
      obtain ⟨b1, hb1⟩ : ∃ b, b = w.heap.size := ⟨_, rfl⟩
      rw [← hb1] at f0 f1 ⊢
      have HC : Hid (CarAt w0 b1 R a (R * R) c) := ⟨f0, f1⟩
      clear hw0 hb1
      go_wp2_with fail
      refine (HTO.out _).mono ?_
      rintro e w1 ⟨a1, c1, rfl, hs1, hx1, _⟩
      have HS1 := hidP hs1
      have HX1 := hidP hx1
      clear hs1 hx1 f0 f1
      go_wp2
      go_loopw [27] (fun t wr => ∃ k : Nat, k ≤ T.length ∧ t = .int .i64 k ∧ Hid (∀ q, q < k → reordB xs R (blockL (T.getD q [])) = false) ∧ Hid (Ext w1 wr)) (fun t _ => T.length - (intOf t).toNat)
      case atStart => exact ⟨0, Nat.zero_le _, rfl, fun q hq => by omega, Ext.refl _⟩
      case round =>
        obtain ⟨k, hk, rfl, HJ, HX⟩ := hrel
        have hln := HLn.out
        by_cases hlt : k < T.length
        · obtain ⟨b, o, v, rfl, qv, hv⟩ := (HS1.out.below HX.out).get k hlt
          have hgd : (T.map rowS).getD k [] = rowS (T.getD k []) := by simp [List.getD_eq_getElem?_getD, hlt]
          rw [hgd] at hv
          have hmem : T.getD k [] ∈ T := by rw [List.getD_eq_getElem?_getD, List.getElem?_eq_getElem hlt]; exact List.getElem_mem hlt
          obtain ⟨t1, t2, t3, t4⟩ := HTM.out _ hmem
          have HMem := hidP hmem
          obtain ⟨ks, hks⟩ : ∃ ks, ks = T.getD k [] := ⟨_, rfl⟩
          rw [← hks] at hv t1 t2 t3 t4 HMem
          have HKS := hidP hks
          have HJo := hidP (join_any v ks t1 t3 t4 wr hv)
          have HCO := hidP (fun w' (hx : Ext wr w') => cartanOf_any ks t1 w' (HMx.out.below ((HX1.out.trans HX.out).trans hx)))
          rw [t2] at HCO
          have HNZ := hidP (name_ne ks t1)
          clear hks hgd hv hmem t1 t2 t3 t4
          generalize joinN ks = nm at *
          go_wp2_with fail
          refine HJo.out.mono ?_
          rintro e w2 ⟨rfl, hx2⟩
          have HX2 := hidP hx2
          clear hx2
          go_wp2_with fail
          refine (HCO.out _ HX2.out).mono ?_
          rintro e w3 ⟨a3, rfl, ho3, hx3⟩
          have hxa := Ext.alloc w3 (.cells #[.int .i64 R, .slice a3 (R * R) (R * R)] 55)
          have HX3 := hidP ((HX2.out.trans hx3).trans hxa)
          have HO3 := hidP (ho3.below hxa)
          have HXa := hidP (((HX1.out.trans HX.out).trans (HX2.out.trans hx3)).trans hxa)
          obtain ⟨f0, f1⟩ := HC.out.below HXa.out
          have HRE := hidP (fun w' (hx : Ext (w3.alloc (.cells #[.int .i64 R, .slice a3 (R * R) (R * R)] 55)) w') => reordered_any R hR4 xs (blockL ks) R [] a a3 none c (R * R) 0 0 w' ((H.out.below HXa.out).below hx) (HO3.out.below hx).ints (IntsAt.nil _ _) (fun _ => rfl) (by omega) (fun x hx => by simp at hx))
          have HRB : Hid (reordB xs R (blockL (T.getD k [])) = searchB (List.range R) R (rowChk xs R (blockL ks) R) R []) := by
            show _ = _
            rw [← HKS.out]
            rfl
          clear ho3 hx3 hxa
          generalize searchB (List.range R) R (rowChk xs R (blockL ks) R) R [] = sb at *
          go_wp2_with fail
          refine (HRE.out _ (Ext.refl _)).mono ?_
          rintro e w4 ⟨rfl, hx4⟩
          have HX4 := hidP (HX3.out.trans hx4)
          clear hx4 f0 f1
          cases sb
          · go_wp2
            go_roundw
            case rel =>
              refine ⟨k + 1, by omega, by go_num, fun q hq => ?_, HX.out.trans HX4.out⟩
              rcases Nat.lt_succ_iff_lt_or_eq.1 hq with h3 | rfl
              · exact HJ.out q h3
              · exact HRB.out
            case measure => simp [intOf]; omega
          · have HE : Hid (T.any (fun ks => reordB xs R (blockL ks)) = true) := by
              show _ = _
              rw [List.any_eq_true]
              refine ⟨ks, HMem.out, ?_⟩
              have := HRB.out
              rwa [← HKS.out] at this
            go_wp2
            go_ret
            exact ⟨_, rfl, NameIf.yes (HT.out.trans HE.out) HNZ.out, ((HX0.out.trans HX1.out).trans HX.out).trans HX4.out⟩
        · obtain rfl : k = T.length := by omega
          have HE : Hid (T.any (fun ks => reordB xs R (blockL ks)) = false) := by
            show _ = _
            rw [List.any_eq_false]
            intro ks hks
            obtain ⟨q, hq, rfl⟩ := List.mem_iff_getElem.1 hks
            have := HJ.out q hq
            rw [List.getD_eq_getElem?_getD, List.getElem?_eq_getElem hq] at this
            simpa using this
          go_wp2
          go_ret
          exact ⟨_, rfl, NameIf.no (HT.out.trans HE.out), (HX0.out.trans HX1.out).trans HX.out⟩
    · have HT : Hid (typeB r xs = false) := by
        show _ = _
        unfold typeB
        rw [decide_eq_false (p := (xs.length : Int) = r * r) (by rw [L.out]; exact hl)]
        simp
      have hlb : ((n : Int) != r * r) = true := by simpa using hl
      have HX0 := hidP hx0
      clear h hi hx0 hl hdi hm
      go_enter Tryz.func161, Tryz.ntmps161
      go_wp2_with fail
      refine (HI.out _).mono ?_
      rintro e w' ⟨rfl, rfl⟩
      go_wp2
      go_ret
      exact ⟨_, rfl, NameIf.no HT.out, HX0.out⟩
theorem isCartan_any (r : Int) (a : Option Addr) (n c : Nat) (xs : List Int) (w : World) (h : IntsAt w a n xs) (hn : n ≤ 9223372036854775807) (hm : MaxL w) :
    Calls Tryz.prog 134 #[carV r a n c] w fun e w' => e = .returned (.bool (typeB r xs)) ∧ Ext w w' := by
  have hx0 := Ext.alloc w (.cells #[.int .i64 r, .slice a n c] 55)
  have H := hidP (typeOf_any r a n c xs _ (h.below hx0) hn (hm.below hx0))
  obtain ⟨f0, f1⟩ := CarAt.new w _ rfl r a n c 55
  have HX0 := hidP hx0
  clear h hm hx0
  go_enter Tryz.func134, Tryz.ntmps134
  go_wp2_with fail
  refine H.out.mono ?_
  rintro e w1 ⟨s, rfl, hs, hx1⟩
  have HX1 := hidP (HX0.out.trans hx1)
  clear hx1 H
  cases hb : typeB r xs
  · obtain rfl := hs.2 hb
    have HB := hidP hb
    clear hs hb
    go_wp2
    go_ret
    exact ⟨ret_bool HB.out.symm, HX1.out⟩
  · have he := hs.1 hb
    have HB := hidP hb
    clear hs hb
    go_wp2
    go_ret
    exact ⟨ret_bool HB.out.symm, HX1.out⟩
end Go.Proofs.YtnfbfdamlnjblaaGreatDoor
