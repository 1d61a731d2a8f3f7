/-
  The reference's test of a Cartan matrix.
-/
import Derived.Test.YtnfbfdamlnjblaaGreatDoorCarU
import Derived.Test.YtnfbfdamlnjblaaGreatDoorCarG
import Derived.Test.YtnfbfdamlnjblaaGreatDoorCarO
import Derived.Test.YtnfbfdamlnjblaaGreatDoorReg3
namespace Go.Proofs.YtnfbfdamlnjblaaGreatDoor
open Go.RowKit

def entryF (xs : List Int) (r m : Nat) : Bool := decide (-3 ≤ xs.getD m 0 ∧ xs.getD m 0 ≤ 2) && (decide (xs.getD m 0 = 0) || decide (atM xs r (m % r) (m / r) ≠ 0))
theorem entryB_eq (xs : List Int) (r : Nat) : entryB xs r = (List.range xs.length).all (entryF xs r) := rfl
theorem partsGo_done (bits : List Bool) (r f i : Nat) (done : List Nat) (hi : i < r) (h : i ∈ done) : partsGo bits r (f + 1) i done = partsGo bits r f (i + 1) done := by
  rw [partsGo, if_pos hi, if_pos (by simpa using h)]
theorem partsGo_new (bits : List Bool) (r f i : Nat) (done : List Nat) (hi : i < r) (h : i ∉ done) : partsGo bits r (f + 1) i done = partL bits r i :: partsGo bits r f (i + 1) (done ++ partL bits r i) := by
  rw [partsGo, if_pos hi, if_neg (by simpa using h)]
theorem partsGo_end (bits : List Bool) (r f i : Nat) (done : List Nat) (hi : ¬ i < r) : partsGo bits r f i done = [] := by
  cases f with
  | zero => rfl
  | succ f => rw [partsGo, if_neg hi]
def fitK (xs : List Int) (r : Nat) (rows : List Nat) (k : Nat) : Bool := decide (pRank k = rows.length) && fitsB xs r rows k
theorem fitAny_eq (xs : List Int) (r : Nat) (rows : List Nat) : fitAny xs r rows = (List.range 12).any (fitK xs r rows) := rfl
theorem name1_ne : ∀ k, k < 12 → (nameS.getD k ByteArray.empty).toList.isEmpty = false := by decide +kernel
theorem NameIf.cast {b b' : Bool} {s : ByteArray} (h : NameIf b s) (e : b = b') : NameIf b' s := e ▸ h

theorem u8wrap (x : Int) : IntKind.u8.wrap x = x % 256 := by simp [IntKind.wrap, IntKind.signed, IntKind.bits]
set_option maxRecDepth 100000 in
set_option maxHeartbeats 8000000 in
theorem l5Parts_any (r : Int) (a : Option Addr) (n c : Nat) (xs : List Int) (w : World) (h : IntsAt w a n xs) (hn : n ≤ 9223372036854775807) :
    Calls Tryz.prog 160 #[carV r a n c] w fun e w' => ∃ v, e = .returned (.tuple #[v, .bool (partsB r xs)]) ∧ Ext w w' := by
  have L := hidP h.len
  have hx0 := Ext.alloc w (.cells #[.int .i64 r, .slice a n c] 55)
  obtain ⟨f0, f1⟩ := CarAt.new w _ rfl r a n c 55
  have HI := hidP (fun w' => l1In_any r 1 4 w')
  cases hi : insB r 1 4
  · have HT : Hid (partsB r xs = false) := by
      show _ = _
      unfold partsB
      have : decide (1 ≤ r ∧ r ≤ 4) = false := hi
      rw [this]
      rfl
    rw [hi] at HI
    have HX0 := hidP hx0
    clear h hi hx0
    go_enter Tryz.func160, Tryz.ntmps160
    go_wp2_with fail
    refine (HI.out _).mono ?_
    rintro e w' ⟨rfl, rfl⟩
    go_wp2
    exact bodyPost_ret (v := .tuple #[.slice none 0 0, .bool false]) (by simp [results, Tryz.results160, go_sem]) rfl ⟨_, by rw [HT.out], HX0.out⟩
  · obtain ⟨h1, h4⟩ := insB_true.1 hi
    rw [hi] at HI
    have hdi : decide (1 ≤ r ∧ r ≤ 4) = true := hi
    have hr0 : 0 ≤ r * r := Int.mul_nonneg (by omega) (by omega)
    have hr16 : r * r ≤ 16 := by
      have := Int.mul_le_mul h4 h4 (by omega) (by omega : (0 : Int) ≤ 4)
      omega
    by_cases hl : (n : Int) = r * r
    · obtain ⟨R, rfl⟩ : ∃ R : Nat, r = R := ⟨r.toNat, by omega⟩
      have hR1 : 1 ≤ R := by omega
      have hR4 : R ≤ 4 := by omega
      have hnr : n = R * R := by rw [← Int.natCast_mul] at hl; omega
      subst hnr
      have HT : Hid (partsB (R : Int) xs = (entryB xs R && (partsGo (bitsOf xs) R 5 0 []).all fun rows => fitAny xs R rows)) := by
        show _ = _
        unfold partsB
        rw [hdi, Int.toNat_natCast, decide_eq_true (by rw [L.out]; exact hl), Bool.true_and, Bool.true_and]
      have hlb : ((((R * R : Nat) : Int)) != (R : Int) * R) = false := by
        rw [Int.natCast_mul]; simp
      have H := hidP (h.below hx0)
      have HX0 := hidP hx0
      have hRR : R * R ≤ 16 := by have := Nat.mul_le_mul hR4 hR4; omega
      clear h hi hx0 hl hdi
      go_enter Tryz.func160, Tryz.ntmps160
      go_wp2_with fail
      refine (HI.out _).mono ?_
      rintro e w' ⟨rfl, rfl⟩
      obtain ⟨w0, hw0⟩ : ∃ w0, w0 = w.alloc (.cells #[.int .i64 R, .slice a (R * R) c] 55) := ⟨_, rfl⟩
      rw [← hw0] at f0 f1 H HX0 ⊢
      obtain ⟨b1, hb1⟩ : ∃ b, b = w.heap.size := ⟨_, rfl⟩
      rw [← hb1] at f0 f1 ⊢
      have HC : Hid (CarAt w0 b1 R a (R * R) c) := ⟨f0, f1⟩
      clear hw0 hb1
      go_wp2
      clear f0 f1
      go_loopw [4] (fun t wr => ∃ i : Nat, i ≤ R * R ∧ t = .int .i64 i ∧ Hid (∀ m, m < i → entryF xs R m = true) ∧ Hid (Ext w0 wr)) (fun t _ => R * R - (intOf t).toNat)
      case atStart => exact ⟨0, Nat.zero_le _, rfl, fun q hq => by omega, Ext.refl _⟩
      case round =>
        obtain ⟨i, hi, rfl, HJ, HX⟩ := hrel
        by_cases hlt : i < R * R
        · obtain ⟨f0, f1⟩ := HC.out.below HX.out
          obtain ⟨b, o, rfl, q⟩ := (H.out.below HX.out).get i hlt
          have hiR : i / R < R := Nat.div_lt_of_lt_mul hlt
          have hmR : i % R < R := Nat.mod_lt _ (by omega)
          have hj2 : i % R * R + i / R < R * R := by
            have := Nat.mul_le_mul_right R (show i % R + 1 ≤ R by omega)
            rw [Nat.add_mul, Nat.one_mul] at this
            omega
          have q2 := (H.out.below HX.out).atc (i % R * R + i / R) hj2
          have HE : Hid (entryF xs R i = (decide (-3 ≤ xs.getD i 0 ∧ xs.getD i 0 ≤ 2) && (decide (xs.getD i 0 = 0) || decide (atM xs R (i % R) (i / R) ≠ 0)))) := rfl
          have HLI := hidP (fun w' => l1In_any (xs.getD i 0) (-3) 2 w')
          have hy : xs.getD (i % R * R + i / R) 0 = atM xs R (i % R) (i / R) := rfl
          rw [hy] at q2
          have HW := hidP (fun w' (hx : Ext wr w') => (⟨(HC.out.below (HX.out.trans hx)).c0, (HC.out.below (HX.out.trans hx)).c1, (hx.cell (p := ⟨b, o + i, none⟩) (World.block_lt_of_cell? wr _ q)).trans q, (hx.cell (p := ⟨b, o + (i % R * R + i / R), none⟩) (World.block_lt_of_cell? wr _ q2)).trans q2⟩ : _ ∧ _ ∧ _ ∧ _))
          generalize xs.getD i 0 = x at *
          generalize atM xs R (i % R) (i / R) = y at *
          have hE : Ext wr wr.drew := Ext.drew wr
          clear q q2 hy
          have hRz : ¬ (R = 0) := by omega
          have HMD : Hid ((i : Int).tmod R = ((i % R : Nat) : Int) ∧ (i : Int).tdiv R = ((i / R : Nat) : Int)) := by
            refine ⟨?_, ?_⟩
            · rw [Int.tmod_eq_emod_of_nonneg (by omega)]; rfl
            · rw [Int.tdiv_eq_ediv_of_nonneg (by omega)]; rfl
          have HPF := hidP (placeF (i := i % R) (j := i / R) hR4 hmR hiR)
          have HWG : Hid (IntKind.i64.wrap ((i / R : Nat) : Int) = ((i / R : Nat) : Int)) := wrap_in (Int.le_trans (by omega) (Int.natCast_nonneg _)) (by have : ((i / R : Nat) : Int) < (R : Int) := Int.ofNat_lt.2 hiR; omega)
          generalize i % R = p at *
          generalize i / R = g at *
          cases hin : insB x (-3) 2
          · rw [hin] at HLI
            have hin2 : decide (-3 ≤ x ∧ x ≤ 2) = false := hin
            have HEF : Hid (entryB xs R = false) := by
              show _ = _
              rw [entryB_eq, List.all_eq_false]
              refine ⟨i, List.mem_range.2 (by rw [L.out]; exact hlt), ?_⟩
              rw [HE.out]
              rw [hin2]; simp
            clear hin hin2 HE
            go_wp2
            clear f0 f1
            (refine walkR_start (fun w' => Ext wr w') 34 (by kernel_rfl) ?_; simp only [numbered, List.take_succ_cons, List.take_zero, Nat.zero_add, Nat.reduceAdd, List.length_cons, List.length_nil])
            (repeat (first | (refine walkR_still (v := ?_) rfl (by decide +kernel) rfl (fun _ _ _ h => h) hE ?_ ?_; rotate_left; (focus (intro w' hw'; obtain ⟨f0, f1, q1, q2⟩ := HW.out w' hw'; obtain ⟨m1, m2⟩ := HMD.out; obtain ⟨z1, z2, z3, z4, z5⟩ := HPF.out; have z6 := HWG.out; go_simp; all_goals (with_reducible rfl))); simp only [Act.put, List.setIfInBounds_toArray, List.set_cons_zero, List.set_cons_succ]) | (refine walkR_skip rfl (by decide +kernel) rfl (fun _ _ _ h => h) hE ?_; simp only [Act.put, List.setIfInBounds_toArray, List.set_cons_zero, List.set_cons_succ])))
            (refine walkR_only (fun w' => Ext wr w') rfl (by decide +kernel) rfl (fun _ h => h) ?_; intro K hK; go_simp; refine (HLI.out _).mono ?_; rintro e w2 ⟨rfl, rfl⟩; refine hK _ _ (hE) ?_; clear hK K; (try simp only [Act.put, List.setIfInBounds_toArray, List.set_cons_zero, List.set_cons_succ]))
            (repeat (first | (refine walkR_still (v := ?_) rfl (by decide +kernel) rfl (fun _ _ _ h => h) hE ?_ ?_; rotate_left; (focus (intro w' hw'; obtain ⟨f0, f1, q1, q2⟩ := HW.out w' hw'; obtain ⟨m1, m2⟩ := HMD.out; obtain ⟨z1, z2, z3, z4, z5⟩ := HPF.out; have z6 := HWG.out; go_simp; all_goals (with_reducible rfl))); simp only [Act.put, List.setIfInBounds_toArray, List.set_cons_zero, List.set_cons_succ]) | (refine walkR_skip rfl (by decide +kernel) rfl (fun _ _ _ h => h) hE ?_; simp only [Act.put, List.setIfInBounds_toArray, List.set_cons_zero, List.set_cons_succ])))
            (refine walkR_tail (by rfl) (by kernel_rfl) ?_; simp only [List.drop_succ_cons, List.drop_zero])
            go_wp2
            exact bodyPost_ret (v := .tuple #[.slice none 0 0, .bool false]) (by simp [results, Tryz.results160, go_sem]) rfl ⟨_, by rw [HT.out, HEF.out, Bool.false_and], HX0.out.trans (HX.out.trans hE)⟩
          · rw [hin] at HLI
            have hin2 : decide (-3 ≤ x ∧ x ≤ 2) = true := hin
            by_cases hx0 : x = 0
            · have hx0' : (x != 0) = false := by simpa using hx0
              have HET : Hid (entryF xs R i = true) := by
                show _ = _
                rw [HE.out, hin2]
                simp [hx0]
              clear hx0 hin hin2 HE
              go_wp2
              clear f0 f1
              (refine walkR_start (fun w' => Ext wr w') 34 (by kernel_rfl) ?_; simp only [numbered, List.take_succ_cons, List.take_zero, Nat.zero_add, Nat.reduceAdd, List.length_cons, List.length_nil])
              (repeat (first | (refine walkR_still (v := ?_) rfl (by decide +kernel) rfl (fun _ _ _ h => h) hE ?_ ?_; rotate_left; (focus (intro w' hw'; obtain ⟨f0, f1, q1, q2⟩ := HW.out w' hw'; obtain ⟨m1, m2⟩ := HMD.out; obtain ⟨z1, z2, z3, z4, z5⟩ := HPF.out; have z6 := HWG.out; go_simp; all_goals (with_reducible rfl))); simp only [Act.put, List.setIfInBounds_toArray, List.set_cons_zero, List.set_cons_succ]) | (refine walkR_skip rfl (by decide +kernel) rfl (fun _ _ _ h => h) hE ?_; simp only [Act.put, List.setIfInBounds_toArray, List.set_cons_zero, List.set_cons_succ])))
              (refine walkR_only (fun w' => Ext wr w') rfl (by decide +kernel) rfl (fun _ h => h) ?_; intro K hK; go_simp; refine (HLI.out _).mono ?_; rintro e w2 ⟨rfl, rfl⟩; refine hK _ _ (hE) ?_; clear hK K; (try simp only [Act.put, List.setIfInBounds_toArray, List.set_cons_zero, List.set_cons_succ]))
              (repeat (first | (refine walkR_still (v := ?_) rfl (by decide +kernel) rfl (fun _ _ _ h => h) hE ?_ ?_; rotate_left; (focus (intro w' hw'; obtain ⟨f0, f1, q1, q2⟩ := HW.out w' hw'; obtain ⟨m1, m2⟩ := HMD.out; obtain ⟨z1, z2, z3, z4, z5⟩ := HPF.out; have z6 := HWG.out; go_simp; all_goals (with_reducible rfl))); simp only [Act.put, List.setIfInBounds_toArray, List.set_cons_zero, List.set_cons_succ]) | (refine walkR_skip rfl (by decide +kernel) rfl (fun _ _ _ h => h) hE ?_; simp only [Act.put, List.setIfInBounds_toArray, List.set_cons_zero, List.set_cons_succ])))
              (refine walkR_tail (by rfl) (by kernel_rfl) ?_; simp only [List.drop_succ_cons, List.drop_zero])
              go_wp2
              go_roundw
              case rel =>
                refine ⟨i + 1, by omega, by go_num, fun q hq => ?_, HX.out.trans hE⟩
                rcases Nat.lt_succ_iff_lt_or_eq.1 hq with h3 | rfl
                · exact HJ.out q h3
                · exact HET.out
              case measure => simp [intOf]; omega
            · have hx0' : (x != 0) = true := by simpa using hx0
              by_cases hy0 : y = 0
              · have hy0' : (y == 0) = true := by simpa using hy0
                have HEF : Hid (entryB xs R = false) := by
                  show _ = _
                  rw [entryB_eq, List.all_eq_false]
                  refine ⟨i, List.mem_range.2 (by rw [L.out]; exact hlt), ?_⟩
                  rw [HE.out]
                  rw [hin2]; simp [hx0, hy0]
                clear hx0 hy0 hin hin2 HE
                go_wp2
                clear f0 f1
                (refine walkR_start (fun w' => Ext wr w') 34 (by kernel_rfl) ?_; simp only [numbered, List.take_succ_cons, List.take_zero, Nat.zero_add, Nat.reduceAdd, List.length_cons, List.length_nil])
                (repeat (first | (refine walkR_still (v := ?_) rfl (by decide +kernel) rfl (fun _ _ _ h => h) hE ?_ ?_; rotate_left; (focus (intro w' hw'; obtain ⟨f0, f1, q1, q2⟩ := HW.out w' hw'; obtain ⟨m1, m2⟩ := HMD.out; obtain ⟨z1, z2, z3, z4, z5⟩ := HPF.out; have z6 := HWG.out; go_simp; all_goals (with_reducible rfl))); simp only [Act.put, List.setIfInBounds_toArray, List.set_cons_zero, List.set_cons_succ]) | (refine walkR_skip rfl (by decide +kernel) rfl (fun _ _ _ h => h) hE ?_; simp only [Act.put, List.setIfInBounds_toArray, List.set_cons_zero, List.set_cons_succ])))
                (refine walkR_only (fun w' => Ext wr w') rfl (by decide +kernel) rfl (fun _ h => h) ?_; intro K hK; go_simp; refine (HLI.out _).mono ?_; rintro e w2 ⟨rfl, rfl⟩; refine hK _ _ (hE) ?_; clear hK K; (try simp only [Act.put, List.setIfInBounds_toArray, List.set_cons_zero, List.set_cons_succ]))
                (repeat (first | (refine walkR_still (v := ?_) rfl (by decide +kernel) rfl (fun _ _ _ h => h) hE ?_ ?_; rotate_left; (focus (intro w' hw'; obtain ⟨f0, f1, q1, q2⟩ := HW.out w' hw'; obtain ⟨m1, m2⟩ := HMD.out; obtain ⟨z1, z2, z3, z4, z5⟩ := HPF.out; have z6 := HWG.out; go_simp; all_goals (with_reducible rfl))); simp only [Act.put, List.setIfInBounds_toArray, List.set_cons_zero, List.set_cons_succ]) | (refine walkR_skip rfl (by decide +kernel) rfl (fun _ _ _ h => h) hE ?_; simp only [Act.put, List.setIfInBounds_toArray, List.set_cons_zero, List.set_cons_succ])))
                (refine walkR_tail (by rfl) (by kernel_rfl) ?_; simp only [List.drop_succ_cons, List.drop_zero])
                go_wp2
                exact bodyPost_ret (v := .tuple #[.slice none 0 0, .bool false]) (by simp [results, Tryz.results160, go_sem]) rfl ⟨_, by rw [HT.out, HEF.out, Bool.false_and], HX0.out.trans (HX.out.trans hE)⟩
              · have hy0' : (y == 0) = false := by simpa using hy0
                have HET : Hid (entryF xs R i = true) := by
                  show _ = _
                  rw [HE.out, hin2]
                  simp [hy0]
                clear hx0 hy0 hin hin2 HE
                go_wp2
                clear f0 f1
                (refine walkR_start (fun w' => Ext wr w') 34 (by kernel_rfl) ?_; simp only [numbered, List.take_succ_cons, List.take_zero, Nat.zero_add, Nat.reduceAdd, List.length_cons, List.length_nil])
                (repeat (first | (refine walkR_still (v := ?_) rfl (by decide +kernel) rfl (fun _ _ _ h => h) hE ?_ ?_; rotate_left; (focus (intro w' hw'; obtain ⟨f0, f1, q1, q2⟩ := HW.out w' hw'; obtain ⟨m1, m2⟩ := HMD.out; obtain ⟨z1, z2, z3, z4, z5⟩ := HPF.out; have z6 := HWG.out; go_simp; all_goals (with_reducible rfl))); simp only [Act.put, List.setIfInBounds_toArray, List.set_cons_zero, List.set_cons_succ]) | (refine walkR_skip rfl (by decide +kernel) rfl (fun _ _ _ h => h) hE ?_; simp only [Act.put, List.setIfInBounds_toArray, List.set_cons_zero, List.set_cons_succ])))
                (refine walkR_only (fun w' => Ext wr w') rfl (by decide +kernel) rfl (fun _ h => h) ?_; intro K hK; go_simp; refine (HLI.out _).mono ?_; rintro e w2 ⟨rfl, rfl⟩; refine hK _ _ (hE) ?_; clear hK K; (try simp only [Act.put, List.setIfInBounds_toArray, List.set_cons_zero, List.set_cons_succ]))
                (repeat (first | (refine walkR_still (v := ?_) rfl (by decide +kernel) rfl (fun _ _ _ h => h) hE ?_ ?_; rotate_left; (focus (intro w' hw'; obtain ⟨f0, f1, q1, q2⟩ := HW.out w' hw'; obtain ⟨m1, m2⟩ := HMD.out; obtain ⟨z1, z2, z3, z4, z5⟩ := HPF.out; have z6 := HWG.out; go_simp; all_goals (with_reducible rfl))); simp only [Act.put, List.setIfInBounds_toArray, List.set_cons_zero, List.set_cons_succ]) | (refine walkR_skip rfl (by decide +kernel) rfl (fun _ _ _ h => h) hE ?_; simp only [Act.put, List.setIfInBounds_toArray, List.set_cons_zero, List.set_cons_succ])))
                (refine walkR_tail (by rfl) (by kernel_rfl) ?_; simp only [List.drop_succ_cons, List.drop_zero])
                go_wp2
                go_roundw
                case rel =>
                  refine ⟨i + 1, by omega, by go_num, fun q hq => ?_, HX.out.trans hE⟩
                  rcases Nat.lt_succ_iff_lt_or_eq.1 hq with h3 | rfl
                  · exact HJ.out q h3
                  · exact HET.out
                case measure => simp [intOf]; omega
        · have HIE : Hid (i = R * R) := by show _ = _; omega
          have HET : Hid (partsB (R : Int) xs = (partsGo (bitsOf xs) R 5 0 []).all fun rows => fitAny xs R rows) := by
            show _ = _
            rw [HT.out, entryB_eq, L.out, ← HIE.out, List.all_eq_true.2 fun m hm => HJ.out m (List.mem_range.1 hm), Bool.true_and]
          clear HJ HT
          obtain ⟨f0, f1⟩ := HC.out.below HX.out
          obtain ⟨wb, hwb⟩ : ∃ wb : World, wb = wr := ⟨_, rfl⟩
          rw [← hwb] at HX f0 f1 ⊢
          have HXS := hidP (Ext.alloc wb (.cells #[] 9))
          have HXI := hidP (Ext.alloc (wb.alloc (.cells #[] 9)) (.cells #[] 3))
          have HOS := hidP ((OwnS.made wb wb.heap.size (Nat.le_refl _)).below HXI.out)
          have hm := OwnI.made (wb.alloc (.cells #[] 9)) wb.heap.size 0 (by simp) (by unfold maxLen; omega)
          rw [show Array.replicate 0 (Value.int .i64 0) = #[] from rfl] at hm
          have HOI := hidP hm
          have HXB := hidP (HXS.out.trans HXI.out)
          clear hwb hm HXS HXI
          go_wp2
          clear f0 f1
          go_loopw [5, 6, 7] (fun u v t wr => ∃ (i f : Nat) (done : List Nat) (ad : Option Addr) (cd : Nat) (ao : Option Addr) (no co : Nat) (so : List ByteArray), i ≤ R ∧ t = .int .i64 i ∧ v = .slice ad done.length cd ∧ u = .slice ao no co ∧ no ≤ i ∧ done.length ≤ 4 * i ∧
            Hid ((partsGo (bitsOf xs) R 5 0 []).all (fun rows => fitAny xs R rows) = (partsGo (bitsOf xs) R f i done).all (fun rows => fitAny xs R rows)) ∧ Hid (R - i < f) ∧ Hid (OwnI wr wb.heap.size ad done.length cd (natI done)) ∧ Hid (OwnS wr wb.heap.size ao no co so) ∧ Hid (Ext wb wr)) (fun _ _ t _ => R - (intOf t).toNat)
          case atStart =>
            exact ⟨0, 5, [], _, 0, _, 0, 0, [], Nat.zero_le _, rfl, rfl, rfl, Nat.le_refl _, by simp, rfl, by show _ < _; omega, (by rw [show wb.heap.size + 1 = (wb.alloc (.cells #[] 9)).heap.size by simp]; exact HOI), HOS, HXB⟩
          case round =>
            clear HOI HOS HXB
            obtain ⟨i1, f, done, ad, cd, ao, no, co, so, hi1, rfl, rfl, rfl, hno, hdl, HP, HF, HO, HS, HXr⟩ := hrel
            have HXa := hidP (HX.out.trans HXr.out)
            obtain ⟨f0, f1⟩ := HC.out.below HXa.out
            by_cases hlt1 : i1 < R
            · obtain ⟨f, rfl⟩ : ∃ f', f = f' + 1 := ⟨f - 1, by have := HF.out; omega⟩
              have HFd := hidP (l1Find_any ad done.length cd (natI done) (i1 : Int) wr HO.out.ints (by omega))
              have HMem : Hid ((i1 : Int) ∈ natI done ↔ i1 ∈ done) := by
                show _ ↔ _
                unfold natI
                rw [List.mem_map]
                exact ⟨fun ⟨a, h, e⟩ => by obtain rfl : a = i1 := by omega
                                           exact h, fun h => ⟨i1, h, rfl⟩⟩
              go_wp2_with fail
              refine HFd.out.mono ?_
              rintro e w2 ⟨v, rfl, hv, hv1, hv2, rfl⟩
              by_cases hm : i1 ∈ done
              · have hv0 : 0 ≤ v := hv.2 (HMem.out.2 hm)
                have HP2 : Hid ((partsGo (bitsOf xs) R 5 0 []).all (fun rows => fitAny xs R rows) = (partsGo (bitsOf xs) R f (i1 + 1) done).all (fun rows => fitAny xs R rows)) := by
                  show _ = _
                  rw [HP.out, partsGo_done _ _ _ _ _ hlt1 hm]
                clear hv hm f0 f1
                go_wp2
                go_roundw
                case rel => exact ⟨i1 + 1, f, done, ad, cd, ao, no, co, so, by omega, by go_num, rfl, rfl, by omega, by omega, HP2, by show _ < _; have := HF.out; omega, HO, HS, HXr⟩
                case measure => simp [intOf]; omega
              · have hvn : ¬ (0 ≤ v) := fun h => hm (HMem.out.1 (hv.1 h))
                have HPt := hidP (l5Part_any R hR4 xs a c i1 hlt1 wr (H.out.below HXa.out))
                have HP2 : Hid ((partsGo (bitsOf xs) R 5 0 []).all (fun rows => fitAny xs R rows) = (fitAny xs R (partL (bitsOf xs) R i1) && (partsGo (bitsOf xs) R f (i1 + 1) (done ++ partL (bitsOf xs) R i1)).all (fun rows => fitAny xs R rows))) := by
                  show _ = _
                  rw [HP.out, partsGo_new _ _ _ _ _ hlt1 hm]
                  rfl
                generalize partL (bitsOf xs) R i1 = P at *
                clear hv hm HFd HMem HP
                go_wp2_with fail
                refine HPt.out.mono ?_
                rintro e w2 ⟨a8, n8, c8, rfl, hr2, hx2, hnd, hrr⟩
                have hl8 := hr2.len
                rw [natI_length] at hl8
                subst hl8
                have hP4 := nodup_le R P hnd hrr
                have HR2 := hidP hr2
                have HRR := hidP hrr
                have HX2 := hidP hx2
                have HO2 := hidP (HO.out.below hx2)
                have HS2 := hidP (HS.out.below hx2)
                have HXw := hidP (HXr.out.trans hx2)
                clear hr2 hx2 hnd hrr f0 f1
                go_wp2_with (at_builtin; refine wpList_append_ints rfl (.tmp 84) (.tmp 85) rfl wb.heap.size ad done.length cd (natI done) rfl HO2.out a8 P.length c8 (natI P) rfl HR2.out.ints HR2.out.nil_cap (by omega) HXw.out.size ?_; intro a5 c5 w5 ho5 hg5)
                have HX5 : Hid (Ext wb w5) := grown_ext hg5 HXw.out HXw.out.size HO2.out.addr_base
                have HR5 := hidP (HR2.out.grown hg5 fun g o e => HO.out.ne_new ((HR2.out.at_base g o e).1))
                have HS5 := hidP (HS2.out.grown hg5 fun g o e => HS2.out.ne_ints HO2.out g o e)
                rw [← natI_append] at ho5
                have HO5 := hidP ho5
                have HP4 := hidP hP4
                clear ho5 hg5
                go_wp2_with fail
                refine (l5Names_any w5).mono ?_
                rintro e w6 ⟨bn, rfl, hs6, hx6⟩
                have HN6 := hidP hs6
                have HX6 := hidP (HX5.out.trans hx6)
                have HR6 := hidP (HR5.out.below hx6)
                have HS6 := hidP (HS5.out.below hx6)
                have HO6 := hidP (HO5.out.below hx6)
                clear hs6 hx6 HO5 HS5 HR5 HX5 HO2 HR2 HS2 HXw
                go_wp2
                go_loopw [9, 11] (fun u t wx => ∃ (k : Nat) (ff : ByteArray), k ≤ 12 ∧ t = .int .i64 k ∧ u = .string ff ∧ Hid (NameIf ((List.range k).any (fitK xs R P)) ff) ∧ Hid (Ext w6 wx)) (fun _ t _ => 12 - (intOf t).toNat)
                case atStart => exact ⟨0, ⟨#[]⟩, Nat.zero_le _, rfl, rfl, NameIf.no rfl, Ext.refl _⟩
                case round =>
                  obtain ⟨k, ff, hk, rfl, rfl, HN, HXx⟩ := hrel
                  have HXb := hidP (HX6.out.trans HXx.out)
                  have HXc := hidP (HX.out.trans HXb.out)
                  by_cases hk12 : k < 12
                  · have HAS : Hid ((List.range (k + 1)).any (fitK xs R P) = ((List.range k).any (fitK xs R P) || fitK xs R P k)) := by
                      show _ = _
                      rw [List.range_succ, List.any_append]
                      simp
                    obtain ⟨bq, oq, e, q⟩ := (HN6.out.below HXx.out).get k hk12
                    simp only [Option.some.injEq, Addr.mk.injEq, and_true] at e
                    obtain ⟨rfl, rfl⟩ := e
                    rw [Nat.zero_add] at q
                    obtain ⟨s, hs⟩ : ∃ s, s = nameS.getD k ByteArray.empty := ⟨_, rfl⟩
                    rw [← hs] at q
                    have hz2 := name_size _ hk12 s hs
                    have hz : 1 < s.size := by omega
                    have hzi : (1 : Int) < (s.size : Int) := by omega
                    have hrk := name_rank _ hk12 s hs hz
                    have hu8 : IntKind.u8.wrap ((s[1].toNat : Int) - 48) = (pRank k : Int) := (u8wrap _).trans hrk
                    have hne := name1_ne k hk12
                    rw [← hs] at hne
                    have HNE := hidP hne
                    have HOne := hidP (fun w' => l5One_any k hk12 s hs w')
                    have HPM := hidP (pRank_pos k hk12).2
                    have HFK : Hid (fitK xs R P k = (decide (pRank k = P.length) && fitsB xs R P k)) := rfl
                    have HW := hidP (fun w' (hx : Ext wr w') => (⟨(HC.out.below (HXc.out.trans hx)).c0, (HC.out.below (HXc.out.trans hx)).c1, (hx.cell (p := ⟨bn, k, none⟩) (World.block_lt_of_cell? wr _ q)).trans q⟩ : _ ∧ _ ∧ _))
                    have hE : Ext wr wr.drew := Ext.drew wr
                    clear q hs hz2 hne
                    by_cases hpk : pRank k = P.length
                    · have HFT : Hid (fitK xs R P k = fitsB xs R P k) := by
                        show _ = _
                        rw [HFK.out, decide_eq_true hpk, Bool.true_and]
                      have HFS : Hid (fitsB xs R P k = searchB P P.length (rowChk xs R (pMat k) P.length) P.length []) := by
                        show _ = _
                        unfold fitsB
                        rw [hpk]
                      rw [hpk] at hu8 HOne HPM
                      have HU := hidP hu8
                      have HWR : Hid (IntKind.i64.wrap (P.length : Int) = (P.length : Int)) := wrap_in (by omega) (by omega)
                      have HRf := hidP (fun w' (hx : Ext wr w') (ad : Option Addr) (cd : Nat) (ho : IntsAt w' ad (P.length * P.length) (pMat k)) => l5Fits_any R hR4 P.length HPM.out xs (pMat k) P rfl HRR.out P.length [] a ad none a8 c cd 0 c8 0 w' ((H.out.below HXc.out).below hx) ho ((HR6.out.ints.below HXx.out).below hx) (IntsAt.nil _ _) (fun _ => rfl) (by omega) (fun x hx => by simp at hx))
                      generalize searchB P P.length (rowChk xs R (pMat k) P.length) P.length [] = sb at *
                      have HPK := hidP hpk
                      clear hpk HFK hrk hu8
                      go_wp2
                      (refine walkR_start (fun w' => Ext wr w') 20 (by kernel_rfl) ?_; simp only [numbered, List.take_succ_cons, List.take_zero, Nat.zero_add, Nat.reduceAdd, List.length_cons, List.length_nil])
                      (repeat (first | (refine walkR_still (v := ?_) rfl (by decide +kernel) rfl (fun _ _ _ h => h) hE ?_ ?_; rotate_left; (focus (intro w' hw'; obtain ⟨f0, f1, q⟩ := HW.out w' hw'; have y1 := HU.out; have y2 := HWR.out; go_simp; all_goals (with_reducible rfl))); simp only [Act.put, List.setIfInBounds_toArray, List.set_cons_zero, List.set_cons_succ]) | (refine walkR_skip rfl (by decide +kernel) rfl (fun _ _ _ h => h) hE ?_; simp only [Act.put, List.setIfInBounds_toArray, List.set_cons_zero, List.set_cons_succ])))
                      (refine walkR_only (fun w' => Ext wr w') rfl (by decide +kernel) rfl (fun _ h => h) ?_; intro K hK; go_simp; refine (HOne.out _).mono ?_; rintro e w7 ⟨a7, rfl, ho7, hx7⟩; refine hK _ _ (hE.trans hx7) ?_; clear hK K; (try simp only [Act.put, List.setIfInBounds_toArray, List.set_cons_zero, List.set_cons_succ]))
                      have hE7 := hE.trans hx7
                      have HRg := hidP (HRf.out _ hE7 a7 (P.length * P.length) ho7.ints)
                      clear hx7 ho7
                      (repeat (first | (refine walkR_still (v := ?_) rfl (by decide +kernel) rfl (fun _ _ _ h => h) hE7 ?_ ?_; rotate_left; (focus (intro w' hw'; obtain ⟨f0, f1, q⟩ := HW.out w' hw'; go_simp; all_goals (with_reducible rfl))); simp only [Act.put, List.setIfInBounds_toArray, List.set_cons_zero, List.set_cons_succ]) | (refine walkR_skip rfl (by decide +kernel) rfl (fun _ _ _ h => h) hE7 ?_; simp only [Act.put, List.setIfInBounds_toArray, List.set_cons_zero, List.set_cons_succ])))
                      (refine walkR_only (fun w' => Ext wr w') rfl (by decide +kernel) rfl (fun _ h => h) ?_; intro K hK; go_simp; refine (HRg.out).mono ?_; rintro e w8 ⟨rfl, hx8⟩; refine hK _ _ (hE7.trans hx8) ?_; clear hK K; (try simp only [Act.put, List.setIfInBounds_toArray, List.set_cons_zero, List.set_cons_succ]))
                      have hE8 := hE7.trans hx8
                      clear hx8 hE7
                      (repeat (first | (refine walkR_still (v := ?_) rfl (by decide +kernel) rfl (fun _ _ _ h => h) hE8 ?_ ?_; rotate_left; (focus (intro w' hw'; obtain ⟨f0, f1, q⟩ := HW.out w' hw'; go_simp; all_goals (with_reducible rfl))); simp only [Act.put, List.setIfInBounds_toArray, List.set_cons_zero, List.set_cons_succ]) | (refine walkR_skip rfl (by decide +kernel) rfl (fun _ _ _ h => h) hE8 ?_; simp only [Act.put, List.setIfInBounds_toArray, List.set_cons_zero, List.set_cons_succ])))
                      (refine walkR_tail (by rfl) (by kernel_rfl) ?_; simp only [List.drop_succ_cons, List.drop_zero])
                      obtain ⟨f0, f1, q⟩ := HW.out _ hE8
                      cases sb
                      · have HN2 : Hid (NameIf ((List.range (k + 1)).any (fitK xs R P)) ff) := HN.out.cast (by rw [HAS.out, HFT.out, HFS.out, Bool.or_false])
                        go_wp2
                        go_roundw
                        case rel => exact ⟨k + 1, ff, by omega, by go_num, rfl, HN2, HXx.out.trans hE8⟩
                        case measure => simp [intOf]; omega
                      · have HN2 : Hid (NameIf ((List.range (k + 1)).any (fitK xs R P)) s) := NameIf.yes (by rw [HAS.out, HFT.out, HFS.out, Bool.or_true]) HNE.out
                        go_wp2
                        go_roundw
                        case rel => exact ⟨k + 1, s, by omega, by go_num, rfl, HN2, HXx.out.trans hE8⟩
                        case measure => simp [intOf]; omega
                    · have HFT : Hid (fitK xs R P k = false) := by
                        show _ = _
                        rw [HFK.out, decide_eq_false hpk, Bool.false_and]
                      have hpk' : ((pRank k : Int) == (P.length : Int)) = false := by simp; omega
                      have hp4 := HPM.out
                      generalize pRank k = pk at *
                      have HU := hidP hu8
                      have HWR : Hid (IntKind.i64.wrap (pk : Int) = (pk : Int)) := wrap_in (by omega) (by omega)
                      have HN2 : Hid (NameIf ((List.range (k + 1)).any (fitK xs R P)) ff) := HN.out.cast (by rw [HAS.out, HFT.out, Bool.or_false])
                      clear hpk HFK hrk hu8
                      go_wp2
                      (refine walkR_start (fun w' => Ext wr w') 20 (by kernel_rfl) ?_; simp only [numbered, List.take_succ_cons, List.take_zero, Nat.zero_add, Nat.reduceAdd, List.length_cons, List.length_nil])
                      (repeat (first | (refine walkR_still (v := ?_) rfl (by decide +kernel) rfl (fun _ _ _ h => h) hE ?_ ?_; rotate_left; (focus (intro w' hw'; obtain ⟨f0, f1, q⟩ := HW.out w' hw'; have y1 := HU.out; have y2 := HWR.out; go_simp; all_goals (with_reducible rfl))); simp only [Act.put, List.setIfInBounds_toArray, List.set_cons_zero, List.set_cons_succ]) | (refine walkR_skip rfl (by decide +kernel) rfl (fun _ _ _ h => h) hE ?_; simp only [Act.put, List.setIfInBounds_toArray, List.set_cons_zero, List.set_cons_succ])))
                      (refine walkR_tail (by rfl) (by kernel_rfl) ?_; simp only [List.drop_succ_cons, List.drop_zero])
                      go_wp2
                      go_roundw
                      case rel => exact ⟨k + 1, ff, by omega, by go_num, rfl, HN2, HXx.out.trans hE⟩
                      case measure => simp [intOf]; omega
                  · obtain rfl : k = 12 := by omega
                    rw [← fitAny_eq] at HN
                    cases hfa : fitAny xs R P
                    · rw [hfa] at HN HP2
                      obtain rfl := HN.out.2 rfl
                      have HB : Hid (partsB (R : Int) xs = false) := by
                        show _ = _
                        rw [HET.out, HP2.out, Bool.false_and]
                      go_wp2
                      exact bodyPost_ret (v := .tuple #[.slice none 0 0, .bool false]) (by simp [results, Tryz.results160, go_sem]) rfl ⟨_, by rw [HB.out], HX0.out.trans HXc.out⟩
                    · rw [hfa, Bool.true_and] at HP2
                      rw [hfa] at HN
                      have hne := HN.out.1 rfl
                      have HSx := hidP (HS6.out.below HXx.out)
                      have HOx := hidP (HO6.out.below HXx.out)
                      obtain ⟨wy, hwy⟩ : ∃ wy : World, wy = wr := ⟨_, rfl⟩
                      rw [← hwy] at HSx HOx HXb HXc ⊢
                      clear hwy HN
                      go_wp2
                      go_loopw [12] (fun t wx => ∃ k : Nat, k ≤ no ∧ t = .int .i64 k ∧ Hid (Ext wy wx)) (fun t _ => (intOf t).toNat)
                      case atStart => exact ⟨no, Nat.le_refl _, rfl, Ext.refl _⟩
                      case round =>
                        obtain ⟨k, hk, rfl, HXz⟩ := hrel
                        obtain ⟨gS, e1, _, _, hnc, hcm, _⟩ := HSx.out.form
                        subst e1
                        by_cases hk0 : 0 < k
                        · obtain ⟨bq, oq, e, q⟩ := (HSx.out.below HXz.out).strsR.get (k - 1) (by omega)
                          simp only [Option.some.injEq, Addr.mk.injEq, and_true] at e
                          obtain ⟨rfl, rfl⟩ := e
                          rw [Nat.zero_add] at q
                          have hk1 : ((k : Int) - 1) = ((k - 1 : Nat) : Int) := by omega
                          have HK1 : Hid (k - 1 ≤ no) := by show _ ≤ _; omega
                          generalize so.getD (k - 1) ByteArray.empty = sq at *
                          go_wp2
                          · refine ⟨⟨k - 1, HK1.out, rfl, HXz⟩, ?_⟩
                            simp [intOf]
                            omega
                          · clear q hk1
                            obtain ⟨wq, hwq⟩ : ∃ wq : World, wq = wr := ⟨_, rfl⟩
                            rw [← hwq] at HXz ⊢
                            clear hwq
                            have HSq := hidP (HSx.out.below HXz.out)
                            have HSl := hidP (HSq.out.strsR.part 0 k (by omega))
                            have hex : ∃ ad, (if co = k then some (⟨gS, 0, none⟩ : Addr) else some ⟨gS, k, none⟩) = some ad ∧ StrsR wq (some ad) (no - k) ((so.drop k).take (no - k)) := by
                              have h3 := HSq.out.strsR.part k (no - k) (by omega)
                              by_cases hck : co = k
                              · rw [if_pos hck]
                                refine ⟨_, rfl, h3.len, fun i hi => by omega⟩
                              · rw [if_neg hck]
                                rw [Nat.zero_add] at h3
                                exact ⟨_, rfl, h3⟩
                            obtain ⟨adS, hadS, hSh⟩ := hex
                            have HSh := hidP hSh
                            have HAD := hidP hadS
                            clear hSh hadS
                            have hE : Ext wq wq.drew := Ext.drew wq
                            have hkc : k ≤ co := by omega
                            have hkn : (no : Int) - k = ((no - k : Nat) : Int) := by omega
                            have hkd : (co : Int) - k = ((co - k : Nat) : Int) := by omega
                            (refine walkR_start (fun w' => Ext wq w') 11 (by kernel_rfl) ?_; simp only [numbered, List.take_succ_cons, List.take_zero, Nat.zero_add, Nat.reduceAdd, List.length_cons, List.length_nil])
                            (refine walkR_later ?_; simp only [List.cons_append, List.nil_append])
                            (repeat (first | (refine walkR_still (v := ?_) rfl (by decide +kernel) rfl (fun _ _ _ h => h) hE ?_ ?_; rotate_left; (focus (intro w' hw'; skip; go_simp; all_goals (with_reducible rfl))); simp only [Act.put, List.setIfInBounds_toArray, List.set_cons_zero, List.set_cons_succ]) | (refine walkR_skip rfl (by decide +kernel) rfl (fun _ _ _ h => h) hE ?_; simp only [Act.put, List.setIfInBounds_toArray, List.set_cons_zero, List.set_cons_succ])))
                            (refine walkR_later ?_; simp only [List.cons_append, List.nil_append])
                            (repeat (first | (refine walkR_still (v := ?_) rfl (by decide +kernel) rfl (fun _ _ _ h => h) hE ?_ ?_; rotate_left; (focus (intro w' hw'; skip; go_simp; all_goals (with_reducible rfl))); simp only [Act.put, List.setIfInBounds_toArray, List.set_cons_zero, List.set_cons_succ]) | (refine walkR_skip rfl (by decide +kernel) rfl (fun _ _ _ h => h) hE ?_; simp only [Act.put, List.setIfInBounds_toArray, List.set_cons_zero, List.set_cons_succ])))
                            (refine walkR_later ?_; simp only [List.cons_append, List.nil_append])
                            (refine walkR_later ?_; simp only [List.cons_append, List.nil_append])
                            (repeat (first | (refine walkR_still (v := ?_) rfl (by decide +kernel) rfl (fun _ _ _ h => h) hE ?_ ?_; rotate_left; (focus (intro w' hw'; skip; go_simp; all_goals (with_reducible rfl))); simp only [Act.put, List.setIfInBounds_toArray, List.set_cons_zero, List.set_cons_succ]) | (refine walkR_skip rfl (by decide +kernel) rfl (fun _ _ _ h => h) hE ?_; simp only [Act.put, List.setIfInBounds_toArray, List.set_cons_zero, List.set_cons_succ])))
                            refine walkR_three (fun v w' => ∃ g, v = .slice (some ⟨g, 0, none⟩) 0 0 ∧ OwnS w' wq.heap.size (some ⟨g, 0, none⟩) 0 0 []) (fun v u w' => ∃ a4 c4, u = .slice a4 k c4 ∧ OwnS w' wq.heap.size a4 k c4 (so.take k)) (fun z w' => ∃ g, z = .slice (some ⟨g, 0, none⟩) 1 1 ∧ w'.cell? ⟨g, 0, none⟩ = some (.string ff)) (fun v z w' => ∃ g g', v = .slice (some ⟨g, 0, none⟩) 0 0 ∧ OwnS w' wq.heap.size (some ⟨g, 0, none⟩) 0 0 [] ∧ z = .slice (some ⟨g', 0, none⟩) 1 1 ∧ w'.cell? ⟨g', 0, none⟩ = some (.string ff) ∧ g' < w'.heap.size ∧ g' ≠ g) (fun v u z w' => ∃ a4 c4 g', u = .slice a4 k c4 ∧ OwnS w' wq.heap.size a4 k c4 (so.take k) ∧ z = .slice (some ⟨g', 0, none⟩) 1 1 ∧ w'.cell? ⟨g', 0, none⟩ = some (.string ff)) rfl rfl rfl (by decide +kernel) rfl rfl rfl (by decide) (by decide) (fun _ => rfl) (fun _ => rfl) (fun _ => rfl) ?_ ?_ ?_ ?_ ?_ ?_ ?_ ?_
                            · intro K hK
                              go_simp
                              exact hK _ _ (hE.trans (Ext.alloc _ _)) ⟨_, rfl, OwnS.made _ _ hE.size⟩
                            · rintro v w' hx ⟨g, rfl, ho⟩ K hK
                              refine wp_append_strs (.tmp 135) (.tmp 138) rfl wq.heap.size (some ⟨g, 0, none⟩) 0 0 [] rfl ho ⟨gS, 0, none⟩ k co (so.take k) rfl (HSl.out.below hx) (by omega) hx.size ?_
                              intro a4 c4 w4 ho4 hg4
                              rw [Nat.zero_add] at ho4 ⊢
                              exact hK _ _ (ho.ext hg4 hx (Nat.le_refl _)) ⟨a4, c4, rfl, ho4⟩
                            · rintro v u w' hx ⟨a4, c4, rfl, ho4⟩ K hK
                              go_simp
                              exact hK _ _ (hx.trans (Ext.alloc _ _)) ⟨a4, c4, _, rfl, ho4.below (Ext.alloc _ _), rfl, (cell_top _ _ _ _ _ rfl).trans rfl⟩
                            · rintro v w' hx ⟨g, rfl, ho⟩ K hK
                              obtain ⟨_, e3, _, hlt3, _⟩ := ho.form
                              simp only [Option.some.injEq, Addr.mk.injEq, and_true] at e3
                              subst e3
                              go_simp
                              exact hK _ _ (hx.trans (Ext.alloc _ _)) ⟨g, _, rfl, ho.below (Ext.alloc _ _), rfl, (cell_top _ _ _ _ _ rfl).trans rfl, by simp, by omega⟩
                            · rintro v z w' hx ⟨g, g', rfl, ho, rfl, hc, hlt', hne'⟩ K hK
                              refine wp_append_strs (.tmp 135) (.tmp 138) rfl wq.heap.size (some ⟨g, 0, none⟩) 0 0 [] rfl ho ⟨gS, 0, none⟩ k co (so.take k) rfl (HSl.out.below hx) (by omega) hx.size ?_
                              intro a4 c4 w4 ho4 hg4
                              rw [Nat.zero_add] at ho4 ⊢
                              exact hK _ _ (ho.ext hg4 hx (Nat.le_refl _)) ⟨a4, c4, g', rfl, ho4, rfl, by rw [World.cell?_of_block (w := w') (hg4.block g' hlt' (by simp [Value.ownBlock]; exact hne'))]; exact hc⟩
                            · intro K hK
                              go_simp
                              exact hK _ _ (hE.trans (Ext.alloc _ _)) ⟨_, rfl, (cell_top _ _ _ _ _ rfl).trans rfl⟩
                            · rintro z w' hx ⟨g', rfl, hc⟩ K hK
                              have hlt' := World.block_lt_of_cell? w' _ hc
                              go_simp
                              exact hK _ _ (hx.trans (Ext.alloc _ _)) ⟨_, g', rfl, OwnS.made _ _ hx.size, rfl, ((Ext.alloc w' _).cell (p := ⟨g', 0, none⟩) hlt').trans hc, by have : g' < w'.heap.size := hlt'; simp; omega, by have : g' < w'.heap.size := hlt'; omega⟩
                            · rintro v u z w3 hx3 ⟨a4, c4, g', rfl, ho4, rfl, hc⟩
                              (try simp only [Act.put, List.setIfInBounds_toArray, List.set_cons_zero, List.set_cons_succ])
                              refine walkR_only (fun w' => Ext wq w') rfl (by decide +kernel) rfl (fun _ h => h) ?_
                              intro K hK
                              refine wp_append_strs (.tmp 139) (.tmp 141) rfl wq.heap.size a4 k c4 (so.take k) rfl ho4 ⟨g', 0, none⟩ 1 1 [ff] rfl (StrsR.one hc) (by omega) hx3.size ?_
                              intro a9 c9 w4 ho9 hg9
                              have hx4 : Ext wq w4 := ho4.ext hg9 hx3 (Nat.le_refl _)
                              refine hK _ _ hx4 ?_
                              clear hK K
                              (try simp only [Act.put, List.setIfInBounds_toArray, List.set_cons_zero, List.set_cons_succ])
                              have HO9 := hidP ho9
                              have HX4 := hidP hx4
                              have HS9 := hidP (HSh.out.below hx4)
                              clear ho9 hg9 hc ho4 hx4 hx3
                              (refine walkR_tail (by rfl) (by kernel_rfl) ?_; simp only [List.drop_succ_cons, List.drop_zero])
                              go_wp2_with (at_builtin; refine wpList_append_strs rfl (.tmp 142) (.tmp 145) rfl wq.heap.size a9 (k + 1) c9 (so.take k ++ [ff]) rfl HO9.out adS (no - k) (co - k) ((so.drop k).take (no - k)) (congrArg (fun x => Value.slice x (no - k) (co - k)) HAD.out) HS9.out (by omega) HX4.out.size ?_; intro a6 c6 w6' ho6 hg6)
                              have HO6b := hidP (ho6.base (B' := wb.heap.size) (HXb.out.trans HXz.out).size)
                              have HX6b : Hid (Ext wb w6') := (HXb.out.trans HXz.out).trans (HO9.out.ext hg6 HX4.out (Nat.le_refl _))
                              have HDy : Hid (OwnI w6' wb.heap.size a5 (done ++ P).length c5 (natI (done ++ P))) := by
                                have h1 := (HOx.out.below HXz.out).below (HO9.out.ext hg6 HX4.out (Nat.le_refl _))
                                rw [List.length_append]
                                exact h1
                              clear ho6 hg6
                              refine ⟨⟨i1 + 1, f, done ++ P, a5, c5, a6, k + 1 + (no - k), c6, _, by omega, by go_num, by rw [List.length_append], rfl, by omega, by rw [List.length_append]; have := HP4.out; omega, HP2, by show _ < _; have := HF.out; omega, HDy, HO6b, HX6b⟩, ?_⟩
                              simp [intOf]
                              omega
                        · have hkz : ¬ (0 < (k : Int)) := by omega
                          go_wp2
                          obtain ⟨wq, hwq⟩ : ∃ wq : World, wq = wr := ⟨_, rfl⟩
                          rw [← hwq] at HXz ⊢
                          clear hwq
                          have HSq := hidP (HSx.out.below HXz.out)
                          have HSl := hidP (HSq.out.strsR.part 0 k (by omega))
                          have hex : ∃ ad, (if co = k then some (⟨gS, 0, none⟩ : Addr) else some ⟨gS, k, none⟩) = some ad ∧ StrsR wq (some ad) (no - k) ((so.drop k).take (no - k)) := by
                            have h3 := HSq.out.strsR.part k (no - k) (by omega)
                            by_cases hck : co = k
                            · rw [if_pos hck]
                              refine ⟨_, rfl, h3.len, fun i hi => by omega⟩
                            · rw [if_neg hck]
                              rw [Nat.zero_add] at h3
                              exact ⟨_, rfl, h3⟩
                          obtain ⟨adS, hadS, hSh⟩ := hex
                          have HSh := hidP hSh
                          have HAD := hidP hadS
                          clear hSh hadS
                          have hE : Ext wq wq.drew := Ext.drew wq
                          have hkc : k ≤ co := by omega
                          have hkn : (no : Int) - k = ((no - k : Nat) : Int) := by omega
                          have hkd : (co : Int) - k = ((co - k : Nat) : Int) := by omega
                          (refine walkR_start (fun w' => Ext wq w') 11 (by kernel_rfl) ?_; simp only [numbered, List.take_succ_cons, List.take_zero, Nat.zero_add, Nat.reduceAdd, List.length_cons, List.length_nil])
                          (refine walkR_later ?_; simp only [List.cons_append, List.nil_append])
                          (repeat (first | (refine walkR_still (v := ?_) rfl (by decide +kernel) rfl (fun _ _ _ h => h) hE ?_ ?_; rotate_left; (focus (intro w' hw'; skip; go_simp; all_goals (with_reducible rfl))); simp only [Act.put, List.setIfInBounds_toArray, List.set_cons_zero, List.set_cons_succ]) | (refine walkR_skip rfl (by decide +kernel) rfl (fun _ _ _ h => h) hE ?_; simp only [Act.put, List.setIfInBounds_toArray, List.set_cons_zero, List.set_cons_succ])))
                          (refine walkR_later ?_; simp only [List.cons_append, List.nil_append])
                          (repeat (first | (refine walkR_still (v := ?_) rfl (by decide +kernel) rfl (fun _ _ _ h => h) hE ?_ ?_; rotate_left; (focus (intro w' hw'; skip; go_simp; all_goals (with_reducible rfl))); simp only [Act.put, List.setIfInBounds_toArray, List.set_cons_zero, List.set_cons_succ]) | (refine walkR_skip rfl (by decide +kernel) rfl (fun _ _ _ h => h) hE ?_; simp only [Act.put, List.setIfInBounds_toArray, List.set_cons_zero, List.set_cons_succ])))
                          (refine walkR_later ?_; simp only [List.cons_append, List.nil_append])
                          (refine walkR_later ?_; simp only [List.cons_append, List.nil_append])
                          (repeat (first | (refine walkR_still (v := ?_) rfl (by decide +kernel) rfl (fun _ _ _ h => h) hE ?_ ?_; rotate_left; (focus (intro w' hw'; skip; go_simp; all_goals (with_reducible rfl))); simp only [Act.put, List.setIfInBounds_toArray, List.set_cons_zero, List.set_cons_succ]) | (refine walkR_skip rfl (by decide +kernel) rfl (fun _ _ _ h => h) hE ?_; simp only [Act.put, List.setIfInBounds_toArray, List.set_cons_zero, List.set_cons_succ])))
                          refine walkR_three (fun v w' => ∃ g, v = .slice (some ⟨g, 0, none⟩) 0 0 ∧ OwnS w' wq.heap.size (some ⟨g, 0, none⟩) 0 0 []) (fun v u w' => ∃ a4 c4, u = .slice a4 k c4 ∧ OwnS w' wq.heap.size a4 k c4 (so.take k)) (fun z w' => ∃ g, z = .slice (some ⟨g, 0, none⟩) 1 1 ∧ w'.cell? ⟨g, 0, none⟩ = some (.string ff)) (fun v z w' => ∃ g g', v = .slice (some ⟨g, 0, none⟩) 0 0 ∧ OwnS w' wq.heap.size (some ⟨g, 0, none⟩) 0 0 [] ∧ z = .slice (some ⟨g', 0, none⟩) 1 1 ∧ w'.cell? ⟨g', 0, none⟩ = some (.string ff) ∧ g' < w'.heap.size ∧ g' ≠ g) (fun v u z w' => ∃ a4 c4 g', u = .slice a4 k c4 ∧ OwnS w' wq.heap.size a4 k c4 (so.take k) ∧ z = .slice (some ⟨g', 0, none⟩) 1 1 ∧ w'.cell? ⟨g', 0, none⟩ = some (.string ff)) rfl rfl rfl (by decide +kernel) rfl rfl rfl (by decide) (by decide) (fun _ => rfl) (fun _ => rfl) (fun _ => rfl) ?_ ?_ ?_ ?_ ?_ ?_ ?_ ?_
                          · intro K hK
                            go_simp
                            exact hK _ _ (hE.trans (Ext.alloc _ _)) ⟨_, rfl, OwnS.made _ _ hE.size⟩
                          · rintro v w' hx ⟨g, rfl, ho⟩ K hK
                            refine wp_append_strs (.tmp 135) (.tmp 138) rfl wq.heap.size (some ⟨g, 0, none⟩) 0 0 [] rfl ho ⟨gS, 0, none⟩ k co (so.take k) rfl (HSl.out.below hx) (by omega) hx.size ?_
                            intro a4 c4 w4 ho4 hg4
                            rw [Nat.zero_add] at ho4 ⊢
                            exact hK _ _ (ho.ext hg4 hx (Nat.le_refl _)) ⟨a4, c4, rfl, ho4⟩
                          · rintro v u w' hx ⟨a4, c4, rfl, ho4⟩ K hK
                            go_simp
                            exact hK _ _ (hx.trans (Ext.alloc _ _)) ⟨a4, c4, _, rfl, ho4.below (Ext.alloc _ _), rfl, (cell_top _ _ _ _ _ rfl).trans rfl⟩
                          · rintro v w' hx ⟨g, rfl, ho⟩ K hK
                            obtain ⟨_, e3, _, hlt3, _⟩ := ho.form
                            simp only [Option.some.injEq, Addr.mk.injEq, and_true] at e3
                            subst e3
                            go_simp
                            exact hK _ _ (hx.trans (Ext.alloc _ _)) ⟨g, _, rfl, ho.below (Ext.alloc _ _), rfl, (cell_top _ _ _ _ _ rfl).trans rfl, by simp, by omega⟩
                          · rintro v z w' hx ⟨g, g', rfl, ho, rfl, hc, hlt', hne'⟩ K hK
                            refine wp_append_strs (.tmp 135) (.tmp 138) rfl wq.heap.size (some ⟨g, 0, none⟩) 0 0 [] rfl ho ⟨gS, 0, none⟩ k co (so.take k) rfl (HSl.out.below hx) (by omega) hx.size ?_
                            intro a4 c4 w4 ho4 hg4
                            rw [Nat.zero_add] at ho4 ⊢
                            exact hK _ _ (ho.ext hg4 hx (Nat.le_refl _)) ⟨a4, c4, g', rfl, ho4, rfl, by rw [World.cell?_of_block (w := w') (hg4.block g' hlt' (by simp [Value.ownBlock]; exact hne'))]; exact hc⟩
                          · intro K hK
                            go_simp
                            exact hK _ _ (hE.trans (Ext.alloc _ _)) ⟨_, rfl, (cell_top _ _ _ _ _ rfl).trans rfl⟩
                          · rintro z w' hx ⟨g', rfl, hc⟩ K hK
                            have hlt' := World.block_lt_of_cell? w' _ hc
                            go_simp
                            exact hK _ _ (hx.trans (Ext.alloc _ _)) ⟨_, g', rfl, OwnS.made _ _ hx.size, rfl, ((Ext.alloc w' _).cell (p := ⟨g', 0, none⟩) hlt').trans hc, by have : g' < w'.heap.size := hlt'; simp; omega, by have : g' < w'.heap.size := hlt'; omega⟩
                          · rintro v u z w3 hx3 ⟨a4, c4, g', rfl, ho4, rfl, hc⟩
                            (try simp only [Act.put, List.setIfInBounds_toArray, List.set_cons_zero, List.set_cons_succ])
                            refine walkR_only (fun w' => Ext wq w') rfl (by decide +kernel) rfl (fun _ h => h) ?_
                            intro K hK
                            refine wp_append_strs (.tmp 139) (.tmp 141) rfl wq.heap.size a4 k c4 (so.take k) rfl ho4 ⟨g', 0, none⟩ 1 1 [ff] rfl (StrsR.one hc) (by omega) hx3.size ?_
                            intro a9 c9 w4 ho9 hg9
                            have hx4 : Ext wq w4 := ho4.ext hg9 hx3 (Nat.le_refl _)
                            refine hK _ _ hx4 ?_
                            clear hK K
                            (try simp only [Act.put, List.setIfInBounds_toArray, List.set_cons_zero, List.set_cons_succ])
                            have HO9 := hidP ho9
                            have HX4 := hidP hx4
                            have HS9 := hidP (HSh.out.below hx4)
                            clear ho9 hg9 hc ho4 hx4 hx3
                            (refine walkR_tail (by rfl) (by kernel_rfl) ?_; simp only [List.drop_succ_cons, List.drop_zero])
                            go_wp2_with (at_builtin; refine wpList_append_strs rfl (.tmp 142) (.tmp 145) rfl wq.heap.size a9 (k + 1) c9 (so.take k ++ [ff]) rfl HO9.out adS (no - k) (co - k) ((so.drop k).take (no - k)) (congrArg (fun x => Value.slice x (no - k) (co - k)) HAD.out) HS9.out (by omega) HX4.out.size ?_; intro a6 c6 w6' ho6 hg6)
                            have HO6b := hidP (ho6.base (B' := wb.heap.size) (HXb.out.trans HXz.out).size)
                            have HX6b : Hid (Ext wb w6') := (HXb.out.trans HXz.out).trans (HO9.out.ext hg6 HX4.out (Nat.le_refl _))
                            have HDy : Hid (OwnI w6' wb.heap.size a5 (done ++ P).length c5 (natI (done ++ P))) := by
                              have h1 := (HOx.out.below HXz.out).below (HO9.out.ext hg6 HX4.out (Nat.le_refl _))
                              rw [List.length_append]
                              exact h1
                            clear ho6 hg6
                            refine ⟨⟨i1 + 1, f, done ++ P, a5, c5, a6, k + 1 + (no - k), c6, _, by omega, by go_num, by rw [List.length_append], rfl, by omega, by rw [List.length_append]; have := HP4.out; omega, HP2, by show _ < _; have := HF.out; omega, HDy, HO6b, HX6b⟩, ?_⟩
                            simp [intOf]
                            omega
            · obtain rfl : i1 = R := by omega
              have HB : Hid (partsB (i1 : Int) xs = true) := by
                show _ = _
                rw [HET.out, HP.out, partsGo_end _ _ _ _ _ (Nat.lt_irrefl _)]
                rfl
              go_wp2
              exact bodyPost_ret (v := .tuple #[.slice ao no co, .bool true]) (by simp [results, Tryz.results160, go_sem]) rfl ⟨_, by rw [HB.out], HX0.out.trans HXa.out⟩
    · have HT : Hid (partsB r xs = false) := by
        show _ = _
        unfold partsB
        rw [decide_eq_false (p := (xs.length : Int) = r * r) (by rw [L.out]; exact hl)]
        simp
      have hlb : ((n : Int) != r * r) = true := by simpa using hl
      have HX0 := hidP hx0
      clear h hi hx0 hl hdi
      go_enter Tryz.func160, Tryz.ntmps160
      go_wp2_with fail
      refine (HI.out _).mono ?_
      rintro e w' ⟨rfl, rfl⟩
      go_wp2
      exact bodyPost_ret (v := .tuple #[.slice none 0 0, .bool false]) (by simp [results, Tryz.results160, go_sem]) rfl ⟨_, by rw [HT.out], HX0.out⟩
theorem sIsCartan_any (r : Int) (a : Option Addr) (n c : Nat) (xs : List Int) (w : World) (h : IntsAt w a n xs) (hn : n ≤ 9223372036854775807) :
    Calls Tryz.prog 133 #[carV r a n c] w fun e w' => e = .returned (.bool (typeB r xs)) ∧ Ext w w' := by
  have hx0 := Ext.alloc w (.cells #[.int .i64 r, .slice a n c] 55)
  have H := hidP (l5Parts_any r a n c xs _ (h.below hx0) hn)
  obtain ⟨f0, f1⟩ := CarAt.new w _ rfl r a n c 55
  have HX0 := hidP hx0
  rw [typeB_eq]
  clear h hx0
  go_enter Tryz.func133, Tryz.ntmps133
  go_wp2_with fail
  refine H.out.mono ?_
  rintro e w1 ⟨s, rfl, hx1⟩
  have HX1 := hidP (HX0.out.trans hx1)
  clear hx1 H
  go_wp2
  go_ret
  exact ⟨rfl, HX1.out⟩
end Go.Proofs.YtnfbfdamlnjblaaGreatDoor
