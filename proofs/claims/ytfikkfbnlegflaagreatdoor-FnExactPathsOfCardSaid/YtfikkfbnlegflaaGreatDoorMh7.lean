/-
  Lowering and raising by the program: lowered, raised. Printed by gen/pthJ2.py.
  The reference on paths: the least height, a path gone back, a reflection between two times.
  Lowering and raising by the reference: l9Lower, l9LowerPath, l9RaisePath. Printed by gen/pthM.py.
  Lowering and raising by the reference: l9LowerPath, l9RaisePath.
  LowerPath, RaisePath: the program's and the reference's. Printed by gen/pthO.py.
  Paths of the reference: PathOk, JoinPaths.
  The reference's test of a Cartan matrix.
-/
import Derived.Test.YtfikkfbnlegflaaGreatDoorMh6
namespace Go.Proofs.YtfikkfbnlegflaaGreatDoor
open Go.RowKit

def entryF (xs : List Int) (r m : Nat) : Bool := decide (-3 ≤ xs.getD m 0 ∧ xs.getD m 0 ≤ 2) && (decide (xs.getD m 0 = 0) || decide (atM xs r (m % r) (m / r) ≠ 0))
theorem entryB_eq (xs : List Int) (r : Nat) : entryB xs r = (List.range xs.length).all (entryF xs r) := rfl
theorem partsGo_done (bits : List Bool) (r f i : Nat) (done : List Nat) (hi : i < r) (h : i ∈ done) : partsGo bits r (f + 1) i done = partsGo bits r f (i + 1) done := by
  rw [partsGo, if_pos hi, if_pos (by simpa using h)]
theorem partsGo_new (bits : List Bool) (r f i : Nat) (done : List Nat) (hi : i < r) (h : i ∉ done) : partsGo bits r (f + 1) i done = partL bits r i :: partsGo bits r f (i + 1) (done ++ partL bits r i) := by
  rw [partsGo, if_pos hi, if_neg (by simpa using h)]
theorem partsGo_end (bits : List Bool) (r f i : Nat) (done : List Nat) (hi : ¬ i < r) : partsGo bits r f i done = [] := by
  cases f with
  | zero => rfl
  | succ f => rw [partsGo, if_neg hi]
def fitK (xs : List Int) (r : Nat) (rows : List Nat) (k : Nat) : Bool := decide (pRank k = rows.length) && fitsB xs r rows k
theorem fitAny_eq (xs : List Int) (r : Nat) (rows : List Nat) : fitAny xs r rows = (List.range 12).any (fitK xs r rows) := rfl
theorem name1_ne : ∀ k, k < 12 → (nameS.getD k ByteArray.empty).toList.isEmpty = false := by decide +kernel
theorem NameIf.cast {b b' : Bool} {s : ByteArray} (h : NameIf b s) (e : b = b') : NameIf b' s := e ▸ h

theorem u8wrap (x : Int) : IntKind.u8.wrap x = x % 256 := by simp [IntKind.wrap, IntKind.signed, IntKind.bits]
set_option maxRecDepth 100000 in
set_option maxHeartbeats 8000000 in
theorem l5Parts_any (r : Int) (a : Option Addr) (n c : Nat) (xs : List Int) (w : World) (h : IntsAt w a n xs) (hn : n ≤ 9223372036854775807) :
    Calls Tryz.prog 118 #[carV r a n c] w fun e w' => ∃ v, e = .returned (.tuple #[v, .bool (partsB r xs)]) ∧ Ext w w' := by
  have L := hidP h.len
  have hx0 := Ext.alloc w (.cells #[.int .i64 r, .slice a n c] 31)
  obtain ⟨f0, f1⟩ := CarAt.new w _ rfl r a n c 31
  have HI := hidP (fun w' => l1In_any r 1 4 w')
  cases hi : insB r 1 4
  · have HT : Hid (partsB r xs = false) := by
      show _ = _
      unfold partsB
      have : decide (1 ≤ r ∧ r ≤ 4) = false := hi
      rw [this]
      rfl
    rw [hi] at HI
    have HX0 := hidP hx0
    clear h hi hx0
    go_enter Tryz.func118, Tryz.ntmps118
    go_wp2_with fail
    refine (HI.out _).mono ?_
    rintro e w' ⟨rfl, rfl⟩
    go_wp2
    exact bodyPost_ret (v := .tuple #[.slice none 0 0, .bool false]) (by simp [results, Tryz.results118, go_sem]) rfl ⟨_, by rw [HT.out], HX0.out⟩
  · obtain ⟨h1, h4⟩ := insB_true.1 hi
    rw [hi] at HI
    have hdi : decide (1 ≤ r ∧ r ≤ 4) = true := hi
    have hr0 : 0 ≤ r * r := Int.mul_nonneg (by omega) (by omega)
    have hr16 : r * r ≤ 16 := by
      have := Int.mul_le_mul h4 h4 (by omega) (by omega : (0 : Int) ≤ 4)
      omega
    by_cases hl : (n : Int) = r * r
    · obtain ⟨R, rfl⟩ : ∃ R : Nat, r = R := ⟨r.toNat, by omega⟩
      have hR1 : 1 ≤ R := by omega
      have hR4 : R ≤ 4 := by omega
      have hnr : n = R * R := by rw [← Int.natCast_mul] at hl; omega
      subst hnr
      have HT : Hid (partsB (R : Int) xs = (entryB xs R && (partsGo (bitsOf xs) R 5 0 []).all fun rows => fitAny xs R rows)) := by
        show _ = _
        unfold partsB
        rw [hdi, Int.toNat_natCast, decide_eq_true (by rw [L.out]; exact hl), Bool.true_and, Bool.true_and]
      have hlb : ((((R * R : Nat) : Int)) != (R : Int) * R) = false := by
        rw [Int.natCast_mul]; simp
      have H := hidP (h.below hx0)
      have HX0 := hidP hx0
      have hRR : R * R ≤ 16 := by have := Nat.mul_le_mul hR4 hR4; omega
      clear h hi hx0 hl hdi
      go_enter Tryz.func118, Tryz.ntmps118
      go_wp2_with fail
      refine (HI.out _).mono ?_
      rintro e w' ⟨rfl, rfl⟩
      obtain ⟨w0, hw0⟩ : ∃ w0, w0 = w.alloc (.cells #[.int .i64 R, .slice a (R * R) c] 31) := ⟨_, rfl⟩
      rw [← hw0] at f0 f1 H HX0 ⊢
      obtain ⟨b1, hb1⟩ : ∃ b, b = w.heap.size := ⟨_, rfl⟩
      rw [← hb1] at f0 f1 ⊢
      have HC : Hid (CarAt w0 b1 R a (R * R) c) := ⟨f0, f1⟩
      clear hw0 hb1
      go_wp2
      clear f0 f1
      go_loopw [4] (fun t wr => ∃ i : Nat, i ≤ R * R ∧ t = .int .i64 i ∧ Hid (∀ m, m < i → entryF xs R m = true) ∧ Hid (Ext w0 wr)) (fun t _ => R * R - (intOf t).toNat)
      case atStart => exact ⟨0, Nat.zero_le _, rfl, fun q hq => by omega, Ext.refl _⟩
      case round =>
        obtain ⟨i, hi, rfl, HJ, HX⟩ := hrel
        by_cases hlt : i < R * R
        · obtain ⟨f0, f1⟩ := HC.out.below HX.out
          obtain ⟨b, o, rfl, q⟩ := (H.out.below HX.out).get i hlt
          have hiR : i / R < R := Nat.div_lt_of_lt_mul hlt
          have hmR : i % R < R := Nat.mod_lt _ (by omega)
          have hj2 : i % R * R + i / R < R * R := by
            have := Nat.mul_le_mul_right R (show i % R + 1 ≤ R by omega)
            rw [Nat.add_mul, Nat.one_mul] at this
            omega
          have q2 := (H.out.below HX.out).atc (i % R * R + i / R) hj2
          have HE : Hid (entryF xs R i = (decide (-3 ≤ xs.getD i 0 ∧ xs.getD i 0 ≤ 2) && (decide (xs.getD i 0 = 0) || decide (atM xs R (i % R) (i / R) ≠ 0)))) := rfl
          have HLI := hidP (fun w' => l1In_any (xs.getD i 0) (-3) 2 w')
          have hy : xs.getD (i % R * R + i / R) 0 = atM xs R (i % R) (i / R) := rfl
          rw [hy] at q2
          have HW := hidP (fun w' (hx : Ext wr w') => (⟨(HC.out.below (HX.out.trans hx)).c0, (HC.out.below (HX.out.trans hx)).c1, (hx.cell (p := ⟨b, o + i, none⟩) (World.block_lt_of_cell? wr _ q)).trans q, (hx.cell (p := ⟨b, o + (i % R * R + i / R), none⟩) (World.block_lt_of_cell? wr _ q2)).trans q2⟩ : _ ∧ _ ∧ _ ∧ _))
          generalize xs.getD i 0 = x at *
          generalize atM xs R (i % R) (i / R) = y at *
          have hE : Ext wr wr.drew := Ext.drew wr
          clear q q2 hy
          have hRz : ¬ (R = 0) := by omega
          have HMD : Hid ((i : Int).tmod R = ((i % R : Nat) : Int) ∧ (i : Int).tdiv R = ((i / R : Nat) : Int)) := by
            refine ⟨?_, ?_⟩
            · rw [Int.tmod_eq_emod_of_nonneg (by omega)]; rfl
            · rw [Int.tdiv_eq_ediv_of_nonneg (by omega)]; rfl
          have HPF := hidP (placeF (i := i % R) (j := i / R) hR4 hmR hiR)
          have HWG : Hid (IntKind.i64.wrap ((i / R : Nat) : Int) = ((i / R : Nat) : Int)) := wrap_in (Int.le_trans (by omega) (Int.natCast_nonneg _)) (by have : ((i / R : Nat) : Int) < (R : Int) := Int.ofNat_lt.2 hiR; omega)
          generalize i % R = p at *
          generalize i / R = g at *
          cases hin : insB x (-3) 2
          · rw [hin] at HLI
            have hin2 : decide (-3 ≤ x ∧ x ≤ 2) = false := hin
            have HEF : Hid (entryB xs R = false) := by
              show _ = _
              rw [entryB_eq, List.all_eq_false]
              refine ⟨i, List.mem_range.2 (by rw [L.out]; exact hlt), ?_⟩
              rw [HE.out]
              rw [hin2]; simp
            clear hin hin2 HE
            go_wp2
            clear f0 f1
            (refine walkR_start (fun w' => Ext wr w') 34 (by kernel_rfl) ?_; simp only [numbered, List.take_succ_cons, List.take_zero, Nat.zero_add, Nat.reduceAdd, List.length_cons, List.length_nil])
            (repeat (first | (refine walkR_still (v := ?_) rfl (by decide +kernel) rfl (fun _ _ _ h => h) hE ?_ ?_; rotate_left; (focus (intro w' hw'; obtain ⟨f0, f1, q1, q2⟩ := HW.out w' hw'; obtain ⟨m1, m2⟩ := HMD.out; obtain ⟨z1, z2, z3, z4, z5⟩ := HPF.out; have z6 := HWG.out; go_simp; all_goals (with_reducible rfl))); simp only [Act.put, List.setIfInBounds_toArray, List.set_cons_zero, List.set_cons_succ]) | (refine walkR_skip rfl (by decide +kernel) rfl (fun _ _ _ h => h) hE ?_; simp only [Act.put, List.setIfInBounds_toArray, List.set_cons_zero, List.set_cons_succ])))
            (refine walkR_only (fun w' => Ext wr w') rfl (by decide +kernel) rfl (fun _ h => h) ?_; intro K hK; go_simp; refine (HLI.out _).mono ?_; rintro e w2 ⟨rfl, rfl⟩; refine hK _ _ (hE) ?_; clear hK K; (try simp only [Act.put, List.setIfInBounds_toArray, List.set_cons_zero, List.set_cons_succ]))
            (repeat (first | (refine walkR_still (v := ?_) rfl (by decide +kernel) rfl (fun _ _ _ h => h) hE ?_ ?_; rotate_left; (focus (intro w' hw'; obtain ⟨f0, f1, q1, q2⟩ := HW.out w' hw'; obtain ⟨m1, m2⟩ := HMD.out; obtain ⟨z1, z2, z3, z4, z5⟩ := HPF.out; have z6 := HWG.out; go_simp; all_goals (with_reducible rfl))); simp only [Act.put, List.setIfInBounds_toArray, List.set_cons_zero, List.set_cons_succ]) | (refine walkR_skip rfl (by decide +kernel) rfl (fun _ _ _ h => h) hE ?_; simp only [Act.put, List.setIfInBounds_toArray, List.set_cons_zero, List.set_cons_succ])))
            (refine walkR_tail (by rfl) (by kernel_rfl) ?_; simp only [List.drop_succ_cons, List.drop_zero])
            go_wp2
            exact bodyPost_ret (v := .tuple #[.slice none 0 0, .bool false]) (by simp [results, Tryz.results118, go_sem]) rfl ⟨_, by rw [HT.out, HEF.out, Bool.false_and], HX0.out.trans (HX.out.trans hE)⟩
          · rw [hin] at HLI
            have hin2 : decide (-3 ≤ x ∧ x ≤ 2) = true := hin
            by_cases hx0 : x = 0
            · have hx0' : (x != 0) = false := by simpa using hx0
              have HET : Hid (entryF xs R i = true) := by
                show _ = _
                rw [HE.out, hin2]
                simp [hx0]
              clear hx0 hin hin2 HE
              go_wp2
              clear f0 f1
              (refine walkR_start (fun w' => Ext wr w') 34 (by kernel_rfl) ?_; simp only [numbered, List.take_succ_cons, List.take_zero, Nat.zero_add, Nat.reduceAdd, List.length_cons, List.length_nil])
              (repeat (first | (refine walkR_still (v := ?_) rfl (by decide +kernel) rfl (fun _ _ _ h => h) hE ?_ ?_; rotate_left; (focus (intro w' hw'; obtain ⟨f0, f1, q1, q2⟩ := HW.out w' hw'; obtain ⟨m1, m2⟩ := HMD.out; obtain ⟨z1, z2, z3, z4, z5⟩ := HPF.out; have z6 := HWG.out; go_simp; all_goals (with_reducible rfl))); simp only [Act.put, List.setIfInBounds_toArray, List.set_cons_zero, List.set_cons_succ]) | (refine walkR_skip rfl (by decide +kernel) rfl (fun _ _ _ h => h) hE ?_; simp only [Act.put, List.setIfInBounds_toArray, List.set_cons_zero, List.set_cons_succ])))
              (refine walkR_only (fun w' => Ext wr w') rfl (by decide +kernel) rfl (fun _ h => h) ?_; intro K hK; go_simp; refine (HLI.out _).mono ?_; rintro e w2 ⟨rfl, rfl⟩; refine hK _ _ (hE) ?_; clear hK K; (try simp only [Act.put, List.setIfInBounds_toArray, List.set_cons_zero, List.set_cons_succ]))
              (repeat (first | (refine walkR_still (v := ?_) rfl (by decide +kernel) rfl (fun _ _ _ h => h) hE ?_ ?_; rotate_left; (focus (intro w' hw'; obtain ⟨f0, f1, q1, q2⟩ := HW.out w' hw'; obtain ⟨m1, m2⟩ := HMD.out; obtain ⟨z1, z2, z3, z4, z5⟩ := HPF.out; have z6 := HWG.out; go_simp; all_goals (with_reducible rfl))); simp only [Act.put, List.setIfInBounds_toArray, List.set_cons_zero, List.set_cons_succ]) | (refine walkR_skip rfl (by decide +kernel) rfl (fun _ _ _ h => h) hE ?_; simp only [Act.put, List.setIfInBounds_toArray, List.set_cons_zero, List.set_cons_succ])))
              (refine walkR_tail (by rfl) (by kernel_rfl) ?_; simp only [List.drop_succ_cons, List.drop_zero])
              go_wp2
              go_roundw
              case rel =>
                refine ⟨i + 1, by omega, by go_num, fun q hq => ?_, HX.out.trans hE⟩
                rcases Nat.lt_succ_iff_lt_or_eq.1 hq with h3 | rfl
                · exact HJ.out q h3
                · exact HET.out
              case measure => simp [intOf]; omega
            · have hx0' : (x != 0) = true := by simpa using hx0
              by_cases hy0 : y = 0
              · have hy0' : (y == 0) = true := by simpa using hy0
                have HEF : Hid (entryB xs R = false) := by
                  show _ = _
                  rw [entryB_eq, List.all_eq_false]
                  refine ⟨i, List.mem_range.2 (by rw [L.out]; exact hlt), ?_⟩
                  rw [HE.out]
                  rw [hin2]; simp [hx0, hy0]
                clear hx0 hy0 hin hin2 HE
                go_wp2
                clear f0 f1
                (refine walkR_start (fun w' => Ext wr w') 34 (by kernel_rfl) ?_; simp only [numbered, List.take_succ_cons, List.take_zero, Nat.zero_add, Nat.reduceAdd, List.length_cons, List.length_nil])
                (repeat (first | (refine walkR_still (v := ?_) rfl (by decide +kernel) rfl (fun _ _ _ h => h) hE ?_ ?_; rotate_left; (focus (intro w' hw'; obtain ⟨f0, f1, q1, q2⟩ := HW.out w' hw'; obtain ⟨m1, m2⟩ := HMD.out; obtain ⟨z1, z2, z3, z4, z5⟩ := HPF.out; have z6 := HWG.out; go_simp; all_goals (with_reducible rfl))); simp only [Act.put, List.setIfInBounds_toArray, List.set_cons_zero, List.set_cons_succ]) | (refine walkR_skip rfl (by decide +kernel) rfl (fun _ _ _ h => h) hE ?_; simp only [Act.put, List.setIfInBounds_toArray, List.set_cons_zero, List.set_cons_succ])))
                (refine walkR_only (fun w' => Ext wr w') rfl (by decide +kernel) rfl (fun _ h => h) ?_; intro K hK; go_simp; refine (HLI.out _).mono ?_; rintro e w2 ⟨rfl, rfl⟩; refine hK _ _ (hE) ?_; clear hK K; (try simp only [Act.put, List.setIfInBounds_toArray, List.set_cons_zero, List.set_cons_succ]))
                (repeat (first | (refine walkR_still (v := ?_) rfl (by decide +kernel) rfl (fun _ _ _ h => h) hE ?_ ?_; rotate_left; (focus (intro w' hw'; obtain ⟨f0, f1, q1, q2⟩ := HW.out w' hw'; obtain ⟨m1, m2⟩ := HMD.out; obtain ⟨z1, z2, z3, z4, z5⟩ := HPF.out; have z6 := HWG.out; go_simp; all_goals (with_reducible rfl))); simp only [Act.put, List.setIfInBounds_toArray, List.set_cons_zero, List.set_cons_succ]) | (refine walkR_skip rfl (by decide +kernel) rfl (fun _ _ _ h => h) hE ?_; simp only [Act.put, List.setIfInBounds_toArray, List.set_cons_zero, List.set_cons_succ])))
                (refine walkR_tail (by rfl) (by kernel_rfl) ?_; simp only [List.drop_succ_cons, List.drop_zero])
                go_wp2
                exact bodyPost_ret (v := .tuple #[.slice none 0 0, .bool false]) (by simp [results, Tryz.results118, go_sem]) rfl ⟨_, by rw [HT.out, HEF.out, Bool.false_and], HX0.out.trans (HX.out.trans hE)⟩
              · have hy0' : (y == 0) = false := by simpa using hy0
                have HET : Hid (entryF xs R i = true) := by
                  show _ = _
                  rw [HE.out, hin2]
                  simp [hy0]
                clear hx0 hy0 hin hin2 HE
                go_wp2
                clear f0 f1
                (refine walkR_start (fun w' => Ext wr w') 34 (by kernel_rfl) ?_; simp only [numbered, List.take_succ_cons, List.take_zero, Nat.zero_add, Nat.reduceAdd, List.length_cons, List.length_nil])
                (repeat (first | (refine walkR_still (v := ?_) rfl (by decide +kernel) rfl (fun _ _ _ h => h) hE ?_ ?_; rotate_left; (focus (intro w' hw'; obtain ⟨f0, f1, q1, q2⟩ := HW.out w' hw'; obtain ⟨m1, m2⟩ := HMD.out; obtain ⟨z1, z2, z3, z4, z5⟩ := HPF.out; have z6 := HWG.out; go_simp; all_goals (with_reducible rfl))); simp only [Act.put, List.setIfInBounds_toArray, List.set_cons_zero, List.set_cons_succ]) | (refine walkR_skip rfl (by decide +kernel) rfl (fun _ _ _ h => h) hE ?_; simp only [Act.put, List.setIfInBounds_toArray, List.set_cons_zero, List.set_cons_succ])))
                (refine walkR_only (fun w' => Ext wr w') rfl (by decide +kernel) rfl (fun _ h => h) ?_; intro K hK; go_simp; refine (HLI.out _).mono ?_; rintro e w2 ⟨rfl, rfl⟩; refine hK _ _ (hE) ?_; clear hK K; (try simp only [Act.put, List.setIfInBounds_toArray, List.set_cons_zero, List.set_cons_succ]))
                (repeat (first | (refine walkR_still (v := ?_) rfl (by decide +kernel) rfl (fun _ _ _ h => h) hE ?_ ?_; rotate_left; (focus (intro w' hw'; obtain ⟨f0, f1, q1, q2⟩ := HW.out w' hw'; obtain ⟨m1, m2⟩ := HMD.out; obtain ⟨z1, z2, z3, z4, z5⟩ := HPF.out; have z6 := HWG.out; go_simp; all_goals (with_reducible rfl))); simp only [Act.put, List.setIfInBounds_toArray, List.set_cons_zero, List.set_cons_succ]) | (refine walkR_skip rfl (by decide +kernel) rfl (fun _ _ _ h => h) hE ?_; simp only [Act.put, List.setIfInBounds_toArray, List.set_cons_zero, List.set_cons_succ])))
                (refine walkR_tail (by rfl) (by kernel_rfl) ?_; simp only [List.drop_succ_cons, List.drop_zero])
                go_wp2
                go_roundw
                case rel =>
                  refine ⟨i + 1, by omega, by go_num, fun q hq => ?_, HX.out.trans hE⟩
                  rcases Nat.lt_succ_iff_lt_or_eq.1 hq with h3 | rfl
                  · exact HJ.out q h3
                  · exact HET.out
                case measure => simp [intOf]; omega
        · have HIE : Hid (i = R * R) := by show _ = _; omega
          have HET : Hid (partsB (R : Int) xs = (partsGo (bitsOf xs) R 5 0 []).all fun rows => fitAny xs R rows) := by
            show _ = _
            rw [HT.out, entryB_eq, L.out, ← HIE.out, List.all_eq_true.2 fun m hm => HJ.out m (List.mem_range.1 hm), Bool.true_and]
          clear HJ HT
          obtain ⟨f0, f1⟩ := HC.out.below HX.out
          obtain ⟨wb, hwb⟩ : ∃ wb : World, wb = wr := ⟨_, rfl⟩
          rw [← hwb] at HX f0 f1 ⊢
          have HXS := hidP (Ext.alloc wb (.cells #[] 9))
          have HXI := hidP (Ext.alloc (wb.alloc (.cells #[] 9)) (.cells #[] 3))
          have HOS := hidP ((OwnS.made wb wb.heap.size (Nat.le_refl _)).below HXI.out)
          have hm := OwnI.made (wb.alloc (.cells #[] 9)) wb.heap.size 0 (by simp) (by unfold maxLen; omega)
          rw [show Array.replicate 0 (Value.int .i64 0) = #[] from rfl] at hm
          have HOI := hidP hm
          have HXB := hidP (HXS.out.trans HXI.out)
          clear hwb hm HXS HXI
          go_wp2
          clear f0 f1
          go_loopw [5, 6, 7] (fun u v t wr => ∃ (i f : Nat) (done : List Nat) (ad : Option Addr) (cd : Nat) (ao : Option Addr) (no co : Nat) (so : List ByteArray), i ≤ R ∧ t = .int .i64 i ∧ v = .slice ad done.length cd ∧ u = .slice ao no co ∧ no ≤ i ∧ done.length ≤ 4 * i ∧
            Hid ((partsGo (bitsOf xs) R 5 0 []).all (fun rows => fitAny xs R rows) = (partsGo (bitsOf xs) R f i done).all (fun rows => fitAny xs R rows)) ∧ Hid (R - i < f) ∧ Hid (OwnI wr wb.heap.size ad done.length cd (natI done)) ∧ Hid (OwnS wr wb.heap.size ao no co so) ∧ Hid (Ext wb wr)) (fun _ _ t _ => R - (intOf t).toNat)
          case atStart =>
            exact ⟨0, 5, [], _, 0, _, 0, 0, [], Nat.zero_le _, rfl, rfl, rfl, Nat.le_refl _, by simp, rfl, by show _ < _; omega, (by rw [show wb.heap.size + 1 = (wb.alloc (.cells #[] 9)).heap.size by simp]; exact HOI), HOS, HXB⟩
          case round =>
            clear HOI HOS HXB
            obtain ⟨i1, f, done, ad, cd, ao, no, co, so, hi1, rfl, rfl, rfl, hno, hdl, HP, HF, HO, HS, HXr⟩ := hrel
            have HXa := hidP (HX.out.trans HXr.out)
            obtain ⟨f0, f1⟩ := HC.out.below HXa.out
            by_cases hlt1 : i1 < R
            · obtain ⟨f, rfl⟩ : ∃ f', f = f' + 1 := ⟨f - 1, by have := HF.out; omega⟩
              have HFd := hidP (l1Find_any ad done.length cd (natI done) (i1 : Int) wr HO.out.ints (by omega))
              have HMem : Hid ((i1 : Int) ∈ natI done ↔ i1 ∈ done) := by
                show _ ↔ _
                unfold natI
                rw [List.mem_map]
                exact ⟨fun ⟨a, h, e⟩ => by obtain rfl : a = i1 := by omega
                                           exact h, fun h => ⟨i1, h, rfl⟩⟩
              go_wp2_with fail
              refine HFd.out.mono ?_
              rintro e w2 ⟨v, rfl, hv, hv1, hv2, rfl⟩
              by_cases hm : i1 ∈ done
              · have hv0 : 0 ≤ v := hv.2 (HMem.out.2 hm)
                have HP2 : Hid ((partsGo (bitsOf xs) R 5 0 []).all (fun rows => fitAny xs R rows) = (partsGo (bitsOf xs) R f (i1 + 1) done).all (fun rows => fitAny xs R rows)) := by
                  show _ = _
                  rw [HP.out, partsGo_done _ _ _ _ _ hlt1 hm]
                clear hv hm f0 f1
                go_wp2
                go_roundw
                case rel => exact ⟨i1 + 1, f, done, ad, cd, ao, no, co, so, by omega, by go_num, rfl, rfl, by omega, by omega, HP2, by show _ < _; have := HF.out; omega, HO, HS, HXr⟩
                case measure => simp [intOf]; omega
              · have hvn : ¬ (0 ≤ v) := fun h => hm (HMem.out.1 (hv.1 h))
                have HPt := hidP (l5Part_any R hR4 xs a c i1 hlt1 wr (H.out.below HXa.out))
                have HP2 : Hid ((partsGo (bitsOf xs) R 5 0 []).all (fun rows => fitAny xs R rows) = (fitAny xs R (partL (bitsOf xs) R i1) && (partsGo (bitsOf xs) R f (i1 + 1) (done ++ partL (bitsOf xs) R i1)).all (fun rows => fitAny xs R rows))) := by
                  show _ = _
                  rw [HP.out, partsGo_new _ _ _ _ _ hlt1 hm]
                  rfl
                generalize partL (bitsOf xs) R i1 = P at *
                clear hv hm HFd HMem HP
                go_wp2_with fail
                refine HPt.out.mono ?_
                rintro e w2 ⟨a8, n8, c8, rfl, hr2, hx2, hnd, hrr⟩
                have hl8 := hr2.len
                rw [natI_length] at hl8
                subst hl8
                have hP4 := nodup_le R P hnd hrr
                have HR2 := hidP hr2
                have HRR := hidP hrr
                have HX2 := hidP hx2
                have HO2 := hidP (HO.out.below hx2)
                have HS2 := hidP (HS.out.below hx2)
                have HXw := hidP (HXr.out.trans hx2)
                clear hr2 hx2 hnd hrr f0 f1
                go_wp2_with (at_builtin; refine wpList_append_ints rfl (.tmp 84) (.tmp 85) rfl wb.heap.size ad done.length cd (natI done) rfl HO2.out a8 P.length c8 (natI P) rfl HR2.out.ints HR2.out.nil_cap (by omega) HXw.out.size ?_; intro a5 c5 w5 ho5 hg5)
                have HX5 : Hid (Ext wb w5) := grown_ext hg5 HXw.out HXw.out.size HO2.out.addr_base
                have HR5 := hidP (HR2.out.grown hg5 fun g o e => HO.out.ne_new ((HR2.out.at_base g o e).1))
                have HS5 := hidP (HS2.out.grown hg5 fun g o e => HS2.out.ne_ints HO2.out g o e)
                rw [← natI_append] at ho5
                have HO5 := hidP ho5
                have HP4 := hidP hP4
                clear ho5 hg5
                go_wp2_with fail
                refine (l5Names_any w5).mono ?_
                rintro e w6 ⟨bn, rfl, hs6, hx6⟩
                have HN6 := hidP hs6
                have HX6 := hidP (HX5.out.trans hx6)
                have HR6 := hidP (HR5.out.below hx6)
                have HS6 := hidP (HS5.out.below hx6)
                have HO6 := hidP (HO5.out.below hx6)
                clear hs6 hx6 HO5 HS5 HR5 HX5 HO2 HR2 HS2 HXw
                go_wp2
                go_loopw [9, 11] (fun u t wx => ∃ (k : Nat) (ff : ByteArray), k ≤ 12 ∧ t = .int .i64 k ∧ u = .string ff ∧ Hid (NameIf ((List.range k).any (fitK xs R P)) ff) ∧ Hid (Ext w6 wx)) (fun _ t _ => 12 - (intOf t).toNat)
                case atStart => exact ⟨0, ⟨#[]⟩, Nat.zero_le _, rfl, rfl, NameIf.no rfl, Ext.refl _⟩
                case round =>
                  obtain ⟨k, ff, hk, rfl, rfl, HN, HXx⟩ := hrel
                  have HXb := hidP (HX6.out.trans HXx.out)
                  have HXc := hidP (HX.out.trans HXb.out)
                  by_cases hk12 : k < 12
                  · have HAS : Hid ((List.range (k + 1)).any (fitK xs R P) = ((List.range k).any (fitK xs R P) || fitK xs R P k)) := by
                      show _ = _
                      rw [List.range_succ, List.any_append]
                      simp
                    obtain ⟨bq, oq, e, q⟩ := (HN6.out.below HXx.out).get k hk12
                    simp only [Option.some.injEq, Addr.mk.injEq, and_true] at e
                    obtain ⟨rfl, rfl⟩ := e
                    rw [Nat.zero_add] at q
                    obtain ⟨s, hs⟩ : ∃ s, s = nameS.getD k ByteArray.empty := ⟨_, rfl⟩
                    rw [← hs] at q
                    have hz2 := name_size _ hk12 s hs
                    have hz : 1 < s.size := by omega
                    have hzi : (1 : Int) < (s.size : Int) := by omega
                    have hrk := name_rank _ hk12 s hs hz
                    have hu8 : IntKind.u8.wrap ((s[1].toNat : Int) - 48) = (pRank k : Int) := (u8wrap _).trans hrk
                    have hne := name1_ne k hk12
                    rw [← hs] at hne
                    have HNE := hidP hne
                    have HOne := hidP (fun w' => l5One_any k hk12 s hs w')
                    have HPM := hidP (pRank_pos k hk12).2
                    have HFK : Hid (fitK xs R P k = (decide (pRank k = P.length) && fitsB xs R P k)) := rfl
                    have HW := hidP (fun w' (hx : Ext wr w') => (⟨(HC.out.below (HXc.out.trans hx)).c0, (HC.out.below (HXc.out.trans hx)).c1, (hx.cell (p := ⟨bn, k, none⟩) (World.block_lt_of_cell? wr _ q)).trans q⟩ : _ ∧ _ ∧ _))
                    have hE : Ext wr wr.drew := Ext.drew wr
                    clear q hs hz2 hne
                    by_cases hpk : pRank k = P.length
                    · have HFT : Hid (fitK xs R P k = fitsB xs R P k) := by
                        show _ = _
                        rw [HFK.out, decide_eq_true hpk, Bool.true_and]
                      have HFS : Hid (fitsB xs R P k = searchB P P.length (rowChk xs R (pMat k) P.length) P.length []) := by
                        show _ = _
                        unfold fitsB
                        rw [hpk]
                      rw [hpk] at hu8 HOne HPM
                      have HU := hidP hu8
                      have HWR : Hid (IntKind.i64.wrap (P.length : Int) = (P.length : Int)) := wrap_in (by omega) (by omega)
                      have HRf := hidP (fun w' (hx : Ext wr w') (ad : Option Addr) (cd : Nat) (ho : IntsAt w' ad (P.length * P.length) (pMat k)) => l5Fits_any R hR4 P.length HPM.out xs (pMat k) P rfl HRR.out P.length [] a ad none a8 c cd 0 c8 0 w' ((H.out.below HXc.out).below hx) ho ((HR6.out.ints.below HXx.out).below hx) (IntsAt.nil _ _) (fun _ => rfl) (by omega) (fun x hx => by simp at hx))
                      generalize searchB P P.length (rowChk xs R (pMat k) P.length) P.length [] = sb at *
                      have HPK := hidP hpk
                      clear hpk HFK hrk hu8
                      go_wp2
                      (refine walkR_start (fun w' => Ext wr w') 20 (by kernel_rfl) ?_; simp only [numbered, List.take_succ_cons, List.take_zero, Nat.zero_add, Nat.reduceAdd, List.length_cons, List.length_nil])
                      (repeat (first | (refine walkR_still (v := ?_) rfl (by decide +kernel) rfl (fun _ _ _ h => h) hE ?_ ?_; rotate_left; (focus (intro w' hw'; obtain ⟨f0, f1, q⟩ := HW.out w' hw'; have y1 := HU.out; have y2 := HWR.out; go_simp; all_goals (with_reducible rfl))); simp only [Act.put, List.setIfInBounds_toArray, List.set_cons_zero, List.set_cons_succ]) | (refine walkR_skip rfl (by decide +kernel) rfl (fun _ _ _ h => h) hE ?_; simp only [Act.put, List.setIfInBounds_toArray, List.set_cons_zero, List.set_cons_succ])))
                      (refine walkR_only (fun w' => Ext wr w') rfl (by decide +kernel) rfl (fun _ h => h) ?_; intro K hK; go_simp; refine (HOne.out _).mono ?_; rintro e w7 ⟨a7, rfl, ho7, hx7⟩; refine hK _ _ (hE.trans hx7) ?_; clear hK K; (try simp only [Act.put, List.setIfInBounds_toArray, List.set_cons_zero, List.set_cons_succ]))
                      have hE7 := hE.trans hx7
                      have HRg := hidP (HRf.out _ hE7 a7 (P.length * P.length) ho7.ints)
                      clear hx7 ho7
                      (repeat (first | (refine walkR_still (v := ?_) rfl (by decide +kernel) rfl (fun _ _ _ h => h) hE7 ?_ ?_; rotate_left; (focus (intro w' hw'; obtain ⟨f0, f1, q⟩ := HW.out w' hw'; go_simp; all_goals (with_reducible rfl))); simp only [Act.put, List.setIfInBounds_toArray, List.set_cons_zero, List.set_cons_succ]) | (refine walkR_skip rfl (by decide +kernel) rfl (fun _ _ _ h => h) hE7 ?_; simp only [Act.put, List.setIfInBounds_toArray, List.set_cons_zero, List.set_cons_succ])))
                      (refine walkR_only (fun w' => Ext wr w') rfl (by decide +kernel) rfl (fun _ h => h) ?_; intro K hK; go_simp; refine (HRg.out).mono ?_; rintro e w8 ⟨rfl, hx8⟩; refine hK _ _ (hE7.trans hx8) ?_; clear hK K; (try simp only [Act.put, List.setIfInBounds_toArray, List.set_cons_zero, List.set_cons_succ]))
                      have hE8 := hE7.trans hx8
                      clear hx8 hE7
                      (repeat (first | (refine walkR_still (v := ?_) rfl (by decide +kernel) rfl (fun _ _ _ h => h) hE8 ?_ ?_; rotate_left; (focus (intro w' hw'; obtain ⟨f0, f1, q⟩ := HW.out w' hw'; go_simp; all_goals (with_reducible rfl))); simp only [Act.put, List.setIfInBounds_toArray, List.set_cons_zero, List.set_cons_succ]) | (refine walkR_skip rfl (by decide +kernel) rfl (fun _ _ _ h => h) hE8 ?_; simp only [Act.put, List.setIfInBounds_toArray, List.set_cons_zero, List.set_cons_succ])))
                      (refine walkR_tail (by rfl) (by kernel_rfl) ?_; simp only [List.drop_succ_cons, List.drop_zero])
                      obtain ⟨f0, f1, q⟩ := HW.out _ hE8
                      cases sb
                      · have HN2 : Hid (NameIf ((List.range (k + 1)).any (fitK xs R P)) ff) := HN.out.cast (by rw [HAS.out, HFT.out, HFS.out, Bool.or_false])
                        go_wp2
                        go_roundw
                        case rel => exact ⟨k + 1, ff, by omega, by go_num, rfl, HN2, HXx.out.trans hE8⟩
                        case measure => simp [intOf]; omega
                      · have HN2 : Hid (NameIf ((List.range (k + 1)).any (fitK xs R P)) s) := NameIf.yes (by rw [HAS.out, HFT.out, HFS.out, Bool.or_true]) HNE.out
                        go_wp2
                        go_roundw
                        case rel => exact ⟨k + 1, s, by omega, by go_num, rfl, HN2, HXx.out.trans hE8⟩
                        case measure => simp [intOf]; omega
                    · have HFT : Hid (fitK xs R P k = false) := by
                        show _ = _
                        rw [HFK.out, decide_eq_false hpk, Bool.false_and]
                      have hpk' : ((pRank k : Int) == (P.length : Int)) = false := by simp; omega
                      have hp4 := HPM.out
                      generalize pRank k = pk at *
                      have HU := hidP hu8
                      have HWR : Hid (IntKind.i64.wrap (pk : Int) = (pk : Int)) := wrap_in (by omega) (by omega)
                      have HN2 : Hid (NameIf ((List.range (k + 1)).any (fitK xs R P)) ff) := HN.out.cast (by rw [HAS.out, HFT.out, Bool.or_false])
                      clear hpk HFK hrk hu8
                      go_wp2
                      (refine walkR_start (fun w' => Ext wr w') 20 (by kernel_rfl) ?_; simp only [numbered, List.take_succ_cons, List.take_zero, Nat.zero_add, Nat.reduceAdd, List.length_cons, List.length_nil])
                      (repeat (first | (refine walkR_still (v := ?_) rfl (by decide +kernel) rfl (fun _ _ _ h => h) hE ?_ ?_; rotate_left; (focus (intro w' hw'; obtain ⟨f0, f1, q⟩ := HW.out w' hw'; have y1 := HU.out; have y2 := HWR.out; go_simp; all_goals (with_reducible rfl))); simp only [Act.put, List.setIfInBounds_toArray, List.set_cons_zero, List.set_cons_succ]) | (refine walkR_skip rfl (by decide +kernel) rfl (fun _ _ _ h => h) hE ?_; simp only [Act.put, List.setIfInBounds_toArray, List.set_cons_zero, List.set_cons_succ])))
                      (refine walkR_tail (by rfl) (by kernel_rfl) ?_; simp only [List.drop_succ_cons, List.drop_zero])
                      go_wp2
                      go_roundw
                      case rel => exact ⟨k + 1, ff, by omega, by go_num, rfl, HN2, HXx.out.trans hE⟩
                      case measure => simp [intOf]; omega
                  · obtain rfl : k = 12 := by omega
                    rw [← fitAny_eq] at HN
                    cases hfa : fitAny xs R P
                    · rw [hfa] at HN HP2
                      obtain rfl := HN.out.2 rfl
                      have HB : Hid (partsB (R : Int) xs = false) := by
                        show _ = _
                        rw [HET.out, HP2.out, Bool.false_and]
                      go_wp2
                      exact bodyPost_ret (v := .tuple #[.slice none 0 0, .bool false]) (by simp [results, Tryz.results118, go_sem]) rfl ⟨_, by rw [HB.out], HX0.out.trans HXc.out⟩
                    · rw [hfa, Bool.true_and] at HP2
                      rw [hfa] at HN
                      have hne := HN.out.1 rfl
                      have HSx := hidP (HS6.out.below HXx.out)
                      have HOx := hidP (HO6.out.below HXx.out)
                      obtain ⟨wy, hwy⟩ : ∃ wy : World, wy = wr := ⟨_, rfl⟩
                      rw [← hwy] at HSx HOx HXb HXc ⊢
                      clear hwy HN
                      go_wp2
                      go_loopw [12] (fun t wx => ∃ k : Nat, k ≤ no ∧ t = .int .i64 k ∧ Hid (Ext wy wx)) (fun t _ => (intOf t).toNat)
                      case atStart => exact ⟨no, Nat.le_refl _, rfl, Ext.refl _⟩
                      case round =>
                        obtain ⟨k, hk, rfl, HXz⟩ := hrel
                        obtain ⟨gS, e1, _, _, hnc, hcm, _⟩ := HSx.out.form
                        subst e1
                        by_cases hk0 : 0 < k
                        · obtain ⟨bq, oq, e, q⟩ := (HSx.out.below HXz.out).strsR.get (k - 1) (by omega)
                          simp only [Option.some.injEq, Addr.mk.injEq, and_true] at e
                          obtain ⟨rfl, rfl⟩ := e
                          rw [Nat.zero_add] at q
                          have hk1 : ((k : Int) - 1) = ((k - 1 : Nat) : Int) := by omega
                          have HK1 : Hid (k - 1 ≤ no) := by show _ ≤ _; omega
                          generalize so.getD (k - 1) ByteArray.empty = sq at *
                          go_wp2
                          · refine ⟨⟨k - 1, HK1.out, rfl, HXz⟩, ?_⟩
                            simp [intOf]
                            omega
                          · clear q hk1
                            obtain ⟨wq, hwq⟩ : ∃ wq : World, wq = wr := ⟨_, rfl⟩
                            rw [← hwq] at HXz ⊢
                            clear hwq
                            have HSq := hidP (HSx.out.below HXz.out)
                            have HSl := hidP (HSq.out.strsR.part 0 k (by omega))
                            have hex : ∃ ad, (if co = k then some (⟨gS, 0, none⟩ : Addr) else some ⟨gS, k, none⟩) = some ad ∧ StrsR wq (some ad) (no - k) ((so.drop k).take (no - k)) := by
                              have h3 := HSq.out.strsR.part k (no - k) (by omega)
                              by_cases hck : co = k
                              · rw [if_pos hck]
                                refine ⟨_, rfl, h3.len, fun i hi => by omega⟩
                              · rw [if_neg hck]
                                rw [Nat.zero_add] at h3
                                exact ⟨_, rfl, h3⟩
                            obtain ⟨adS, hadS, hSh⟩ := hex
                            have HSh := hidP hSh
                            have HAD := hidP hadS
                            clear hSh hadS
                            have hE : Ext wq wq.drew := Ext.drew wq
                            have hkc : k ≤ co := by omega
                            have hkn : (no : Int) - k = ((no - k : Nat) : Int) := by omega
                            have hkd : (co : Int) - k = ((co - k : Nat) : Int) := by omega
                            (refine walkR_start (fun w' => Ext wq w') 11 (by kernel_rfl) ?_; simp only [numbered, List.take_succ_cons, List.take_zero, Nat.zero_add, Nat.reduceAdd, List.length_cons, List.length_nil])
                            (refine walkR_later ?_; simp only [List.cons_append, List.nil_append])
                            (repeat (first | (refine walkR_still (v := ?_) rfl (by decide +kernel) rfl (fun _ _ _ h => h) hE ?_ ?_; rotate_left; (focus (intro w' hw'; skip; go_simp; all_goals (with_reducible rfl))); simp only [Act.put, List.setIfInBounds_toArray, List.set_cons_zero, List.set_cons_succ]) | (refine walkR_skip rfl (by decide +kernel) rfl (fun _ _ _ h => h) hE ?_; simp only [Act.put, List.setIfInBounds_toArray, List.set_cons_zero, List.set_cons_succ])))
                            (refine walkR_later ?_; simp only [List.cons_append, List.nil_append])
                            (repeat (first | (refine walkR_still (v := ?_) rfl (by decide +kernel) rfl (fun _ _ _ h => h) hE ?_ ?_; rotate_left; (focus (intro w' hw'; skip; go_simp; all_goals (with_reducible rfl))); simp only [Act.put, List.setIfInBounds_toArray, List.set_cons_zero, List.set_cons_succ]) | (refine walkR_skip rfl (by decide +kernel) rfl (fun _ _ _ h => h) hE ?_; simp only [Act.put, List.setIfInBounds_toArray, List.set_cons_zero, List.set_cons_succ])))
                            (refine walkR_later ?_; simp only [List.cons_append, List.nil_append])
                            (refine walkR_later ?_; simp only [List.cons_append, List.nil_append])
                            (repeat (first | (refine walkR_still (v := ?_) rfl (by decide +kernel) rfl (fun _ _ _ h => h) hE ?_ ?_; rotate_left; (focus (intro w' hw'; skip; go_simp; all_goals (with_reducible rfl))); simp only [Act.put, List.setIfInBounds_toArray, List.set_cons_zero, List.set_cons_succ]) | (refine walkR_skip rfl (by decide +kernel) rfl (fun _ _ _ h => h) hE ?_; simp only [Act.put, List.setIfInBounds_toArray, List.set_cons_zero, List.set_cons_succ])))
                            refine walkR_three (fun v w' => ∃ g, v = .slice (some ⟨g, 0, none⟩) 0 0 ∧ OwnS w' wq.heap.size (some ⟨g, 0, none⟩) 0 0 []) (fun v u w' => ∃ a4 c4, u = .slice a4 k c4 ∧ OwnS w' wq.heap.size a4 k c4 (so.take k)) (fun z w' => ∃ g, z = .slice (some ⟨g, 0, none⟩) 1 1 ∧ w'.cell? ⟨g, 0, none⟩ = some (.string ff)) (fun v z w' => ∃ g g', v = .slice (some ⟨g, 0, none⟩) 0 0 ∧ OwnS w' wq.heap.size (some ⟨g, 0, none⟩) 0 0 [] ∧ z = .slice (some ⟨g', 0, none⟩) 1 1 ∧ w'.cell? ⟨g', 0, none⟩ = some (.string ff) ∧ g' < w'.heap.size ∧ g' ≠ g) (fun v u z w' => ∃ a4 c4 g', u = .slice a4 k c4 ∧ OwnS w' wq.heap.size a4 k c4 (so.take k) ∧ z = .slice (some ⟨g', 0, none⟩) 1 1 ∧ w'.cell? ⟨g', 0, none⟩ = some (.string ff)) rfl rfl rfl (by decide +kernel) rfl rfl rfl (by decide) (by decide) (fun _ => rfl) (fun _ => rfl) (fun _ => rfl) ?_ ?_ ?_ ?_ ?_ ?_ ?_ ?_
                            · intro K hK
                              go_simp
                              exact hK _ _ (hE.trans (Ext.alloc _ _)) ⟨_, rfl, OwnS.made _ _ hE.size⟩
                            · rintro v w' hx ⟨g, rfl, ho⟩ K hK
                              refine wp_append_strs (.tmp 135) (.tmp 138) rfl wq.heap.size (some ⟨g, 0, none⟩) 0 0 [] rfl ho ⟨gS, 0, none⟩ k co (so.take k) rfl (HSl.out.below hx) (by omega) hx.size ?_
                              intro a4 c4 w4 ho4 hg4
                              rw [Nat.zero_add] at ho4 ⊢
                              exact hK _ _ (ho.ext hg4 hx (Nat.le_refl _)) ⟨a4, c4, rfl, ho4⟩
                            · rintro v u w' hx ⟨a4, c4, rfl, ho4⟩ K hK
                              go_simp
                              exact hK _ _ (hx.trans (Ext.alloc _ _)) ⟨a4, c4, _, rfl, ho4.below (Ext.alloc _ _), rfl, (cell_top _ _ _ _ _ rfl).trans rfl⟩
                            · rintro v w' hx ⟨g, rfl, ho⟩ K hK
                              obtain ⟨_, e3, _, hlt3, _⟩ := ho.form
                              simp only [Option.some.injEq, Addr.mk.injEq, and_true] at e3
                              subst e3
                              go_simp
                              exact hK _ _ (hx.trans (Ext.alloc _ _)) ⟨g, _, rfl, ho.below (Ext.alloc _ _), rfl, (cell_top _ _ _ _ _ rfl).trans rfl, by simp, by omega⟩
                            · rintro v z w' hx ⟨g, g', rfl, ho, rfl, hc, hlt', hne'⟩ K hK
                              refine wp_append_strs (.tmp 135) (.tmp 138) rfl wq.heap.size (some ⟨g, 0, none⟩) 0 0 [] rfl ho ⟨gS, 0, none⟩ k co (so.take k) rfl (HSl.out.below hx) (by omega) hx.size ?_
                              intro a4 c4 w4 ho4 hg4
                              rw [Nat.zero_add] at ho4 ⊢
                              exact hK _ _ (ho.ext hg4 hx (Nat.le_refl _)) ⟨a4, c4, g', rfl, ho4, rfl, by rw [World.cell?_of_block (w := w') (hg4.block g' hlt' (by simp [Value.ownBlock]; exact hne'))]; exact hc⟩
                            · intro K hK
                              go_simp
                              exact hK _ _ (hE.trans (Ext.alloc _ _)) ⟨_, rfl, (cell_top _ _ _ _ _ rfl).trans rfl⟩
                            · rintro z w' hx ⟨g', rfl, hc⟩ K hK
                              have hlt' := World.block_lt_of_cell? w' _ hc
                              go_simp
                              exact hK _ _ (hx.trans (Ext.alloc _ _)) ⟨_, g', rfl, OwnS.made _ _ hx.size, rfl, ((Ext.alloc w' _).cell (p := ⟨g', 0, none⟩) hlt').trans hc, by have : g' < w'.heap.size := hlt'; simp; omega, by have : g' < w'.heap.size := hlt'; omega⟩
                            · rintro v u z w3 hx3 ⟨a4, c4, g', rfl, ho4, rfl, hc⟩
                              (try simp only [Act.put, List.setIfInBounds_toArray, List.set_cons_zero, List.set_cons_succ])
                              refine walkR_only (fun w' => Ext wq w') rfl (by decide +kernel) rfl (fun _ h => h) ?_
                              intro K hK
                              refine wp_append_strs (.tmp 139) (.tmp 141) rfl wq.heap.size a4 k c4 (so.take k) rfl ho4 ⟨g', 0, none⟩ 1 1 [ff] rfl (StrsR.one hc) (by omega) hx3.size ?_
                              intro a9 c9 w4 ho9 hg9
                              have hx4 : Ext wq w4 := ho4.ext hg9 hx3 (Nat.le_refl _)
                              refine hK _ _ hx4 ?_
                              clear hK K
                              (try simp only [Act.put, List.setIfInBounds_toArray, List.set_cons_zero, List.set_cons_succ])
                              have HO9 := hidP ho9
                              have HX4 := hidP hx4
                              have HS9 := hidP (HSh.out.below hx4)
                              clear ho9 hg9 hc ho4 hx4 hx3
                              (refine walkR_tail (by rfl) (by kernel_rfl) ?_; simp only [List.drop_succ_cons, List.drop_zero])
                              go_wp2_with (at_builtin; refine wpList_append_strs rfl (.tmp 142) (.tmp 145) rfl wq.heap.size a9 (k + 1) c9 (so.take k ++ [ff]) rfl HO9.out adS (no - k) (co - k) ((so.drop k).take (no - k)) (congrArg (fun x => Value.slice x (no - k) (co - k)) HAD.out) HS9.out (by omega) HX4.out.size ?_; intro a6 c6 w6' ho6 hg6)
                              have HO6b := hidP (ho6.base (B' := wb.heap.size) (HXb.out.trans HXz.out).size)
                              have HX6b : Hid (Ext wb w6') := (HXb.out.trans HXz.out).trans (HO9.out.ext hg6 HX4.out (Nat.le_refl _))
                              have HDy : Hid (OwnI w6' wb.heap.size a5 (done ++ P).length c5 (natI (done ++ P))) := by
                                have h1 := (HOx.out.below HXz.out).below (HO9.out.ext hg6 HX4.out (Nat.le_refl _))
                                rw [List.length_append]
                                exact h1
                              clear ho6 hg6
                              refine ⟨⟨i1 + 1, f, done ++ P, a5, c5, a6, k + 1 + (no - k), c6, _, by omega, by go_num, by rw [List.length_append], rfl, by omega, by rw [List.length_append]; have := HP4.out; omega, HP2, by show _ < _; have := HF.out; omega, HDy, HO6b, HX6b⟩, ?_⟩
                              simp [intOf]
                              omega
                        · have hkz : ¬ (0 < (k : Int)) := by omega
                          go_wp2
                          obtain ⟨wq, hwq⟩ : ∃ wq : World, wq = wr := ⟨_, rfl⟩
                          rw [← hwq] at HXz ⊢
                          clear hwq
                          have HSq := hidP (HSx.out.below HXz.out)
                          have HSl := hidP (HSq.out.strsR.part 0 k (by omega))
                          have hex : ∃ ad, (if co = k then some (⟨gS, 0, none⟩ : Addr) else some ⟨gS, k, none⟩) = some ad ∧ StrsR wq (some ad) (no - k) ((so.drop k).take (no - k)) := by
                            have h3 := HSq.out.strsR.part k (no - k) (by omega)
                            by_cases hck : co = k
                            · rw [if_pos hck]
                              refine ⟨_, rfl, h3.len, fun i hi => by omega⟩
                            · rw [if_neg hck]
                              rw [Nat.zero_add] at h3
                              exact ⟨_, rfl, h3⟩
                          obtain ⟨adS, hadS, hSh⟩ := hex
                          have HSh := hidP hSh
                          have HAD := hidP hadS
                          clear hSh hadS
                          have hE : Ext wq wq.drew := Ext.drew wq
                          have hkc : k ≤ co := by omega
                          have hkn : (no : Int) - k = ((no - k : Nat) : Int) := by omega
                          have hkd : (co : Int) - k = ((co - k : Nat) : Int) := by omega
                          (refine walkR_start (fun w' => Ext wq w') 11 (by kernel_rfl) ?_; simp only [numbered, List.take_succ_cons, List.take_zero, Nat.zero_add, Nat.reduceAdd, List.length_cons, List.length_nil])
                          (refine walkR_later ?_; simp only [List.cons_append, List.nil_append])
                          (repeat (first | (refine walkR_still (v := ?_) rfl (by decide +kernel) rfl (fun _ _ _ h => h) hE ?_ ?_; rotate_left; (focus (intro w' hw'; skip; go_simp; all_goals (with_reducible rfl))); simp only [Act.put, List.setIfInBounds_toArray, List.set_cons_zero, List.set_cons_succ]) | (refine walkR_skip rfl (by decide +kernel) rfl (fun _ _ _ h => h) hE ?_; simp only [Act.put, List.setIfInBounds_toArray, List.set_cons_zero, List.set_cons_succ])))
                          (refine walkR_later ?_; simp only [List.cons_append, List.nil_append])
                          (repeat (first | (refine walkR_still (v := ?_) rfl (by decide +kernel) rfl (fun _ _ _ h => h) hE ?_ ?_; rotate_left; (focus (intro w' hw'; skip; go_simp; all_goals (with_reducible rfl))); simp only [Act.put, List.setIfInBounds_toArray, List.set_cons_zero, List.set_cons_succ]) | (refine walkR_skip rfl (by decide +kernel) rfl (fun _ _ _ h => h) hE ?_; simp only [Act.put, List.setIfInBounds_toArray, List.set_cons_zero, List.set_cons_succ])))
                          (refine walkR_later ?_; simp only [List.cons_append, List.nil_append])
                          (refine walkR_later ?_; simp only [List.cons_append, List.nil_append])
                          (repeat (first | (refine walkR_still (v := ?_) rfl (by decide +kernel) rfl (fun _ _ _ h => h) hE ?_ ?_; rotate_left; (focus (intro w' hw'; skip; go_simp; all_goals (with_reducible rfl))); simp only [Act.put, List.setIfInBounds_toArray, List.set_cons_zero, List.set_cons_succ]) | (refine walkR_skip rfl (by decide +kernel) rfl (fun _ _ _ h => h) hE ?_; simp only [Act.put, List.setIfInBounds_toArray, List.set_cons_zero, List.set_cons_succ])))
                          refine walkR_three (fun v w' => ∃ g, v = .slice (some ⟨g, 0, none⟩) 0 0 ∧ OwnS w' wq.heap.size (some ⟨g, 0, none⟩) 0 0 []) (fun v u w' => ∃ a4 c4, u = .slice a4 k c4 ∧ OwnS w' wq.heap.size a4 k c4 (so.take k)) (fun z w' => ∃ g, z = .slice (some ⟨g, 0, none⟩) 1 1 ∧ w'.cell? ⟨g, 0, none⟩ = some (.string ff)) (fun v z w' => ∃ g g', v = .slice (some ⟨g, 0, none⟩) 0 0 ∧ OwnS w' wq.heap.size (some ⟨g, 0, none⟩) 0 0 [] ∧ z = .slice (some ⟨g', 0, none⟩) 1 1 ∧ w'.cell? ⟨g', 0, none⟩ = some (.string ff) ∧ g' < w'.heap.size ∧ g' ≠ g) (fun v u z w' => ∃ a4 c4 g', u = .slice a4 k c4 ∧ OwnS w' wq.heap.size a4 k c4 (so.take k) ∧ z = .slice (some ⟨g', 0, none⟩) 1 1 ∧ w'.cell? ⟨g', 0, none⟩ = some (.string ff)) rfl rfl rfl (by decide +kernel) rfl rfl rfl (by decide) (by decide) (fun _ => rfl) (fun _ => rfl) (fun _ => rfl) ?_ ?_ ?_ ?_ ?_ ?_ ?_ ?_
                          · intro K hK
                            go_simp
                            exact hK _ _ (hE.trans (Ext.alloc _ _)) ⟨_, rfl, OwnS.made _ _ hE.size⟩
                          · rintro v w' hx ⟨g, rfl, ho⟩ K hK
                            refine wp_append_strs (.tmp 135) (.tmp 138) rfl wq.heap.size (some ⟨g, 0, none⟩) 0 0 [] rfl ho ⟨gS, 0, none⟩ k co (so.take k) rfl (HSl.out.below hx) (by omega) hx.size ?_
                            intro a4 c4 w4 ho4 hg4
                            rw [Nat.zero_add] at ho4 ⊢
                            exact hK _ _ (ho.ext hg4 hx (Nat.le_refl _)) ⟨a4, c4, rfl, ho4⟩
                          · rintro v u w' hx ⟨a4, c4, rfl, ho4⟩ K hK
                            go_simp
                            exact hK _ _ (hx.trans (Ext.alloc _ _)) ⟨a4, c4, _, rfl, ho4.below (Ext.alloc _ _), rfl, (cell_top _ _ _ _ _ rfl).trans rfl⟩
                          · rintro v w' hx ⟨g, rfl, ho⟩ K hK
                            obtain ⟨_, e3, _, hlt3, _⟩ := ho.form
                            simp only [Option.some.injEq, Addr.mk.injEq, and_true] at e3
                            subst e3
                            go_simp
                            exact hK _ _ (hx.trans (Ext.alloc _ _)) ⟨g, _, rfl, ho.below (Ext.alloc _ _), rfl, (cell_top _ _ _ _ _ rfl).trans rfl, by simp, by omega⟩
                          · rintro v z w' hx ⟨g, g', rfl, ho, rfl, hc, hlt', hne'⟩ K hK
                            refine wp_append_strs (.tmp 135) (.tmp 138) rfl wq.heap.size (some ⟨g, 0, none⟩) 0 0 [] rfl ho ⟨gS, 0, none⟩ k co (so.take k) rfl (HSl.out.below hx) (by omega) hx.size ?_
                            intro a4 c4 w4 ho4 hg4
                            rw [Nat.zero_add] at ho4 ⊢
                            exact hK _ _ (ho.ext hg4 hx (Nat.le_refl _)) ⟨a4, c4, g', rfl, ho4, rfl, by rw [World.cell?_of_block (w := w') (hg4.block g' hlt' (by simp [Value.ownBlock]; exact hne'))]; exact hc⟩
                          · intro K hK
                            go_simp
                            exact hK _ _ (hE.trans (Ext.alloc _ _)) ⟨_, rfl, (cell_top _ _ _ _ _ rfl).trans rfl⟩
                          · rintro z w' hx ⟨g', rfl, hc⟩ K hK
                            have hlt' := World.block_lt_of_cell? w' _ hc
                            go_simp
                            exact hK _ _ (hx.trans (Ext.alloc _ _)) ⟨_, g', rfl, OwnS.made _ _ hx.size, rfl, ((Ext.alloc w' _).cell (p := ⟨g', 0, none⟩) hlt').trans hc, by have : g' < w'.heap.size := hlt'; simp; omega, by have : g' < w'.heap.size := hlt'; omega⟩
                          · rintro v u z w3 hx3 ⟨a4, c4, g', rfl, ho4, rfl, hc⟩
                            (try simp only [Act.put, List.setIfInBounds_toArray, List.set_cons_zero, List.set_cons_succ])
                            refine walkR_only (fun w' => Ext wq w') rfl (by decide +kernel) rfl (fun _ h => h) ?_
                            intro K hK
                            refine wp_append_strs (.tmp 139) (.tmp 141) rfl wq.heap.size a4 k c4 (so.take k) rfl ho4 ⟨g', 0, none⟩ 1 1 [ff] rfl (StrsR.one hc) (by omega) hx3.size ?_
                            intro a9 c9 w4 ho9 hg9
                            have hx4 : Ext wq w4 := ho4.ext hg9 hx3 (Nat.le_refl _)
                            refine hK _ _ hx4 ?_
                            clear hK K
                            (try simp only [Act.put, List.setIfInBounds_toArray, List.set_cons_zero, List.set_cons_succ])
                            have HO9 := hidP ho9
                            have HX4 := hidP hx4
                            have HS9 := hidP (HSh.out.below hx4)
                            clear ho9 hg9 hc ho4 hx4 hx3
                            (refine walkR_tail (by rfl) (by kernel_rfl) ?_; simp only [List.drop_succ_cons, List.drop_zero])
                            go_wp2_with (at_builtin; refine wpList_append_strs rfl (.tmp 142) (.tmp 145) rfl wq.heap.size a9 (k + 1) c9 (so.take k ++ [ff]) rfl HO9.out adS (no - k) (co - k) ((so.drop k).take (no - k)) (congrArg (fun x => Value.slice x (no - k) (co - k)) HAD.out) HS9.out (by omega) HX4.out.size ?_; intro a6 c6 w6' ho6 hg6)
                            have HO6b := hidP (ho6.base (B' := wb.heap.size) (HXb.out.trans HXz.out).size)
                            have HX6b : Hid (Ext wb w6') := (HXb.out.trans HXz.out).trans (HO9.out.ext hg6 HX4.out (Nat.le_refl _))
                            have HDy : Hid (OwnI w6' wb.heap.size a5 (done ++ P).length c5 (natI (done ++ P))) := by
                              have h1 := (HOx.out.below HXz.out).below (HO9.out.ext hg6 HX4.out (Nat.le_refl _))
                              rw [List.length_append]
                              exact h1
                            clear ho6 hg6
                            refine ⟨⟨i1 + 1, f, done ++ P, a5, c5, a6, k + 1 + (no - k), c6, _, by omega, by go_num, by rw [List.length_append], rfl, by omega, by rw [List.length_append]; have := HP4.out; omega, HP2, by show _ < _; have := HF.out; omega, HDy, HO6b, HX6b⟩, ?_⟩
                            simp [intOf]
                            omega
            · obtain rfl : i1 = R := by omega
              have HB : Hid (partsB (i1 : Int) xs = true) := by
                show _ = _
                rw [HET.out, HP.out, partsGo_end _ _ _ _ _ (Nat.lt_irrefl _)]
                rfl
              go_wp2
              exact bodyPost_ret (v := .tuple #[.slice ao no co, .bool true]) (by simp [results, Tryz.results118, go_sem]) rfl ⟨_, by rw [HB.out], HX0.out.trans HXa.out⟩
    · have HT : Hid (partsB r xs = false) := by
        show _ = _
        unfold partsB
        rw [decide_eq_false (p := (xs.length : Int) = r * r) (by rw [L.out]; exact hl)]
        simp
      have hlb : ((n : Int) != r * r) = true := by simpa using hl
      have HX0 := hidP hx0
      clear h hi hx0 hl hdi
      go_enter Tryz.func118, Tryz.ntmps118
      go_wp2_with fail
      refine (HI.out _).mono ?_
      rintro e w' ⟨rfl, rfl⟩
      go_wp2
      exact bodyPost_ret (v := .tuple #[.slice none 0 0, .bool false]) (by simp [results, Tryz.results118, go_sem]) rfl ⟨_, by rw [HT.out], HX0.out⟩
theorem sIsCartan_any (r : Int) (a : Option Addr) (n c : Nat) (xs : List Int) (w : World) (h : IntsAt w a n xs) (hn : n ≤ 9223372036854775807) :
    Calls Tryz.prog 80 #[carV r a n c] w fun e w' => e = .returned (.bool (typeB r xs)) ∧ Ext w w' := by
  have hx0 := Ext.alloc w (.cells #[.int .i64 r, .slice a n c] 31)
  have H := hidP (l5Parts_any r a n c xs _ (h.below hx0) hn)
  obtain ⟨f0, f1⟩ := CarAt.new w _ rfl r a n c 31
  have HX0 := hidP hx0
  rw [typeB_eq]
  clear h hx0
  go_enter Tryz.func80, Tryz.ntmps80
  go_wp2_with fail
  refine H.out.mono ?_
  rintro e w1 ⟨s, rfl, hx1⟩
  have HX1 := hidP (HX0.out.trans hx1)
  clear hx1 H
  go_wp2
  go_ret
  exact ⟨rfl, HX1.out⟩
end Go.Proofs.YtfikkfbnlegflaaGreatDoor

namespace Go.Proofs.YtfikkfbnlegflaaGreatDoor
open Go.RowKit

end Go.Proofs.YtfikkfbnlegflaaGreatDoor

namespace Go.Proofs.YtfikkfbnlegflaaGreatDoor
open Go.RowKit

theorem minOf_hts (i : Nat) (p : List Stp) (n : Nat) : Lib.minOf (hts i p n) = minHt i p n := by
  have h : ∀ k, k ≤ n → Lib.minOf ((hts i p n).take (k + 1)) = minHt i p k := by
    intro k
    induction k with
    | zero =>
      intro _
      rw [Lib.minOf_one, hts_get _ _ _ _ (Nat.zero_le _)]
      rfl
    | succ k ih =>
      intro hk
      rw [Lib.minOf_step _ _ (by omega) (by rw [hts_length]; omega), ih (by omega), hts_get _ _ _ _ hk]
      show min (minHt i p k) (htAt i p (k + 1)) = if htAt i p (k + 1) < minHt i p k then htAt i p (k + 1) else minHt i p k
      rw [Int.min_def]
      split <;> split <;> omega
  have := h n (Nat.le_refl _)
  rwa [List.take_of_length_le (by rw [hts_length]; exact Nat.le_refl _)] at this
/-- where a path is lowered: the two places and the time within the second one -/
theorem low_turn {r : Nat} {p : List Stp} (hp : PathP r p) {i : Nat} (ts : List Int) (h : lowT i p ≤ htAt i p p.length) (hm : (lowT i p - htAt i p (lowB i p)).tmod (slopeAt i p (lowB i p)) = 0) :
    Turn p (lowA i p) 0 (lowB i p) ((lowT i p - htAt i p (lowB i p)).tdiv (slopeAt i p (lowB i p))) ∧
    turnR r ts i p (lowA i p) 0 (lowB i p) ((lowT i p - htAt i p (lowB i p)).tdiv (slopeAt i p (lowB i p))) = lowR r ts i p := by
  have hL := low_places h
  have hl := lens_of_path hp
  have hlen := hl _ hL.bn
  have hH : htAt i p (lowB i p + 1) = htAt i p (lowB i p) + lenAt p (lowB i p) * slopeAt i p (lowB i p) := rfl
  have h1 := hL.hb
  have h2 := hL.hb1
  obtain ⟨c1, c2, c3, c4⟩ := cross_pos (d := lowT i p - htAt i p (lowB i p)) (s := slopeAt i p (lowB i p)) (l := lenAt p (lowB i p)) (by omega) (by omega) hlen hm
  have hT : Turn p (lowA i p) 0 (lowB i p) ((lowT i p - htAt i p (lowB i p)).tdiv (slopeAt i p (lowB i p))) :=
    ⟨hL.ab, Nat.lt_of_le_of_lt hL.ab hL.bn, Nat.le_of_lt hL.bn, Int.le_refl _, hl _ (Nat.lt_of_le_of_lt hL.ab hL.bn), c2, fun _ => c3, fun e => absurd e (Nat.ne_of_lt hL.bn), fun _ => c2⟩
  refine ⟨hT, ?_⟩
  unfold turnR lowR
  rw [chk_opt, turn_check _ hl hT, Int.add_zero]
  unfold lowS
  rw [if_neg (by omega), if_pos hm]
set_option maxRecDepth 100000 in
set_option maxHeartbeats 8000000 in
theorem lowered_any (R : Nat) (ta : Option Addr) (tn tc : Nat) (ts : List Int) (i : Nat) (a : Option Addr) (n c : Nat) (xs : List Stp) (w : World) (hc : IntsAt w ta tn ts) (hT : typeB R ts = true) (hi : i < R) (h : StepsAt w a n xs) (hp : PathP R xs)
    (HIs : ∀ w', Ext w w' → Calls Tryz.prog 77 #[carV R ta tn tc] w' fun e w'' => e = .returned (.bool (typeB R ts)) ∧ Ext w' w'') :
    PathRes 58 #[carV R ta tn tc, .int .i64 i, .slice a n c] w (lowR R ts i xs) := by
  unfold PathRes
  obtain ⟨⟨J1, J2⟩, hJ⟩ : ∃ J, J = lowR R ts i xs := ⟨_, rfl⟩
  rw [← hJ]
  have HJ := hidP hJ
  clear hJ
  dsimp only
  have hx1 := Ext.alloc w (.cells #[.int .i64 R, .slice ta tn tc] 31)
  have HC := hidP (fun w' (hx : Ext (w.alloc (.cells #[.int .i64 R, .slice ta tn tc] 31)) w') => (CarAt.new w _ rfl (R : Int) ta tn tc 31).below hx)
  have HX1 := hidP hx1
  have hln := h.len
  have hn60 : n ≤ 60 := by have := hp.len; omega
  have hmin := min_small hp hi
  rw [hln] at hmin
  have hmi := minHt_le i xs n
  have HB := hidP (fun k (hk : k ≤ n) => ht_small hp hi k (by omega))
  have HTn := hidP (fun w' (hx : Ext w w') (A Bq : Nat) (fr tq : Int) (hTu : Turn xs A fr Bq tq) => turned_any R ta tn tc ts i a n c xs A Bq fr tq w' (hc.below hx) hT hi (h.below hx) hp hTu (fun w'' hx' => HIs w'' (hx.trans hx')))
  have HHt := hidP (heights_any i R a n c xs _ (h.below hx1).terms hp hi)
  have HP := hidP hp
  have Hh := hidP (h.below hx1)
  have HL := hidP hln
  have hs1 : w.heap.size ≤ (w.alloc (.cells #[.int .i64 R, .slice ta tn tc] 31)).heap.size := hx1.size
  clear hc h hx1 hT hp HIs
  obtain ⟨w1, hw1⟩ : ∃ w1, w1 = w.alloc (.cells #[.int .i64 R, .slice ta tn tc] 31) := ⟨_, rfl⟩
  rw [← hw1] at HC HX1 HHt Hh hs1
  have HS1 := hidP hs1
  clear hs1
  obtain ⟨lo, hlo⟩ : ∃ lo, lo = minHt i xs n := ⟨_, rfl⟩
  have Hlo := hidP hlo
  have HTT : Hid (lowT i xs = lo + 27720) := by
    show _ = _
    unfold lowT
    rw [HL.out, hlo]
  rw [← hlo] at hmin hmi
  have HMi := hidP hmi
  clear hlo hmi hln
  go_enter Tryz.func58, Tryz.ntmps58
  go_wp2_with fail
  rw [← hw1]
  clear hw1
  refine HHt.out.mono ?_
  rintro e w2 ⟨gh, ch, rfl, ho, hx⟩
  have HX2 := hidP hx
  have HO2 := hidP ho
  have HMn := hidP (minI_any (some ⟨gh, 0, none⟩) (n + 1) ch _ w2 ho.ints (by omega) (by omega))
  rw [minOf_hts, ← Hlo.out] at HMn
  have HIx := hidP (fun x => indexI_any (some ⟨gh, 0, none⟩) (n + 1) ch (hts i xs n) x w2 ho.ints (by omega))
  have HCl : Hid (∀ w', Ext w2 w' → ∀ k, k ≤ n → w'.cell? ⟨gh, k, none⟩ = some (.int .i64 (htAt i xs k))) := by
    intro w' hx' k hk
    obtain ⟨g', e', _, _, q, _⟩ := (HO2.out.below hx').cell k (by omega)
    simp only [Option.some.injEq, Addr.mk.injEq, and_true] at e'
    rw [← e', hts_get _ _ _ _ hk] at q
    exact q
  clear ho hx HHt
  go_wp2_with fail
  refine HMn.out.mono ?_
  rintro e w2' ⟨rfl, hww⟩
  rw [hww]
  clear hww
  clear HMn
  by_cases hc : htAt i xs n < lo + 27720
  · have HJn : J1 = false ∧ J2 = [] := by
      have h1 : lowR R ts i xs = (false, []) := by
        unfold lowR lowS
        rw [HL.out, HTT.out, if_pos hc]
        rfl
      have h2 := HJ.out.trans h1
      simp only [Prod.mk.injEq] at h2
      exact h2
    have q := HCl.out w2 (Ext.refl _) n (Nat.le_refl _)
    have hb := HB.out n (Nat.le_refl _)
    generalize htAt i xs n = V at *
    have hn1 : (n : Int) < (n : Int) + 1 := by omega
    have hn0 : (0 : Int) ≤ (n : Int) := by omega
    go_wp2
    refine bodyPost_ret (v := .tuple #[.slice none 0 0, .bool false]) (by simp [results, Tryz.results58, go_sem]) rfl ⟨none, 0, 0, [], by rw [HJn.1], ?_, HX1.out.trans HX2.out⟩
    rw [HJn.2]
    exact OwnK.nil stepK _ _ _
  · have hle : lowT i xs ≤ htAt i xs xs.length := by rw [HTT.out, HL.out]; omega
    have hLP := low_places hle
    have HLP := hidP hLP
    have HBf := hidP (lowB_before hle)
    have Hle := hidP hle
    have hAn : lowA i xs ≤ n := by have := hLP.ab; have := hLP.bn; have := HL.out; omega
    have hBn : lowB i xs < n := by have := hLP.bn; have := HL.out; omega
    have q := HCl.out w2 (Ext.refl _) n (Nat.le_refl _)
    have hb := HB.out n (Nat.le_refl _)
    obtain ⟨V0, hV0⟩ : ∃ v, v = htAt i xs n := ⟨_, rfl⟩
    rw [← hV0] at q hb hc
    have hn1 : (n : Int) < (n : Int) + 1 := by omega
    have hn0 : (0 : Int) ≤ (n : Int) := by omega
    clear hV0 hLP hle
    go_wp2
    clear q hb hc
    go_loopw [10] (fun ff wr => ∃ f : Nat, lowA i xs ≤ f ∧ f ≤ n ∧ ff = .int .i64 f ∧ wr = w2) (fun ff _ => (intOf ff).toNat)
    case atStart => exact ⟨n, hAn, Nat.le_refl _, by go_num, rfl⟩
    case round =>
      obtain ⟨f, hf1, hf2, rfl, rfl⟩ := hrel
      have q := HCl.out wr (Ext.refl _) f hf2
      have hf3 : (f : Int) < (n : Int) + 1 := by omega
      have hf4 : (0 : Int) ≤ (f : Int) := by omega
      by_cases hh : htAt i xs f = lo
      · have hfA : f = lowA i xs := by
          rcases Nat.eq_or_lt_of_le hf1 with h | h
          · exact h.symm
          · exact absurd (hh.trans (by rw [HL.out]; exact Hlo.out)) (HLP.out.aft f h (by have := HL.out; omega))
        rw [hh] at q
        have HFA := hidP hfA
        clear hh hfA hf1
        go_wp2
        clear q
        go_loopw [11] (fun ll wr' => ∃ l : Nat, f ≤ l ∧ l ≤ lowB i xs ∧ ll = .int .i64 l ∧ wr' = wr) (fun ll _ => n - (intOf ll).toNat)
        case atStart => exact ⟨f, Nat.le_refl _, by rw [HFA.out]; exact HLP.out.ab, rfl, rfl⟩
        case round =>
          obtain ⟨P, hl1, hl2, rfl, rfl⟩ := hrel
          have q := HCl.out wr (Ext.refl _) (P + 1) (by omega)
          have hb := HB.out (P + 1) (by omega)
          have hwr0 : IntKind.i64.wrap (lo + 27720) = lo + 27720 := wrap_in (by omega) (by omega)
          have hl3 : (P : Int) + 1 < (n : Int) + 1 := by omega
          have hl4 : (0 : Int) ≤ (P : Int) + 1 := by omega
          have hPn : P < n := by omega
          by_cases hh : htAt i xs (P + 1) < lo + 27720
          · have hlB : P + 1 ≤ lowB i xs := by
              rcases Nat.eq_or_lt_of_le hl2 with h | h
              · have h1 := HLP.out.hb1
                rw [← h, HTT.out] at h1
                omega
              · exact h
            generalize htAt i xs (P + 1) = V1 at *
            go_wp2
            go_roundw
            case rel => exact ⟨P + 1, by omega, hlB, by go_num, trivial⟩
            case measure => simp [intOf]; omega
          · have hPB : P = lowB i xs := by
              rcases Nat.eq_or_lt_of_le hl2 with h | h
              · exact h
              · have h1 := HBf.out (P + 1) (by have := HFA.out; omega) (by omega)
                rw [HTT.out] at h1
                exact absurd h1 hh
            have HPB := hidP hPB
            have hVP : htAt i xs P < lo + 27720 := by
              have h1 := HLP.out.hb
              rw [← hPB, HTT.out] at h1
              exact h1
            have hVP1 : lo + 27720 ≤ htAt i xs P + lenAt xs P * slopeAt i xs P := by
              have h1 := HLP.out.hb1
              rw [← hPB, HTT.out] at h1
              exact h1
            have HVP := hidP hVP
            have HVP1 := hidP hVP1
            clear hPB hVP hVP1
            generalize htAt i xs (P + 1) = V1 at *
            go_wp2
            clear q hb hh
            have hpl := (Hh.out.terms.below HX2.out).way P hPn
            obtain ⟨b, o, aw, cw, W, L, rfl, HW, HLn, _, hq⟩ := hpl
            have hWl := (HP.out.way P (by have := HL.out; omega)).1
            have hWb := (HP.out.way P (by have := HL.out; omega)).2 i hi
            rw [HW.out] at hWl hWb
            obtain ⟨bw, ow, rfl, hwi⟩ := (hq wr (Ext.refl _)).2.2.one i (by omega)
            obtain ⟨Sl, hSl⟩ : ∃ s, s = W.getD i 0 := ⟨_, rfl⟩
            rw [← hSl] at hwi hWb
            have HSl : Hid (slopeAt i xs P = Sl) := by
              show _ = _
              unfold slopeAt
              rw [HW.out, hSl]
            obtain ⟨V, hV⟩ : ∃ v, v = htAt i xs P := ⟨_, rfl⟩
            have HVv := hidP hV
            have hVb := HB.out P (by omega)
            rw [← hV] at hVb
            have HF : Hid (∀ w', Ext wr w' → w'.cell? ⟨gh, P, none⟩ = some (.int .i64 V) ∧ w'.cell? ⟨b, o + P * 2, none⟩ = some (.slice (some ⟨bw, ow, none⟩) W.length cw) ∧ w'.cell? ⟨bw, ow + i, none⟩ = some (.int .i64 Sl)) := by
              intro w' hx
              have h1 := HCl.out w' hx P (by omega)
              rw [← hV] at h1
              exact ⟨h1, (hq w' hx).1, hwi w' hx⟩
            have hiw : (i : Int) < (W.length : Int) := by omega
            have hi0 : (0 : Int) ≤ (i : Int) := by omega
            have hP0 : (0 : Int) ≤ (P : Int) := by omega
            have hP1 : (P : Int) < (n : Int) + 1 := by omega
            have hP2 : (P : Int) < (n : Int) := by omega
            have hwlo : IntKind.i64.wrap (lo + 27720) = lo + 27720 := wrap_in (by omega) (by omega)
            have hVT : V ≠ lo + 27720 → Sl ≠ 0 := by
              intro _ e
              have h1 := HVP1.out
              have h2 := HVP.out
              rw [HSl.out, e, Int.mul_zero] at h1
              omega
            have HCr := hidP (fun w' => crossing_any V Sl (lo + 27720) w' (by omega) (by omega) hVT)
            have hE : Ext wr wr.drew := Ext.drew wr
            clear hq hwi hSl hV hWl hVT
            obtain ⟨⟨C1, C2⟩, hC⟩ : ∃ C, C = crossV V Sl (lo + 27720) := ⟨_, rfl⟩
            have HCC := hidP hC
            rw [← hC] at HCr
            dsimp only at HCr
            clear hC
            go_wp2
            (refine walkR_start (fun w' => Ext wr w') 19 (by kernel_rfl) ?_; simp only [numbered, List.take_succ_cons, List.take_zero, Nat.zero_add, Nat.reduceAdd, List.length_cons, List.length_nil])
            (repeat (first | (refine walkR_still (v := ?_) rfl (by decide +kernel) rfl (fun _ _ _ h => h) hE ?_ ?_; rotate_left; (focus (intro w' hw'; obtain ⟨q1, q2, q3⟩ := HF.out w' hw'; go_simp; all_goals (with_reducible rfl))); simp only [Act.put, List.setIfInBounds_toArray, List.set_cons_zero, List.set_cons_succ]) | (refine walkR_skip rfl (by decide +kernel) rfl (fun _ _ _ h => h) hE ?_; simp only [Act.put, List.setIfInBounds_toArray, List.set_cons_zero, List.set_cons_succ])))
            (refine walkR_only (fun w' => Ext wr w') rfl (by decide +kernel) rfl (fun _ h => h) ?_; intro K hK; go_simp; refine (HCr.out _).mono ?_; rintro e w3 ⟨rfl, hx3⟩; refine hK _ _ (hE.trans hx3) ?_; clear hK K; (try simp only [Act.put, List.setIfInBounds_toArray, List.set_cons_zero, List.set_cons_succ]))
            have hE3 := hE.trans hx3
            clear hx3 hE
            (repeat (first | (refine walkR_still (v := ?_) rfl (by decide +kernel) rfl (fun _ _ _ h => h) hE3 ?_ ?_; rotate_left; (focus (intro w' hw'; skip; go_simp; all_goals (with_reducible rfl))); simp only [Act.put, List.setIfInBounds_toArray, List.set_cons_zero, List.set_cons_succ]) | (refine walkR_skip rfl (by decide +kernel) rfl (fun _ _ _ h => h) hE3 ?_; simp only [Act.put, List.setIfInBounds_toArray, List.set_cons_zero, List.set_cons_succ])))
            (refine walkR_tail (by rfl) (by kernel_rfl) ?_; simp only [List.drop_succ_cons, List.drop_zero])
            have HX3 := hidP (HX2.out.trans hE3)
            clear hE3
            obtain ⟨f0, f1⟩ := HC.out w3 HX3.out
            cases C2
            · -- no integer
              have HJn : J1 = false ∧ J2 = [] := by
                have h3 := HVP.out
                rw [← HVv.out] at h3
                have h1 : crossV V Sl (lo + 27720) = ((lo + 27720 - V).tdiv Sl, (lo + 27720 - V).tmod Sl == 0) := if_neg (by omega)
                have h2 := HCC.out.trans h1
                simp only [Prod.mk.injEq] at h2
                have h4 : lowR R ts i xs = (false, []) := by
                  unfold lowR lowS
                  rw [if_neg (by have := Hle.out; omega), if_neg (by
                    rw [← HPB.out, HTT.out, HSl.out, ← HVv.out]
                    intro e
                    rw [e] at h2
                    simp at h2)]
                  rfl
                have h5 := HJ.out.trans h4
                simp only [Prod.mk.injEq] at h5
                exact h5
              go_wp2
              refine bodyPost_ret (v := .tuple #[.slice none 0 0, .bool false]) (by simp [results, Tryz.results58, go_sem]) rfl ⟨none, 0, 0, [], by rw [HJn.1], ?_, HX1.out.trans HX3.out⟩
              rw [HJn.2]
              exact OwnK.nil stepK _ _ _
            · -- the two times are found
              have hCC : C1 = (lowT i xs - htAt i xs (lowB i xs)).tdiv (slopeAt i xs (lowB i xs)) ∧ (lowT i xs - htAt i xs (lowB i xs)).tmod (slopeAt i xs (lowB i xs)) = 0 := by
                have h3 := HVP.out
                rw [← HVv.out] at h3
                have h1 : crossV V Sl (lo + 27720) = ((lo + 27720 - V).tdiv Sl, (lo + 27720 - V).tmod Sl == 0) := if_neg (by omega)
                have h2 := HCC.out.trans h1
                simp only [Prod.mk.injEq] at h2
                rw [← HPB.out, HTT.out, HSl.out, ← HVv.out]
                exact ⟨h2.1, by simpa using h2.2.symm⟩
              obtain ⟨hTu, hTR⟩ := low_turn HP.out ts Hle.out hCC.2
              rw [← hCC.1, ← HPB.out, ← HFA.out] at hTu hTR
              have HTr := HTn.out w3 (HX1.out.trans HX3.out) f P 0 C1 hTu
              rw [hTR] at HTr
              clear hTu hTR hCC
              unfold PathRes at HTr
              rw [← HJ.out] at HTr
              dsimp only at HTr
              go_wp2_with fail
              refine HTr.mono ?_
              rintro e w4 ⟨a4, n4, c4, hs4, rfl, ho4, hx4⟩
              have HX4 := hidP (HX3.out.trans hx4)
              have HO4 := hidP (ho4.weaken (HX1.out.trans HX3.out).size (Nat.le_refl _))
              clear ho4 hx4 f0 f1 HTr
              go_wp2
              refine bodyPost_ret (v := .tuple #[.slice a4 n4 c4, .bool J1]) (by simp [results, Tryz.results58, go_sem]) rfl ⟨a4, n4, c4, hs4, rfl, HO4.out, HX1.out.trans HX4.out⟩
      · have hf5 : lowA i xs < f := by
          rcases Nat.eq_or_lt_of_le hf1 with h | h
          · exfalso
            apply hh
            rw [← h, HLP.out.ha, HL.out]
            exact Hlo.out.symm
          · exact h
        have hf6 : 1 ≤ f := by omega
        have hne : (htAt i xs f != lo) = true := by simpa using hh
        generalize htAt i xs f = V1 at *
        clear hh
        go_wp2
        go_roundw
        case rel => exact ⟨f - 1, by omega, by omega, by go_num, trivial⟩
        case measure => simp [intOf]; omega
end Go.Proofs.YtfikkfbnlegflaaGreatDoor

namespace Go.Proofs.YtfikkfbnlegflaaGreatDoor
open Go.RowKit

set_option maxHeartbeats 1000000 in
theorem l9Least_any (a : Option Addr) (n c : Nat) (xs : List Int) (w : World) (h : IntsAt w a n xs) (h0 : 0 < n) (hn : n ≤ 1000000000) :
    Calls Tryz.prog 95 #[.slice a n c] w fun e w' => e = .returned (.int .i64 (Lib.minOf xs)) ∧ w' = w := by
  have G := hidP h.get
  have L := hidP h.len
  obtain ⟨b, o, rfl, q0⟩ := h.get 0 h0
  have h1 : (0 : Int) < (n : Int) := by omega
  rw [Nat.add_zero] at q0
  clear h
  go_enter Tryz.func95, Tryz.ntmps95
  go_wp2
  go_loopw [3, 4] (fun m i wr => ∃ k : Nat, 1 ≤ k ∧ k ≤ n ∧ m = .int .i64 (Lib.minOf (xs.take k)) ∧ i = .int .i64 k ∧ wr = w) (fun _ i _ => n - (intOf i).toNat)
  case atStart =>
    refine ⟨1, Nat.le_refl _, h0, ?_, rfl, rfl⟩
    rw [Lib.minOf_one]
    simp
  case round =>
    obtain ⟨k, hk1, hk, rfl, rfl, rfl⟩ := hrel
    by_cases hlt : k < n
    · obtain ⟨b', o', e', q⟩ := G.out k hlt
      simp only [Option.some.injEq, Addr.mk.injEq, and_true] at e'
      obtain ⟨rfl, rfl⟩ := e'
      have hS : Hid (Lib.minOf (xs.take (k + 1)) = min (Lib.minOf (xs.take k)) (xs.getD k 0)) := Lib.minOf_step xs k (by omega) (by rw [L.out]; exact hlt)
      obtain ⟨M, hM⟩ : ∃ M, M = Lib.minOf (xs.take k) := ⟨_, rfl⟩
      obtain ⟨X, hX⟩ : ∃ X, X = xs.getD k 0 := ⟨_, rfl⟩
      rw [← hM, ← hX] at hS
      rw [← hX] at q
      rw [← hM]
      clear hM hX
      by_cases hc : X < M
      · have hR : Hid (Lib.minOf (xs.take (k + 1)) = X) := by
          show _ = _
          rw [hS.out, Int.min_def]
          split <;> omega
        go_wp2
        go_roundw
        case rel => exact ⟨k + 1, by omega, by omega, by rw [hR.out], by go_num, trivial⟩
        case measure => simp [intOf]; omega
      · have hR : Hid (Lib.minOf (xs.take (k + 1)) = M) := by
          show _ = _
          rw [hS.out, Int.min_def]
          split <;> omega
        go_wp2
        go_roundw
        case rel => exact ⟨k + 1, by omega, by omega, by rw [hR.out], by go_num, trivial⟩
        case measure => simp [intOf]; omega
    · obtain rfl : k = n := by omega
      have hR : Hid (Lib.minOf (xs.take k) = Lib.minOf xs) := by
        show _ = _
        rw [List.take_of_length_le (by rw [L.out]; exact Nat.le_refl _)]
      rw [hR.out]
      go_wp2
      go_ret
      exact ⟨rfl, rfl⟩

/-! ### a path gone back; a reflection between two times. Printed by gen/pthK.py. -/
theorem bet_len (_R : List Int → List Int) {r : Nat} {p : List Stp} (hp : PathP r p) {u v : Int} (huv : u ≤ v) (k : Nat) (hk : k < p.length) :
    (0 ≤ within u (timeAt p k) (timeAt p (k + 1)) - timeAt p k ∧ within u (timeAt p k) (timeAt p (k + 1)) - timeAt p k ≤ 83160) ∧
    (0 ≤ within v (timeAt p k) (timeAt p (k + 1)) - within u (timeAt p k) (timeAt p (k + 1)) ∧ within v (timeAt p k) (timeAt p (k + 1)) - within u (timeAt p k) (timeAt p (k + 1)) ≤ 83160) ∧
    (0 ≤ timeAt p (k + 1) - within v (timeAt p k) (timeAt p (k + 1)) ∧ timeAt p (k + 1) - within v (timeAt p k) (timeAt p (k + 1)) ≤ 83160) := by
  have hl := lens_of_path hp
  have h1 := timeAt_le hl (show k ≤ k + 1 by omega) (by omega)
  have h2 := within_bd (n := u) h1
  have h3 := within_bd (n := v) h1
  have h4 := within_le huv h1
  have h5 := time_small hp k (by omega)
  have h6 := time_small hp (k + 1) (by omega)
  omega

/-- what is put together by the first k steps -/
def accB (R : List Int → List Int) (u v : Int) (p : List Stp) (k : Nat) : List Stp := joinS (betTo R u v p k)
theorem accB_succ (R : List Int → List Int) (u v : Int) (p : List Stp) (k : Nat) (s1 s2 s3 : Stp) (h : betK R u v p k = [s1, s2, s3]) : accB R u v p (k + 1) = addS (addS (addS (accB R u v p k) s1) s2) s3 := by
  unfold accB joinS
  rw [betTo_succ, h, List.foldl_append]
  rfl
def LensB (o : List Stp) (D : Int) : Prop := ∀ i, i < o.length → 0 ≤ lenAt o i ∧ lenAt o i ≤ D
theorem LensB.add {o : List Stp} {s : Stp} {D C : Int} (h : LensB o D) (hs : 0 ≤ s.2 ∧ s.2 ≤ C) (hD : 0 ≤ D) : LensB (addS o s) (D + C) := addS_lens h hs hD

set_option maxRecDepth 100000 in
set_option maxHeartbeats 8000000 in
theorem l9Between_any (R : Nat) (ta : Option Addr) (tn tc : Nat) (ts : List Int) (i : Nat) (a : Option Addr) (n c : Nat) (xs : List Stp) (u v : Int) (w : World) (hc : IntsAt w ta tn ts) (hT : typeB R ts = true) (hi : i < R)
    (h : StepsAt w a n xs) (hp : PathP R xs) (huv : u ≤ v) :
    PathRes 97 #[carV R ta tn tc, .int .i64 i, .slice a n c, .int .i64 u, .int .i64 v] w (chk R (betS (refl R ts i) u v xs)) := by
  unfold PathRes
  obtain ⟨⟨J1, J2⟩, hJ⟩ : ∃ J, J = chk R (betS (refl R ts i) u v xs) := ⟨_, rfl⟩
  rw [← hJ]
  have HJ := hidP hJ
  clear hJ
  dsimp only
  have hx1 := Ext.alloc w (.cells #[.int .i64 R, .slice ta tn tc] 31)
  have HC := hidP (fun w' (hx : Ext (w.alloc (.cells #[.int .i64 R, .slice ta tn tc] 31)) w') => (CarAt.new w _ rfl (R : Int) ta tn tc 31).below hx)
  have HX1 := hidP hx1
  have HP := hidP hp
  have Hh := hidP h
  have Hl := hidP h.len
  have hn60 : n ≤ 60 := by have := hp.len; have := h.len; omega
  have hr4 := typeB_rank hT
  have hR4 : R ≤ 4 := by omega
  have hRf := hidP (fun w' (hx : Ext w w') (aw : Option Addr) (cw : Nat) (W : List Int) (hI : IntsAt w' aw W.length W) (hnl : aw = none → cw = 0) (hW : W.length = R) (hb : ∀ j, j < R → -1000 ≤ W.getD j 0 ∧ W.getD j 0 ≤ 1000) => l6Reflect_any R ta tn tc ts i aw W.length cw W w' (hc.below hx) hT hi hI hnl hW hb)
  have HM0 := hidP (OwnK.made0 stepK (w.alloc (.cells #[.int .i64 R, .slice ta tn tc] 31)))
  have HXM := hidP (Ext.alloc (w.alloc (.cells #[.int .i64 R, .slice ta tn tc] 31)) (.cells #[] 69))
  clear hc h hx1 hT hp hr4
  go_enter Tryz.func97, Tryz.ntmps97
  go_wp2
  obtain ⟨w1, hw1⟩ : ∃ w1, w1 = w.alloc (.cells #[.int .i64 R, .slice ta tn tc] 31) := ⟨_, rfl⟩
  have hws : w.heap.size + 1 = w1.heap.size := by rw [hw1]; simp
  rw [← hw1] at HM0 HXM HC HX1 ⊢
  have HWS := hidP hws
  clear hw1 hws
  go_loopw [12, 13, 14] (fun out at' ii wr => ∃ (k m co : Nat) (ao : Option Addr) (hs : List Hdr), k ≤ n ∧ m ≤ 3 * k ∧ out = .slice ao m co ∧ at' = .int .i64 (timeAt xs k) ∧ ii = .int .i64 k ∧ Hid (OwnK stepK wr w1.heap.size wr.heap.size ao m co hs (accB (refl R ts i) u v xs k)) ∧ Hid (LensB (accB (refl R ts i) u v xs k) (300000 * k)) ∧ Hid (Ext w1 wr)) (fun _ _ ii _ => n - (intOf ii).toNat)
  case atStart => exact ⟨0, _, _, _, [], Nat.zero_le _, Nat.zero_le _, rfl, rfl, rfl, by rw [HWS.out]; exact HM0, fun i hi => absurd hi (Nat.not_lt_zero _), HXM⟩
  case round =>
    obtain ⟨k, m, co, ao, hs, hk, hm3, rfl, rfl, rfl, HO, HLB, HX⟩ := hrel
    by_cases hlt : k < n
    · obtain ⟨b, o, aw, cw, W, L, rfl, HW, HL, hwl, HNl, hq⟩ := Hh.out.way k hlt
      have HQ := hidP hq
      obtain ⟨q1, q2, _⟩ := hq wr (HX1.out.trans HX.out)
      have hwy := HP.out.way k (by have := Hl.out; omega)
      rw [HW.out] at hwy
      have HWy := hidP hwy
      have hWle : W.length ≤ 4 := by omega
      have hbl := bet_len (refl R ts i) HP.out huv k (by have := Hl.out; omega)
      have hts1 := time_small HP.out k (by have := Hl.out; omega)
      have hts2 := time_small HP.out (k + 1) (by have := Hl.out; omega)
      have hTn : Hid (timeAt xs (k + 1) = timeAt xs k + L) := by
        show _ = _
        rw [← HL.out]
        rfl
      have hBK : betK (refl R ts i) u v xs k = [(W, within u (timeAt xs k) (timeAt xs (k + 1)) - timeAt xs k), (refl R ts i W, within v (timeAt xs k) (timeAt xs (k + 1)) - within u (timeAt xs k) (timeAt xs (k + 1))), (W, timeAt xs (k + 1) - within v (timeAt xs k) (timeAt xs (k + 1)))] := by
        unfold betK
        rw [HW.out]
      obtain ⟨T0, hT0⟩ : ∃ T0, T0 = timeAt xs k := ⟨_, rfl⟩
      obtain ⟨T1, hT1⟩ : ∃ T1, T1 = timeAt xs (k + 1) := ⟨_, rfl⟩
      rw [← hT0, ← hT1] at hbl hTn hBK
      rw [← hT0] at hts1 ⊢
      rw [← hT1] at hts2
      have HT1 := hidP hT1
      obtain ⟨A1, hA1⟩ : ∃ A1, A1 = within u T0 T1 := ⟨_, rfl⟩
      obtain ⟨B1, hB1⟩ : ∃ B1, B1 = within v T0 T1 := ⟨_, rfl⟩
      have HA1 := hidP hA1
      have HB1 := hidP hB1
      rw [← hA1, ← hB1] at hbl hBK
      have HAc := hidP (accB_succ (refl R ts i) u v xs k _ _ _ hBK)
      obtain ⟨hb1, hb2, hb3⟩ := hbl
      have hadd : IntKind.i64.wrap (T0 + L) = T1 := by rw [hTn.out]; exact wrap_in (by have := hTn.out; omega) (by have := hTn.out; omega)
      have HRf := hidP (fun w' (hx : Ext w w') => hRf.out w' hx aw cw W (HQ.out w' hx).2.2 HNl.out HWy.out.1 HWy.out.2)
      have HRl : Hid ((refl R ts i W).length = W.length) := by
        show _ = _
        rw [refl_length, HWy.out.1]
      have HWu := hidP (fun w' => l9Within_any u T0 T1 w')
      have HWv := hidP (fun w' => l9Within_any v T0 T1 w')
      rw [← hA1] at HWu
      rw [← hB1] at HWv
      clear hT0 hT1 hA1 hB1 hBK hwy hTn
      -- the first piece
      have HAdd1 := hidP (l9Add_any w1.heap.size ao m co hs _ aw cw W (A1 - T0) wr HO.out (HQ.out wr (HX1.out.trans HX.out)).2.2 HNl.out (by omega) (by omega) HX.out.size hb1.1 (by omega) (fun i hi => by have := HLB.out i (by rw [HO.out.xl]; exact hi); omega))
      have HL1 := hidP (HLB.out.add (s := (W, A1 - T0)) (C := 83160) hb1 (by omega))
      have HN1 := hidP (addS_length (accB (refl R ts i) u v xs k) (W, A1 - T0))
      rw [HO.out.xl] at HN1
      go_wp2_with fail
      refine (HWu.out _).mono ?_
      rintro e wu ⟨rfl, hwu⟩
      rw [← hwu]
      clear hwu wu
      go_wp2_with fail
      refine (HWv.out _).mono ?_
      rintro e wu ⟨rfl, hwu⟩
      rw [← hwu]
      clear hwu wu
      go_wp2_with fail
      refine HAdd1.out.mono ?_
      rintro e w2 ⟨a2, m2, c2, hs2, rfl, ho2, hbe2⟩
      have hx2 : Ext w1 w2 := Below.trans HX.out hbe2
      have HX2 := hidP hx2
      have HO2 := hidP ho2
      have HD2 := hidP hbe2
      have hm2 : m2 ≤ m + 1 := by have := ho2.xl; have := HN1.out; omega
      clear hx2 ho2 hbe2 q1 q2 HAdd1
      obtain ⟨q1, q2, _⟩ := HQ.out w2 (HX1.out.trans HX2.out)
      have hE : Ext w2 w2.drew := Ext.drew w2
      have HAdd2 := hidP (fun w' (hx : Ext w2 w') (a3 : Option Addr) (c3 : Nat) (ho : OwnI w' w2.heap.size a3 W.length c3 (refl R ts i W)) => l9Add_any w1.heap.size a2 m2 c2 hs2 _ a3 c3 (refl R ts i W) (B1 - A1) w' ((HO2.out.below hx).weaken (Nat.le_refl _) hx.size) (by rw [HRl.out]; exact ho.ints) ho.nil_cap (by rw [HRl.out]; omega) (by omega) (Nat.le_trans HX2.out.size hx.size) hb2.1 (by omega) (fun i hi => by have := HL1.out i (by rw [HO2.out.xl]; exact hi); omega))
      have HL2 := hidP (HL1.out.add (s := (refl R ts i W, B1 - A1)) (C := 83160) hb2 (by omega))
      have HN2 := hidP (addS_length (addS (accB (refl R ts i) u v xs k) (W, A1 - T0)) (refl R ts i W, B1 - A1))
      rw [HO2.out.xl] at HN2
      rw [HRl.out] at HAdd2
      have hw2 : IntKind.i64.wrap (B1 - A1) = B1 - A1 := wrap_in (by omega) (by omega)
      go_wp2
      (refine walkR_start (fun w' => Ext w1 w') 12 (by kernel_rfl) ?_; simp only [numbered, List.take_succ_cons, List.take_zero, Nat.zero_add, Nat.reduceAdd, List.length_cons, List.length_nil])
      (repeat (first | (refine walkR_still (v := ?_) rfl (by decide +kernel) rfl (fun _ _ _ h => h) (HX2.out.trans hE) ?_ ?_; rotate_left; (focus (intro w' hw'; obtain ⟨p1, p2, _⟩ := HQ.out w' (HX1.out.trans hw'); obtain ⟨f0, f1⟩ := HC.out w' hw'; go_simp; all_goals (with_reducible rfl))); simp only [Act.put, List.setIfInBounds_toArray, List.set_cons_zero, List.set_cons_succ]) | (refine walkR_skip rfl (by decide +kernel) rfl (fun _ _ _ h => h) (HX2.out.trans hE) ?_; simp only [Act.put, List.setIfInBounds_toArray, List.set_cons_zero, List.set_cons_succ])))
      (refine walkR_later ?_; simp only [List.cons_append, List.nil_append])
      (repeat (first | (refine walkR_still (v := ?_) rfl (by decide +kernel) rfl (fun _ _ _ h => h) (HX2.out.trans hE) ?_ ?_; rotate_left; (focus (intro w' hw'; skip; go_simp; all_goals (with_reducible rfl))); simp only [Act.put, List.setIfInBounds_toArray, List.set_cons_zero, List.set_cons_succ]) | (refine walkR_skip rfl (by decide +kernel) rfl (fun _ _ _ h => h) (HX2.out.trans hE) ?_; simp only [Act.put, List.setIfInBounds_toArray, List.set_cons_zero, List.set_cons_succ])))
      (refine walkR_only (fun w' => Ext w1 w') rfl (by decide +kernel) rfl (fun _ h => h) ?_; intro K hK; go_simp; refine (HRf.out _ (HX1.out.trans (HX2.out.trans hE))).mono ?_; rintro e w3 ⟨a3, c3, rfl, ho3, hx3⟩; refine hK _ _ (HX2.out.trans (hE.trans hx3)) ?_; clear hK K; (try simp only [Act.put, List.setIfInBounds_toArray, List.set_cons_zero, List.set_cons_succ]))
      have hE3 := hE.trans hx3
      have HA2 := hidP (HAdd2.out w3 hE3 a3 c3 (ho3.base hE.size))
      have HX3 := hidP (HX2.out.trans hE3)
      clear ho3 hx3 hE3 hE q1 q2
      (repeat (first | (refine walkR_still (v := ?_) rfl (by decide +kernel) rfl (fun _ _ _ h => h) HX3.out ?_ ?_; rotate_left; (focus (intro w' hw'; skip; go_simp; all_goals (with_reducible rfl))); simp only [Act.put, List.setIfInBounds_toArray, List.set_cons_zero, List.set_cons_succ]) | (refine walkR_skip rfl (by decide +kernel) rfl (fun _ _ _ h => h) HX3.out ?_; simp only [Act.put, List.setIfInBounds_toArray, List.set_cons_zero, List.set_cons_succ])))
      (refine walkR_tail (by rfl) (by kernel_rfl) ?_; simp only [List.drop_succ_cons, List.drop_zero])
      go_wp2_with fail
      refine HA2.out.mono ?_
      rintro e w4 ⟨a4, m4, c4, hs4, rfl, ho4, hbe4⟩
      have HX4 := hidP (show Ext w1 w4 from Below.trans HX3.out hbe4)
      have HO4 := hidP ho4
      have hm4 : m4 ≤ m2 + 1 := by have := ho4.xl; have := HN2.out; omega
      clear ho4 hbe4 HA2 HAdd2
      obtain ⟨q1, q2, qi⟩ := HQ.out w4 (HX1.out.trans HX4.out)
      have HAdd3 := hidP (l9Add_any w1.heap.size a4 m4 c4 hs4 _ aw cw W (T1 - B1) w4 HO4.out qi HNl.out (by omega) (by omega) HX4.out.size hb3.1 (by omega) (fun i hi => by have := HL2.out i (by rw [HO4.out.xl]; exact hi); omega))
      have HL3 := hidP (HL2.out.add (s := (W, T1 - B1)) (C := 83160) hb3 (by omega))
      have HN3 := hidP (addS_length (addS (addS (accB (refl R ts i) u v xs k) (W, A1 - T0)) (refl R ts i W, B1 - A1)) (W, T1 - B1))
      rw [HO4.out.xl] at HN3
      have hw3 : IntKind.i64.wrap (T1 - B1) = T1 - B1 := wrap_in (by omega) (by omega)
      clear qi
      go_wp2_with fail
      refine HAdd3.out.mono ?_
      rintro e w5 ⟨a5, m5, c5, hs5, rfl, ho5, hbe5⟩
      have HX5 := hidP (show Ext w1 w5 from Below.trans HX4.out hbe5)
      have hm5 : m5 ≤ m4 + 1 := by have := ho5.xl; have := HN3.out; omega
      rw [← HAc.out] at ho5
      have HO5 := hidP ho5
      have HL5 : Hid (LensB (accB (refl R ts i) u v xs (k + 1)) (300000 * ((k + 1 : Nat) : Int))) := by
        rw [HAc.out]
        intro i hi
        have h1 := HL3.out i hi
        rw [Int.natCast_add, Int.natCast_one]
        omega
      clear ho5 hbe5 HAdd3 q1 q2
      go_wp2
      go_roundw
      case rel => exact ⟨k + 1, m5, c5, a5, hs5, by omega, by omega, rfl, by rw [HT1.out], by go_num, HO5, HL5, HX5⟩
      case measure => simp [intOf]; omega
    · obtain rfl : n = k := by omega
      have HBS : Hid (accB (refl R ts i) u v xs n = joinS (betS (refl R ts i) u v xs)) := by
        show _ = _
        unfold accB betS
        rw [Hl.out]
      rw [HBS.out] at HO
      have HOk := hidP (l9Ok_any R ta tn tc ao m co _ wr HO.out.termsAt HO.out.small (by omega))
      obtain ⟨f0, f1⟩ := HC.out wr HX.out
      cases hpb : pathB R (joinS (betS (refl R ts i) u v xs))
      · rw [hpb] at HOk
        have HJn : J1 = false ∧ J2 = [] := by
          have h1 : chk R (betS (refl R ts i) u v xs) = (false, []) := by
            unfold chk
            rw [hpb]
            rfl
          have h2 := HJ.out.trans h1
          simp only [Prod.mk.injEq] at h2
          exact h2
        clear hpb
        go_wp2_with fail
        refine HOk.out.mono ?_
        rintro e w2 ⟨rfl, hx⟩
        have HX2 := hidP (HX.out.trans hx)
        clear hx f0 f1
        go_wp2
        refine bodyPost_ret (v := .tuple #[.slice none 0 0, .bool false]) (by simp [results, Tryz.results97, go_sem]) rfl ⟨none, 0, 0, [], by rw [HJn.1], ?_, HX1.out.trans HX2.out⟩
        rw [HJn.2]
        exact OwnK.nil stepK _ _ _
      · rw [hpb] at HOk
        have HJn : J1 = true ∧ J2 = joinS (betS (refl R ts i) u v xs) := by
          have h1 : chk R (betS (refl R ts i) u v xs) = (true, joinS (betS (refl R ts i) u v xs)) := by
            unfold chk
            rw [hpb]
            rfl
          have h2 := HJ.out.trans h1
          simp only [Prod.mk.injEq] at h2
          exact h2
        clear hpb
        go_wp2_with fail
        refine HOk.out.mono ?_
        rintro e w2 ⟨rfl, hx⟩
        have HX2 := hidP (HX.out.trans hx)
        have HO2 := hidP ((HO.out.below hx).weaken (B' := w.heap.size) HX1.out.size hx.size)
        clear hx f0 f1
        go_wp2
        refine bodyPost_ret (v := .tuple #[.slice ao m co, .bool true]) (by simp [results, Tryz.results97, go_sem]) rfl ⟨ao, m, co, hs, by rw [HJn.1], ?_, HX1.out.trans HX2.out⟩
        rw [HJn.2]
        exact HO2.out
end Go.Proofs.YtfikkfbnlegflaaGreatDoor

namespace Go.Proofs.YtfikkfbnlegflaaGreatDoor
open Go.RowKit

theorem timeAt_take (p : List Stp) (m : Nat) : ∀ k, k ≤ m → timeAt (p.take m) k = timeAt p k
  | 0, _ => rfl
  | k + 1, h => by
    have ih := timeAt_take p m k (by omega)
    show timeAt (p.take m) k + lenAt (p.take m) k = timeAt p k + lenAt p k
    rw [ih]
    congr 1
    unfold lenAt
    simp [List.getD_eq_getElem?_getD, show k < m by omega]
theorem TermsAt.take {w : World} {a : Option Addr} {n : Nat} {xs : List Stp} (h : TermsAt w a n xs) (m : Nat) (hm : m ≤ n) : TermsAt w a m (xs.take m) := by
  refine ⟨by rw [List.length_take, h.len]; omega, fun i hi => ?_⟩
  obtain ⟨b, o, aw, cw, e, h1, h2, h3, h4⟩ := h.get i (by omega)
  have e2 : (xs.take m).getD i ([], 0) = xs.getD i ([], 0) := by simp [List.getD_eq_getElem?_getD, hi]
  rw [e2]
  exact ⟨b, o, aw, cw, e, h1, h2, h3, h4⟩
/-- the two times of LowerPath, the second one -1 where it is no integer -/
def lowV (i : Nat) (p : List Stp) : Int := l9CrossV (timeAt p (lowB i p)) (htAt i p (lowB i p)) (slopeAt i p (lowB i p)) (lowT i p)
theorem low_slope {r : Nat} {p : List Stp} (_hp : PathP r p) {i : Nat} (h : lowT i p ≤ htAt i p p.length) : slopeAt i p (lowB i p) ≠ 0 := by
  have hL := low_places h
  have hH : htAt i p (lowB i p + 1) = htAt i p (lowB i p) + lenAt p (lowB i p) * slopeAt i p (lowB i p) := rfl
  intro e
  have h1 := hL.hb
  have h2 := hL.hb1
  rw [hH, e, Int.mul_zero] at h2
  omega
/-- LowerPath by its two times -/
theorem lowR_times {r : Nat} {p : List Stp} (hp : PathP r p) {i : Nat} (ts : List Int) (h : lowT i p ≤ htAt i p p.length) :
    (lowV i p < 0 → lowR r ts i p = (false, [])) ∧ (0 ≤ lowV i p → timeAt p (lowA i p) ≤ lowV i p ∧ lowR r ts i p = chk r (betS (refl r ts i) (timeAt p (lowA i p)) (lowV i p) p)) := by
  have hL := low_places h
  have hl := lens_of_path hp
  have ht := timeAt_le hl hL.ab (Nat.le_of_lt hL.bn)
  have ht0 := (time_small hp (lowA i p) (by have := hL.ab; have := hL.bn; omega)).1
  unfold lowV l9CrossV lowR lowS
  rw [if_neg (show ¬ htAt i p p.length < lowT i p by omega)]
  by_cases hm : (lowT i p - htAt i p (lowB i p)).tmod (slopeAt i p (lowB i p)) = 0
  · rw [if_pos hm, if_pos hm]
    obtain ⟨hT, _⟩ := low_turn hp ts h hm
    have h1 := hT.to0
    refine ⟨fun hn => by omega, fun _ => ⟨by omega, by rw [chk_opt]⟩⟩
  · rw [if_neg hm, if_neg hm]
    exact ⟨fun _ => rfl, fun hn => by omega⟩

set_option maxRecDepth 100000 in
set_option maxHeartbeats 8000000 in
theorem l9Lower_any (R : Nat) (i : Nat) (a : Option Addr) (n c : Nat) (xs : List Stp) (w : World) (h : TermsAt w a n xs) (hnc : n ≤ c) (_hc : c ≤ 9223372036854775807) (hp : PathP R xs) (hi : i < R) (hle : lowT i xs ≤ htAt i xs xs.length) :
    Calls Tryz.prog 96 #[.int .i64 i, .slice a n c] w fun e w' => e = .returned (.tuple #[.int .i64 (timeAt xs (lowA i xs)), .int .i64 (lowV i xs)]) ∧ Ext w w' := by
  have hln := h.len
  have hn60 : n ≤ 60 := by have := hp.len; omega
  have hmin := min_small hp hi
  rw [hln] at hmin
  have hLP := low_places hle
  have hsl := low_slope hp hle
  have HB := hidP (fun k (hk : k ≤ n) => ht_small hp hi k (by omega))
  have HTm := hidP (fun k (hk : k ≤ n) => time_small hp k (by omega))
  have HHt := hidP (l9Heights_any i R a n c xs w h hp hi)
  have HP := hidP hp
  have Hh := hidP h
  have HL := hidP hln
  have HLP := hidP hLP
  have HBf := hidP (lowB_before hle)
  have HSn := hidP hsl
  have hAn : lowA i xs ≤ n := by have := hLP.ab; have := hLP.bn; omega
  have hBn : lowB i xs < n := by have := hLP.bn; omega
  obtain ⟨lo, hlo⟩ : ∃ lo, lo = minHt i xs n := ⟨_, rfl⟩
  have Hlo := hidP hlo
  have HTT : Hid (lowT i xs = lo + 27720) := by
    show _ = _
    unfold lowT
    rw [HL.out, hlo]
  rw [← hlo] at hmin
  obtain ⟨U, hU⟩ : ∃ U, U = timeAt xs (lowA i xs) := ⟨_, rfl⟩
  obtain ⟨V, hV⟩ : ∃ V, V = lowV i xs := ⟨_, rfl⟩
  have HU := hidP hU
  have HV := hidP hV
  rw [← hU, ← hV]
  clear h hp hLP hsl hlo hln hU hV hle
  go_enter Tryz.func96, Tryz.ntmps96
  go_wp2_with fail
  refine HHt.out.mono ?_
  rintro e w2 ⟨gh, ch, rfl, ho, hx⟩
  have HX2 := hidP hx
  have HO2 := hidP ho
  have HMn := hidP (l9Least_any (some ⟨gh, 0, none⟩) (n + 1) ch _ w2 ho.ints (by omega) (by omega))
  rw [minOf_hts, ← Hlo.out] at HMn
  have HCl : Hid (∀ w', Ext w2 w' → ∀ k, k ≤ n → w'.cell? ⟨gh, k, none⟩ = some (.int .i64 (htAt i xs k))) := by
    intro w' hx' k hk
    obtain ⟨g', e', _, _, q, _⟩ := (HO2.out.below hx').cell k (by omega)
    simp only [Option.some.injEq, Addr.mk.injEq, and_true] at e'
    rw [← e', hts_get _ _ _ _ hk] at q
    exact q
  clear ho hx HHt
  go_wp2_with fail
  refine HMn.out.mono ?_
  rintro e w2' ⟨rfl, hww⟩
  rw [hww]
  clear HMn hww
  go_wp2
  go_loopw [8] (fun ff wr => ∃ f : Nat, lowA i xs ≤ f ∧ f ≤ n ∧ ff = .int .i64 f ∧ wr = w2) (fun ff _ => (intOf ff).toNat)
  case atStart => exact ⟨n, hAn, Nat.le_refl _, by go_num, rfl⟩
  case round =>
    obtain ⟨f, hf1, hf2, rfl, rfl⟩ := hrel
    have q := HCl.out wr (Ext.refl _) f hf2
    have hf3 : (f : Int) < (n : Int) + 1 := by omega
    have hf4 : (0 : Int) ≤ (f : Int) := by omega
    by_cases hh : htAt i xs f = lo
    · have hfA : f = lowA i xs := by
        rcases Nat.eq_or_lt_of_le hf1 with h | h
        · exact h.symm
        · exact absurd (hh.trans (by rw [HL.out]; exact Hlo.out)) (HLP.out.aft f h (by have := HL.out; omega))
      rw [hh] at q
      have HFA := hidP hfA
      have HTime := hidP (l9Time_any a f c (xs.take f) wr ((Hh.out.below HX2.out).take f hf2) (by omega) (fun k hk => by
        have h1 := HP.out.dur k (by have := HL.out; omega)
        have e : lenAt (xs.take f) k = lenAt xs k := by
          unfold lenAt
          simp [List.getD_eq_getElem?_getD, hk]
        rw [e]
        omega))
      rw [timeAt_take _ _ _ (Nat.le_refl _), hfA, ← HU.out, ← hfA] at HTime
      have hfc : (f : Int) ≤ (c : Int) := by omega
      clear hh hfA hf1
      go_wp2_with fail
      refine HTime.out.mono ?_
      rintro e w3 ⟨rfl, hww⟩
      rw [hww]
      clear hww q HTime
      go_wp2
      go_loopw [8, 10] (fun ll tt wr' => ∃ l : Nat, f ≤ l ∧ l ≤ lowB i xs ∧ ll = .int .i64 l ∧ tt = .int .i64 (timeAt xs l) ∧ wr' = wr) (fun ll _ _ => n - (intOf ll).toNat)
      case atStart => exact ⟨f, Nat.le_refl _, by rw [HFA.out]; exact HLP.out.ab, rfl, by rw [HU.out, HFA.out], rfl⟩
      case round =>
        obtain ⟨P, hl1, hl2, rfl, rfl, rfl⟩ := hrel
        have q := HCl.out wr (Ext.refl _) (P + 1) (by omega)
        have hb := HB.out (P + 1) (by omega)
        have hwr0 : IntKind.i64.wrap (lo + 27720) = lo + 27720 := wrap_in (by omega) (by omega)
        have hl3 : (P : Int) + 1 < (n : Int) + 1 := by omega
        have hl4 : (0 : Int) ≤ (P : Int) + 1 := by omega
        have hPn : P < n := by omega
        have hPn2 : (P : Int) < (n : Int) := by omega
        have htm := HTm.out P (by omega)
        by_cases hh : htAt i xs (P + 1) < lo + 27720
        · have hlB : P + 1 ≤ lowB i xs := by
            rcases Nat.eq_or_lt_of_le hl2 with h | h
            · have h1 := HLP.out.hb1
              rw [← h, HTT.out] at h1
              omega
            · exact h
          obtain ⟨b, o, aw, cw, W, L, rfl, HW, HLn, _, hq⟩ := (Hh.out.below HX2.out).way P hPn
          obtain ⟨p1, p2, _⟩ := hq wr (Ext.refl _)
          have hTn : Hid (timeAt xs (P + 1) = timeAt xs P + L) := by
            show _ = _
            rw [← HLn.out]
            rfl
          have htm2 := HTm.out (P + 1) (by omega)
          rw [hTn.out] at htm2
          generalize htAt i xs (P + 1) = V1 at *
          have hnot : ¬ (lo + 27720 ≤ V1) := by omega
          obtain ⟨T0, hT0⟩ : ∃ T, T = timeAt xs P := ⟨_, rfl⟩
          rw [← hT0] at hTn htm htm2 ⊢
          clear hT0 hq p1
          go_wp2
          go_roundw
          case rel => exact ⟨P + 1, by omega, hlB, by go_num, by rw [hTn.out], trivial⟩
          case measure => simp [intOf]; omega
        · have hPB : P = lowB i xs := by
            rcases Nat.eq_or_lt_of_le hl2 with h | h
            · exact h
            · have h1 := HBf.out (P + 1) (by have := HFA.out; omega) (by omega)
              rw [HTT.out] at h1
              exact absurd h1 hh
          have HPB := hidP hPB
          obtain ⟨b, o, aw, cw, W, L, rfl, HW, HLn, _, hq⟩ := (Hh.out.below HX2.out).way P hPn
          have hWl := (HP.out.way P (by have := HL.out; omega)).1
          rw [HW.out] at hWl
          obtain ⟨bw, ow, rfl, hwi⟩ := (hq wr (Ext.refl _)).2.2.one i (by omega)
          obtain ⟨Sl, hSl⟩ : ∃ s, s = W.getD i 0 := ⟨_, rfl⟩
          rw [← hSl] at hwi
          have HSl : Hid (slopeAt i xs P = Sl) := by
            show _ = _
            unfold slopeAt
            rw [HW.out, hSl]
          obtain ⟨H0, hH0⟩ : ∃ v, v = htAt i xs P := ⟨_, rfl⟩
          obtain ⟨T0, hT0⟩ : ∃ v, v = timeAt xs P := ⟨_, rfl⟩
          have hHb := HB.out P (by omega)
          rw [← hH0] at hHb
          rw [← hT0] at htm ⊢
          have hS0 : Sl ≠ 0 := by
            rw [← HSl.out, hPB]
            exact HSn.out
          have HVV : Hid (l9CrossV T0 H0 Sl (lo + 27720) = V) := by
            show _ = _
            rw [HV.out]
            unfold lowV
            rw [← hPB, HTT.out, HSl.out, hH0, hT0]
          have HCr := hidP (fun w' => l9Cross_any T0 H0 Sl (lo + 27720) w' (by omega) (by omega) (by omega) hS0)
          rw [HVV.out] at HCr
          have HF : Hid (∀ w', Ext wr w' → w'.cell? ⟨gh, P, none⟩ = some (.int .i64 H0) ∧ w'.cell? ⟨b, o + P * 2, none⟩ = some (.slice (some ⟨bw, ow, none⟩) W.length cw) ∧ w'.cell? ⟨bw, ow + i, none⟩ = some (.int .i64 Sl)) := by
            intro w' hx
            have h1 := HCl.out w' hx P (by omega)
            rw [← hH0] at h1
            exact ⟨h1, (hq w' hx).1, hwi w' hx⟩
          have hiw : (i : Int) < (W.length : Int) := by omega
          have hi0 : (0 : Int) ≤ (i : Int) := by omega
          have hP0 : (0 : Int) ≤ (P : Int) := by omega
          have hP1 : (P : Int) < (n : Int) + 1 := by omega
          have hge : lo + 27720 ≤ htAt i xs (P + 1) := by omega
          obtain ⟨V1, hV1⟩ : ∃ v, v = htAt i xs (P + 1) := ⟨_, rfl⟩
          rw [← hV1] at q hb hh hge
          have hE : Ext wr wr.drew := Ext.drew wr
          clear hPB hq hwi hSl hH0 hT0 hV1 hS0 hWl
          go_wp2
          clear q hb hh hge
          (refine walkR_start (fun w' => Ext wr w') 17 (by kernel_rfl) ?_; simp only [numbered, List.take_succ_cons, List.take_zero, Nat.zero_add, Nat.reduceAdd, List.length_cons, List.length_nil])
          (repeat (first | (refine walkR_still (v := ?_) rfl (by decide +kernel) rfl (fun _ _ _ h => h) hE ?_ ?_; rotate_left; (focus (intro w' hw'; obtain ⟨q1, q2, q3⟩ := HF.out w' hw'; go_simp; all_goals (with_reducible rfl))); simp only [Act.put, List.setIfInBounds_toArray, List.set_cons_zero, List.set_cons_succ]) | (refine walkR_skip rfl (by decide +kernel) rfl (fun _ _ _ h => h) hE ?_; simp only [Act.put, List.setIfInBounds_toArray, List.set_cons_zero, List.set_cons_succ])))
          (refine walkR_only (fun w' => Ext wr w') rfl (by decide +kernel) rfl (fun _ h => h) ?_; intro K hK; go_simp; refine (HCr.out _).mono ?_; rintro e w3 ⟨rfl, hx3⟩; refine hK _ _ (hx3 ▸ hE) ?_; clear hK K; (try simp only [Act.put, List.setIfInBounds_toArray, List.set_cons_zero, List.set_cons_succ]))
          have hE3 : Ext wr w3 := hx3 ▸ hE
          clear hx3 hE
          (refine walkR_tail (by rfl) (by kernel_rfl) ?_; simp only [List.drop_succ_cons, List.drop_zero])
          go_wp2
          refine bodyPost_ret (v := .tuple #[.int .i64 U, .int .i64 V]) (by simp [results, Tryz.results96, go_sem]) rfl ⟨rfl, HX2.out.trans hE3⟩
    · have hf5 : lowA i xs < f := by
        rcases Nat.eq_or_lt_of_le hf1 with h | h
        · exfalso
          apply hh
          rw [← h, HLP.out.ha, HL.out]
          exact Hlo.out.symm
        · exact h
      have hf6 : 1 ≤ f := by omega
      have hne : (htAt i xs f != lo) = true := by simpa using hh
      generalize htAt i xs f = V1 at *
      clear hh
      go_wp2
      go_roundw
      case rel => exact ⟨f - 1, by omega, by omega, by go_num, trivial⟩
      case measure => simp [intOf]; omega
end Go.Proofs.YtfikkfbnlegflaaGreatDoor

namespace Go.Proofs.YtfikkfbnlegflaaGreatDoor
open Go.RowKit

theorem OwnK.room {α : Type} {K : Knd α} {w : World} {B U : Nat} {a : Option Addr} {n c : Nat} {hs : List Hdr} {xs : List α} (h : OwnK K w B U a n c hs xs) : n ≤ c ∧ c ≤ 9223372036854775807 := by
  rcases h.form with ⟨_, h0, h1⟩ | ⟨_, _, _, _, _, _, h1, h2⟩
  · omega
  · unfold maxLen at h2; omega
set_option maxHeartbeats 4000000 in
theorem l9LowerPath_any (R : Nat) (ta : Option Addr) (tn tc : Nat) (ts : List Int) (i : Nat) (a : Option Addr) (n c : Nat) (xs : List Stp) (w : World) (hc : IntsAt w ta tn ts) (hT : typeB R ts = true) (hi : i < R) (h : StepsAt w a n xs) (hnc : n ≤ c) (hcc : c ≤ 9223372036854775807) (hp : PathP R xs) :
    PathRes 55 #[carV R ta tn tc, .int .i64 i, .slice a n c] w (lowR R ts i xs) := by
  unfold PathRes
  obtain ⟨⟨J1, J2⟩, hJ⟩ : ∃ J, J = lowR R ts i xs := ⟨_, rfl⟩
  rw [← hJ]
  have HJ := hidP hJ
  clear hJ
  dsimp only
  have hx1 := Ext.alloc w (.cells #[.int .i64 R, .slice ta tn tc] 31)
  have HC := hidP (fun w' (hx : Ext (w.alloc (.cells #[.int .i64 R, .slice ta tn tc] 31)) w') => (CarAt.new w _ rfl (R : Int) ta tn tc 31).below hx)
  have HX1 := hidP hx1
  have hln := h.len
  have hn60 : n ≤ 60 := by have := hp.len; omega
  have hmin := min_small hp hi
  rw [hln] at hmin
  have hbn := ht_small hp hi n (by omega)
  have HHt := hidP (l9Heights_any i R a n c xs _ (h.below hx1).terms hp hi)
  have HLw := hidP (fun w' (hx : Ext w w') (hle : lowT i xs ≤ htAt i xs xs.length) => l9Lower_any R i a n c xs w' (h.below hx).terms hnc hcc hp hi hle)
  have HBt := hidP (fun w' (hx : Ext w w') (u v : Int) (huv : u ≤ v) => l9Between_any R ta tn tc ts i a n c xs u v w' (hc.below hx) hT hi (h.below hx) hp huv)
  have HP := hidP hp
  have HL := hidP hln
  obtain ⟨lo, hlo⟩ : ∃ lo, lo = minHt i xs n := ⟨_, rfl⟩
  have Hlo := hidP hlo
  have HTT : Hid (lowT i xs = lo + 27720) := by
    show _ = _
    unfold lowT
    rw [HL.out, hlo]
  rw [← hlo] at hmin
  obtain ⟨V, hV⟩ : ∃ V, V = htAt i xs n := ⟨_, rfl⟩
  have HV := hidP hV
  rw [← hV] at hbn
  clear hc h hx1 hT hp hln hlo hV
  obtain ⟨w1, hw1⟩ : ∃ w1, w1 = w.alloc (.cells #[.int .i64 R, .slice ta tn tc] 31) := ⟨_, rfl⟩
  rw [← hw1] at HC HX1 HHt
  go_enter Tryz.func55, Tryz.ntmps55
  go_wp2_with fail
  rw [← hw1]
  clear hw1
  refine HHt.out.mono ?_
  rintro e w2 ⟨gh, ch, rfl, ho, hx⟩
  have HX2 := hidP hx
  have HO2 := hidP ho
  have HMn := hidP (fun w' (hx : Ext w2 w') => l9Least_any (some ⟨gh, 0, none⟩) (n + 1) ch _ w' (ho.below hx).ints (by omega) (by omega))
  rw [minOf_hts, ← Hlo.out] at HMn
  have HCl : Hid (∀ w', Ext w2 w' → w'.cell? ⟨gh, n, none⟩ = some (.int .i64 V)) := by
    intro w' hx'
    obtain ⟨g', e', _, _, q, _⟩ := (HO2.out.below hx').cell n (by omega)
    simp only [Option.some.injEq, Addr.mk.injEq, and_true] at e'
    rw [← e', hts_get _ _ _ _ (Nat.le_refl _), ← HV.out] at q
    exact q
  have hn1 : (n : Int) < (n : Int) + 1 := by omega
  have hn0 : (0 : Int) ≤ (n : Int) := by omega
  have hwn : IntKind.i64.wrap (n : Int) = (n : Int) := wrap_in (by omega) (by omega)
  have hwl : IntKind.i64.wrap (lo + 27720) = lo + 27720 := wrap_in (by omega) (by omega)
  have hE : Ext w2 w2.drew := Ext.drew w2
  clear ho hx HHt
  go_wp2
  (refine walkR_start (fun w' => Ext w2 w') 9 (by kernel_rfl) ?_; simp only [numbered, List.take_succ_cons, List.take_zero, Nat.zero_add, Nat.reduceAdd, List.length_cons, List.length_nil])
  (repeat (first | (refine walkR_still (v := ?_) rfl (by decide +kernel) rfl (fun _ _ _ h => h) hE ?_ ?_; rotate_left; (focus (intro w' hw'; obtain q := HCl.out w' hw'; go_simp; all_goals (with_reducible rfl))); simp only [Act.put, List.setIfInBounds_toArray, List.set_cons_zero, List.set_cons_succ]) | (refine walkR_skip rfl (by decide +kernel) rfl (fun _ _ _ h => h) hE ?_; simp only [Act.put, List.setIfInBounds_toArray, List.set_cons_zero, List.set_cons_succ])))
  (refine walkR_only (fun w' => Ext w2 w') rfl (by decide +kernel) rfl (fun _ h => h) ?_; intro K hK; go_simp; refine (HMn.out _ hE).mono ?_; rintro e w3 ⟨rfl, hx3⟩; refine hK _ _ (hx3 ▸ hE) ?_; clear hK K; (try simp only [Act.put, List.setIfInBounds_toArray, List.set_cons_zero, List.set_cons_succ]))
  have hE3 : Ext w2 w3 := hx3 ▸ hE
  clear hx3 hE
  (repeat (first | (refine walkR_still (v := ?_) rfl (by decide +kernel) rfl (fun _ _ _ h => h) hE3 ?_ ?_; rotate_left; (focus (intro w' hw'; skip; go_simp; all_goals (with_reducible rfl))); simp only [Act.put, List.setIfInBounds_toArray, List.set_cons_zero, List.set_cons_succ]) | (refine walkR_skip rfl (by decide +kernel) rfl (fun _ _ _ h => h) hE3 ?_; simp only [Act.put, List.setIfInBounds_toArray, List.set_cons_zero, List.set_cons_succ])))
  (refine walkR_tail (by rfl) (by kernel_rfl) ?_; simp only [List.drop_succ_cons, List.drop_zero])
  have HX3 := hidP (HX2.out.trans hE3)
  clear hE3
  by_cases hc : V < lo + 27720
  · have HJn : J1 = false ∧ J2 = [] := by
      have h1 : lowR R ts i xs = (false, []) := by
        unfold lowR lowS
        rw [HL.out, HTT.out, ← HV.out, if_pos hc]
        rfl
      have h2 := HJ.out.trans h1
      simp only [Prod.mk.injEq] at h2
      exact h2
    go_wp2
    refine bodyPost_ret (v := .tuple #[.slice none 0 0, .bool false]) (by simp [results, Tryz.results55, go_sem]) rfl ⟨none, 0, 0, [], by rw [HJn.1], ?_, HX1.out.trans HX3.out⟩
    rw [HJn.2]
    exact OwnK.nil stepK _ _ _
  · have hle : lowT i xs ≤ htAt i xs xs.length := by rw [HTT.out, HL.out, ← HV.out]; omega
    obtain ⟨ht1, ht2⟩ := lowR_times HP.out ts hle
    have HT1 := hidP ht1
    have HT2 := hidP ht2
    have HLo := hidP (HLw.out w3 (HX1.out.trans HX3.out) hle)
    obtain ⟨U, hU⟩ : ∃ U, U = timeAt xs (lowA i xs) := ⟨_, rfl⟩
    obtain ⟨T, hT⟩ : ∃ T, T = lowV i xs := ⟨_, rfl⟩
    rw [← hU, ← hT] at HLo HT2
    rw [← hT] at HT1
    clear ht1 ht2 hle hU hT
    go_wp2_with fail
    refine HLo.out.mono ?_
    rintro e w4 ⟨rfl, hx4⟩
    have HX4 := hidP (HX3.out.trans hx4)
    clear hx4 HLo
    obtain ⟨f0, f1⟩ := HC.out w4 HX4.out
    by_cases hneg : T < 0
    · have HJn : J1 = false ∧ J2 = [] := by
        have h2 := HJ.out.trans (HT1.out hneg)
        simp only [Prod.mk.injEq] at h2
        exact h2
      go_wp2
      refine bodyPost_ret (v := .tuple #[.slice none 0 0, .bool false]) (by simp [results, Tryz.results55, go_sem]) rfl ⟨none, 0, 0, [], by rw [HJn.1], ?_, HX1.out.trans HX4.out⟩
      rw [HJn.2]
      exact OwnK.nil stepK _ _ _
    · obtain ⟨huv, hJe⟩ := HT2.out (by omega)
      have HB := HBt.out w4 (HX1.out.trans HX4.out) U T huv
      unfold PathRes at HB
      rw [← hJe, ← HJ.out] at HB
      dsimp only at HB
      have HB2 := hidP HB
      clear HB huv hJe
      go_wp2_with fail
      refine HB2.out.mono ?_
      rintro e w5 ⟨a5, n5, c5, hs5, rfl, ho5, hx5⟩
      have HX5 := hidP (HX4.out.trans hx5)
      have HO5 := hidP (ho5.weaken (HX1.out.trans HX4.out).size (Nat.le_refl _))
      clear ho5 hx5 f0 f1 HB2
      go_wp2
      refine bodyPost_ret (v := .tuple #[.slice a5 n5 c5, .bool J1]) (by simp [results, Tryz.results55, go_sem]) rfl ⟨a5, n5, c5, hs5, rfl, HO5.out, HX1.out.trans HX5.out⟩

end Go.Proofs.YtfikkfbnlegflaaGreatDoor

namespace Go.Proofs.YtfikkfbnlegflaaGreatDoor
open Go.RowKit

end Go.Proofs.YtfikkfbnlegflaaGreatDoor
