/-
  HighestPath: a path raised until it cannot be, the program's and the reference's.
  HighestPath, the reference's.
  The end of a path: a multiple added, both sides.
  The end of a path, in the units of time: both sides.
  EndOf: the program's and the reference's. Printed by gen/pthY.py.
  ReflectPath: the program's and the reference's. Printed by gen/pthV2.py.
-/
import Derived.Test.YtfikkfbnlegflaaGreatDoorPthZ
import Derived.Test.YtfikkfbnlegflaaGreatDoorCarG
namespace Go.Proofs.YtfikkfbnlegflaaGreatDoor
open Go.RowKit

/-- the first that there is -/
def onceF {β : Type} (F : Nat → Option β) : Nat → Option β
  | 0 => none
  | k + 1 => match onceF F k with
    | some q => some q
    | none => F k
theorem onceF_stay {β : Type} {F : Nat → Option β} {k : Nat} {q : β} (h : onceF F k = some q) : ∀ {m : Nat}, k ≤ m → onceF F m = some q
  | 0, hm => by
    obtain rfl : k = 0 := by omega
    exact h
  | m + 1, hm => by
    rcases Nat.eq_or_lt_of_le hm with e | hlt
    · rw [← e]
      exact h
    · have ih := onceF_stay h (show k ≤ m by omega)
      unfold onceF
      rw [ih]
theorem onceF_step {β : Type} {F : Nat → Option β} {k : Nat} (h : onceF F k = none) : onceF F (k + 1) = F k := by
  conv => lhs; unfold onceF
  rw [h]
theorem onceF_found {β : Type} {F : Nat → Option β} {k : Nat} {q : β} (h : onceF F k = some q) : ∃ i, i < k ∧ F i = some q := by
  induction k with
  | zero => cases h
  | succ k ih =>
    cases hk : onceF F k with
    | none =>
      rw [onceF_step hk] at h
      exact ⟨k, by omega, h⟩
    | some q' =>
      rw [onceF_stay hk (by omega : k ≤ k + 1)] at h
      cases h
      obtain ⟨i, hi, e⟩ := ih hk
      exact ⟨i, by omega, e⟩
def raiF (r : Nat) (ts : List Int) (p : List Stp) (i : Nat) : Option (List Stp) := raiS r (refl r ts i) i p
def raiO (r : Nat) (ts : List Int) (p : List Stp) : Option (List Stp) := onceF (raiF r ts p) r
theorem raiO_path {r : Nat} {ts : List Int} {p q : List Stp} (h : raiO r ts p = some q) : pathB r q = true := by
  obtain ⟨i, _, hi⟩ := onceF_found h
  exact raiS_path hi
/-- raised until it cannot be, in so many rounds -/
def highF {β : Type} (F : β → Option β) : Nat → β → Option β
  | 0, _ => none
  | k + 1, p => match F p with
    | none => some p
    | some q => highF F k q
theorem highF_none {β : Type} {F : β → Option β} {p : β} (h : F p = none) {k : Nat} (hk : k ≤ 400) : highF F (401 - k) p = some p := by
  rw [show 401 - k = (400 - k) + 1 by omega]
  unfold highF
  rw [h]
theorem highF_some {β : Type} {F : β → Option β} {p q : β} (h : F p = some q) {k : Nat} (hk : k ≤ 400) : highF F (401 - k) p = highF F (401 - (k + 1)) q := by
  rw [show 401 - k = (401 - (k + 1)) + 1 by omega]
  conv => lhs; unfold highF
  rw [h]
theorem highF_path {r : Nat} {ts : List Int} : ∀ {k : Nat} {p q : List Stp}, pathB r p = true → highF (raiO r ts) k p = some q → pathB r q = true
  | 0, _, _, _, h => by cases h
  | k + 1, p, q, hp, h => by
    unfold highF at h
    cases hF : raiO r ts p with
    | none =>
      rw [hF] at h
      cases h
      exact hp
    | some p' =>
      rw [hF] at h
      exact highF_path (raiO_path hF) h
def highR (r : Nat) (ts : List Int) (p : List Stp) : Bool × List Stp := optJ (highF (raiO r ts) 401 p)
def highT (r : Int) (ts : List Int) (p : List Stp) : Bool × List Stp := if typeB r ts && pathB r.toNat p then highR r.toNat ts p else (false, [])
theorem highT_ok (r : Int) (ts : List Int) (p : List Stp) : ResOk (highT r ts p) := by
  unfold highT
  split
  · rename_i h
    simp only [Bool.and_eq_true] at h
    have := typeB_rank h.1
    unfold highR
    cases hF : highF (raiO r.toNat ts) 401 p with
    | none => exact .inl rfl
    | some q => exact .inr ⟨r.toNat, by omega, highF_path h.2 hF⟩
  · exact .inl rfl
theorem normal_of_path {r : Nat} {p : List Stp} (h : PathP r p) : Normal p := by
  refine ⟨fun s hs => ?_, ?_, h.ne⟩
  · obtain ⟨k, hk, rfl⟩ := List.getElem_of_mem hs
    have := (h.dur k hk).1
    simp only [lenAt, List.getD_eq_getElem?_getD, List.getElem?_eq_getElem hk, Option.getD_some] at this
    omega
  · clear h
    induction p with
    | nil => exact .nil
    | cons a t ih => exact .cons (fun _ _ => trivial) ih
theorem join_path {r : Nat} {p : List Stp} (h : PathP r p) : joinS p = p :=
  join_unique (fun s hs => by have := (normal_of_path h).1 s hs; omega) (normal_of_path h) rfl

set_option maxHeartbeats 4000000 in
theorem raisedOnce_any (R : Nat) (ta : Option Addr) (tn tc : Nat) (ts : List Int) (a : Option Addr) (n c : Nat) (xs : List Stp) (w : World) (hc : IntsAt w ta tn ts) (hT : typeB R ts = true) (h : StepsAt w a n xs) (hp : PathP R xs)
    (HIs : ∀ w', Ext w w' → Calls Tryz.prog 77 #[carV R ta tn tc] w' fun e w'' => e = .returned (.bool (typeB R ts)) ∧ Ext w' w'') :
    PathRes 65 #[carV R ta tn tc, .slice a n c] w (optJ (raiO R ts xs)) := by
  unfold PathRes
  obtain ⟨⟨J1, J2⟩, hJ⟩ : ∃ J, J = optJ (raiO R ts xs) := ⟨_, rfl⟩
  rw [← hJ]
  have HJ := hidP hJ
  clear hJ
  dsimp only
  have hx1 := Ext.alloc w (.cells #[.int .i64 R, .slice ta tn tc] 31)
  have HC := hidP (fun w' (hx : Ext (w.alloc (.cells #[.int .i64 R, .slice ta tn tc] 31)) w') => (CarAt.new w _ rfl (R : Int) ta tn tc 31).below hx)
  have HX1 := hidP hx1
  have HRa := hidP (fun w' (hx : Ext (w.alloc (.cells #[.int .i64 R, .slice ta tn tc] 31)) w') (i : Nat) (hi : i < R) => raised_any R ta tn tc ts i a n c xs w' (hc.below (hx1.trans hx)) hT hi (h.below (hx1.trans hx)) hp (fun w'' hx' => HIs w'' (hx1.trans (hx.trans hx'))))
  unfold PathRes at HRa
  have hR4 : R ≤ 4 := by have := typeB_rank hT; omega
  obtain ⟨w1, hw1⟩ : ∃ w1, w1 = w.alloc (.cells #[.int .i64 R, .slice ta tn tc] 31) := ⟨_, rfl⟩
  rw [← hw1] at HC HX1 HRa
  obtain ⟨f0, f1⟩ := HC.out w1 (Ext.refl w1)
  clear hc h hx1 HIs hT
  go_enter Tryz.func65, Tryz.ntmps65
  go_wp2_with fail
  rw [← hw1]
  clear hw1
  go_wp2
  go_loopw [11] (fun ii wr => ∃ i : Nat, i ≤ R ∧ ii = .int .i64 i ∧ Hid (onceF (raiF R ts xs) i = none) ∧ Hid (Ext w1 wr)) (fun ii _ => R - (intOf ii).toNat)
  case atStart => exact ⟨0, by omega, rfl, rfl, Ext.refl _⟩
  case round =>
    obtain ⟨i, hi, rfl, HF, HX⟩ := hrel
    obtain ⟨g0, g1⟩ := HC.out wr HX.out
    by_cases hlt : i < R
    · have hlt2 : (i : Int) < (R : Int) := by omega
      have HRi := HRa.out wr HX.out i hlt
      unfold raiR at HRi
      cases hF : raiF R ts xs i with
      | none =>
        have HN : Hid (onceF (raiF R ts xs) (i + 1) = none) := by
          show _ = _
          rw [onceF_step HF.out, hF]
        unfold raiF at hF
        rw [hF] at HRi
        have HRi := hidP HRi
        clear hF
        go_wp2_with fail
        refine HRi.out.mono ?_
        rintro e w3 ⟨a3, n3, c3, hs3, rfl, ho3, hx3⟩
        have HX3 := hidP (HX.out.trans hx3)
        clear ho3 hx3 HRi g0 g1 f0 f1
        dsimp only [optJ]
        go_wp2
        go_roundw
        case rel => exact ⟨i + 1, by omega, by go_num, HN, HX3⟩
        case measure => simp [intOf]; omega
      | some q =>
        have HN : Hid (onceF (raiF R ts xs) R = some q) := by
          show _ = _
          exact onceF_stay ((onceF_step HF.out).trans hF) (by omega)
        unfold raiF at hF
        rw [hF] at HRi
        have HRi := hidP HRi
        have HE : Hid ((J1, J2) = (true, q)) := by
          show _ = _
          rw [HJ.out]
          unfold raiO
          rw [HN.out]
          rfl
        obtain ⟨rfl, rfl⟩ := Prod.mk.inj HE.out
        clear hF HE
        go_wp2_with fail
        refine HRi.out.mono ?_
        rintro e w3 ⟨a3, n3, c3, hs3, rfl, ho3, hx3⟩
        have HX3 := hidP (HX1.out.trans (HX.out.trans hx3))
        have HO3 := hidP (ho3.weaken (HX1.out.trans HX.out).size (Nat.le_refl _))
        clear ho3 hx3 HRi g0 g1 f0 f1
        dsimp only [optJ]
        go_wp2
        refine bodyPost_ret (v := .tuple #[.slice a3 n3 c3, .bool true]) (by simp [results, Tryz.results65, go_sem]) rfl ⟨a3, n3, c3, hs3, rfl, HO3.out, HX3.out⟩
    · obtain rfl : i = R := by omega
      have HE : Hid ((J1, J2) = (false, [])) := by
        show _ = _
        rw [HJ.out]
        unfold raiO
        rw [HF.out]
        rfl
      obtain ⟨rfl, rfl⟩ := Prod.mk.inj HE.out
      clear HE
      go_wp2
      refine bodyPost_ret (v := .tuple #[.slice none 0 0, .bool false]) (by simp [results, Tryz.results65, go_sem]) rfl ⟨none, 0, 0, [], rfl, OwnK.nil stepK _ _ _, HX1.out.trans HX.out⟩

set_option maxHeartbeats 4000000 in
theorem highestPath_any (r : Int) (ta : Option Addr) (tn tc : Nat) (ts : List Int) (a : Option Addr) (n c : Nat) (xs : List Stp) (w : World) (hc : IntsAt w ta tn ts) (hcn : tn ≤ 9223372036854775807)
    (h : StepsAt w a n xs) (hnc : n ≤ c) (hcc : c ≤ 9223372036854775807) (hm : MaxL w) :
    PathRes 25 #[carV r ta tn tc, .slice a n c] w (highT r ts xs) := by
  unfold PathRes
  have hn : n ≤ 9223372036854775807 := by omega
  have hx1 := Ext.alloc w (.cells #[.int .i64 r, .slice ta tn tc] 31)
  have HC := hidP (fun w' (hx : Ext (w.alloc (.cells #[.int .i64 r, .slice ta tn tc] 31)) w') => (CarAt.new w _ rfl r ta tn tc 31).below hx)
  have HX1 := hidP hx1
  have H := hidP h
  have Hc := hidP hc
  have HIs := hidP (fun w' (hx : Ext w w') => isCartan_any r ta tn tc ts w' (hc.below hx) hcn (hm.below hx))
  have HP := hidP (pathOk_of r ta tn tc ts a n c xs _ (h.below hx1).terms hn (fun w' hx => HIs.out w' (hx1.trans hx)))
  have hs1 : w.heap.size ≤ (w.alloc (.cells #[.int .i64 r, .slice ta tn tc] 31)).heap.size := hx1.size
  clear hc h hx1 hm
  obtain ⟨w1, hw1⟩ : ∃ w1, w1 = w.alloc (.cells #[.int .i64 r, .slice ta tn tc] 31) := ⟨_, rfl⟩
  rw [← hw1] at HC HX1 HP hs1
  have HS1 := hidP hs1
  clear hs1
  obtain ⟨f0, f1⟩ := HC.out w1 (Ext.refl w1)
  cases hT : (typeB r ts && pathB r.toNat xs)
  · have HR : Hid (highT r ts xs = (false, [])) := by
      show _ = _
      unfold highT
      rw [hT]
      rfl
    rw [hT] at HP
    clear hT
    go_enter Tryz.func25, Tryz.ntmps25
    go_wp2_with fail
    rw [← hw1]
    clear hw1
    refine HP.out.mono ?_
    rintro e w2 ⟨rfl, hx⟩
    have HX := hidP hx
    clear hx
    go_wp2
    refine bodyPost_ret (v := .tuple #[.slice none 0 0, .bool false]) (by simp [results, Tryz.results25, go_sem]) rfl ⟨none, 0, 0, [], by rw [HR.out], ?_, HX1.out.trans HX.out⟩
    rw [HR.out]
    exact OwnK.nil stepK _ _ _
  · have hT2 : typeB r ts = true := by
      simp only [Bool.and_eq_true] at hT
      exact hT.1
    have hP1 : pathB r.toNat xs = true := by
      simp only [Bool.and_eq_true] at hT
      exact hT.2
    obtain ⟨hr1, hr4, _⟩ := typeB_rank hT2
    obtain ⟨R, rfl⟩ : ∃ R : Nat, r = R := ⟨r.toNat, by omega⟩
    rw [Int.toNat_natCast] at hP1
    have HR : Hid (highT R ts xs = optJ (highF (raiO R ts) 401 xs)) := by
      show _ = _
      unfold highT
      rw [hT]
      rfl
    rw [HR.out]
    obtain ⟨⟨J1, J2⟩, hJ⟩ : ∃ J, J = optJ (highF (raiO R ts) 401 xs) := ⟨_, rfl⟩
    rw [← hJ]
    have HJ := hidP hJ
    dsimp only
    obtain ⟨hl1, hk1⟩ := pathB_small hP1
    have hnl := H.out.len
    have HCp := hidP (fun w' (hx : Ext w1 w') => copySteps_any a n c xs w' (H.out.below (HX1.out.trans hx)) (by omega) (fun k hk => by have := hk1 k (by omega); omega))
    have HPp := hidP (pathB_iff.1 hP1)
    have HRo := hidP (fun w' (hx : Ext w1 w') (a' : Option Addr) (n' c' : Nat) (hs' : List Hdr) (ys : List Stp) (ho : OwnK stepK w' w.heap.size w'.heap.size a' n' c' hs' ys) (hp : PathP R ys) => raisedOnce_any R ta tn tc ts a' n' c' ys w' (Hc.out.below (HX1.out.trans hx)) hT2 ho.stepsAt hp (fun w'' hx' => HIs.out w'' ((HX1.out.trans hx).trans hx')))
    unfold PathRes at HRo
    rw [hT] at HP
    clear hT hT2 hP1 hJ HR hnl hk1 hl1
    go_enter Tryz.func25, Tryz.ntmps25
    go_wp2_with fail
    rw [← hw1]
    clear hw1
    refine HP.out.mono ?_
    rintro e w2 ⟨rfl, hx⟩
    have HX := hidP hx
    clear hx f0 f1
    go_wp2_with fail
    refine (HCp.out _ HX.out).mono ?_
    rintro e w3 ⟨g, c', hs', rfl, ho, hx⟩
    have HX3 := hidP (HX.out.trans hx)
    have HO3 := hidP (ho.weaken (HX1.out.trans HX.out).size (Nat.le_refl _))
    clear ho hx HX
    go_wp2
    go_loopw [6, 7] (fun pp kk wr => ∃ (k : Nat) (a' : Option Addr) (n' c' : Nat) (hs' : List Hdr) (ys : List Stp), k ≤ 400 ∧ pp = .slice a' n' c' ∧ kk = .int .i64 k ∧ Hid (highF (raiO R ts) 401 xs = highF (raiO R ts) (401 - k) ys) ∧ Hid (PathP R ys) ∧ Hid (OwnK stepK wr w.heap.size wr.heap.size a' n' c' hs' ys) ∧ Hid (Ext w1 wr)) (fun _ kk _ => 401 - (intOf kk).toNat)
    case atStart => exact ⟨0, _, _, _, _, _, by omega, rfl, rfl, rfl, HPp, HO3, HX3⟩
    case round =>
      obtain ⟨k, a', n', c', hs', ys, hk, rfl, rfl, HF, HPy, HO, HX⟩ := hrel
      obtain ⟨g0, g1⟩ := HC.out wr HX.out
      have HRi := HRo.out wr HX.out a' n' c' hs' ys HO.out HPy.out
      cases hF : raiO R ts ys with
      | none =>
        rw [hF] at HRi
        have HRi := hidP HRi
        have HE : Hid ((J1, J2) = (true, ys)) := by
          show _ = _
          rw [HJ.out, HF.out, highF_none hF hk]
          rfl
        obtain ⟨rfl, rfl⟩ := Prod.mk.inj HE.out
        clear hF HE
        go_wp2_with fail
        refine HRi.out.mono ?_
        rintro e w4 ⟨a4, n4, c4, hs4, rfl, ho4, hx4⟩
        have HX4 := hidP (HX1.out.trans (HX.out.trans hx4))
        have HO4 := hidP ((HO.out.below hx4).weaken (Nat.le_refl _) hx4.size)
        clear ho4 hx4 HRi g0 g1
        dsimp only [optJ]
        go_wp2
        refine bodyPost_ret (v := .tuple #[.slice a' n' c', .bool true]) (by simp [results, Tryz.results25, go_sem]) rfl ⟨a', n', c', hs', rfl, HO4.out, HX4.out⟩
      | some q =>
        rw [hF] at HRi
        have HRi := hidP HRi
        have HFn : Hid (highF (raiO R ts) 401 xs = highF (raiO R ts) (401 - (k + 1)) q) := by
          show _ = _
          rw [HF.out, highF_some hF hk]
        have HPq := hidP (pathB_iff.1 (raiO_path hF))
        clear hF
        by_cases h4 : k = 400
        · have HE : Hid ((J1, J2) = (false, [])) := by
            show _ = _
            rw [HJ.out, HFn.out, h4]
            rfl
          obtain ⟨rfl, rfl⟩ := Prod.mk.inj HE.out
          subst h4
          clear HE
          go_wp2_with fail
          refine HRi.out.mono ?_
          rintro e w4 ⟨a4, n4, c4, hs4, rfl, ho4, hx4⟩
          have HX4 := hidP (HX1.out.trans (HX.out.trans hx4))
          clear ho4 hx4 HRi g0 g1
          dsimp only [optJ]
          go_wp2
          refine bodyPost_ret (v := .tuple #[.slice none 0 0, .bool false]) (by simp [results, Tryz.results25, go_sem]) rfl ⟨none, 0, 0, [], rfl, OwnK.nil stepK _ _ _, HX4.out⟩
        · have h5 : ((k : Int) == 400) = false := by
            simp only [beq_eq_false_iff_ne, ne_eq]
            omega
          have h6 : k < 400 := by omega
          clear h4
          go_wp2_with fail
          refine HRi.out.mono ?_
          rintro e w4 ⟨a4, n4, c4, hs4, rfl, ho4, hx4⟩
          have HX4 := hidP (HX.out.trans hx4)
          have HO4 := hidP (ho4.weaken (HX1.out.trans HX.out).size (Nat.le_refl _))
          clear ho4 hx4 HRi g0 g1
          dsimp only [optJ]
          go_wp2
          go_roundw
          case rel => exact ⟨k + 1, a4, n4, c4, hs4, q, by omega, rfl, by go_num, HFn, HPq, HO4, HX4⟩
          case measure => simp [intOf]; omega
end Go.Proofs.YtfikkfbnlegflaaGreatDoor

namespace Go.Proofs.YtfikkfbnlegflaaGreatDoor
open Go.RowKit

theorem stepsAt_nil (w : World) : StepsAt w none 0 [] := ⟨rfl, fun k hk => by omega⟩

set_option maxHeartbeats 4000000 in
theorem sHighestPath_any (r : Int) (ta : Option Addr) (tn tc : Nat) (ts : List Int) (a : Option Addr) (n c : Nat) (xs : List Stp) (w : World) (hc : IntsAt w ta tn ts) (hcn : tn ≤ 9223372036854775807)
    (h : StepsAt w a n xs) (hnc : n ≤ c) (hcc : c ≤ 9223372036854775807) :
    PathRes 24 #[carV r ta tn tc, .slice a n c] w (highT r ts xs) := by
  unfold PathRes
  have hn : n ≤ 9223372036854775807 := by omega
  have hx1 := Ext.alloc w (.cells #[.int .i64 r, .slice ta tn tc] 31)
  have HC := hidP (fun w' (hx : Ext (w.alloc (.cells #[.int .i64 r, .slice ta tn tc] 31)) w') => (CarAt.new w _ rfl r ta tn tc 31).below hx)
  have HX1 := hidP hx1
  have H := hidP h
  have Hc := hidP hc
  have HP := hidP (sPathOk_any r ta tn tc ts a n c xs _ (hc.below hx1) hcn (h.below hx1).terms hn)
  have hs1 : w.heap.size ≤ (w.alloc (.cells #[.int .i64 r, .slice ta tn tc] 31)).heap.size := hx1.size
  clear hc h hx1
  obtain ⟨w1, hw1⟩ : ∃ w1, w1 = w.alloc (.cells #[.int .i64 r, .slice ta tn tc] 31) := ⟨_, rfl⟩
  rw [← hw1] at HC HX1 HP hs1
  have HS1 := hidP hs1
  clear hs1
  obtain ⟨f0, f1⟩ := HC.out w1 (Ext.refl w1)
  cases hT : (typeB r ts && pathB r.toNat xs)
  · have HR : Hid (highT r ts xs = (false, [])) := by
      show _ = _
      unfold highT
      rw [hT]
      rfl
    rw [hT] at HP
    clear hT
    go_enter Tryz.func24, Tryz.ntmps24
    go_wp2_with fail
    rw [← hw1]
    clear hw1
    refine HP.out.mono ?_
    rintro e w2 ⟨rfl, hx⟩
    have HX := hidP hx
    clear hx
    go_wp2
    refine bodyPost_ret (v := .tuple #[.slice none 0 0, .bool false]) (by simp [results, Tryz.results24, go_sem]) rfl ⟨none, 0, 0, [], by rw [HR.out], ?_, HX1.out.trans HX.out⟩
    rw [HR.out]
    exact OwnK.nil stepK _ _ _
  · have hT2 : typeB r ts = true := by
      simp only [Bool.and_eq_true] at hT
      exact hT.1
    have hP1 : pathB r.toNat xs = true := by
      simp only [Bool.and_eq_true] at hT
      exact hT.2
    obtain ⟨hr1, hr4, _⟩ := typeB_rank hT2
    obtain ⟨R, rfl⟩ : ∃ R : Nat, r = R := ⟨r.toNat, by omega⟩
    rw [Int.toNat_natCast] at hP1
    have HR : Hid (highT R ts xs = optJ (highF (raiO R ts) 401 xs)) := by
      show _ = _
      unfold highT
      rw [hT]
      rfl
    rw [HR.out]
    obtain ⟨⟨J1, J2⟩, hJ⟩ : ∃ J, J = optJ (highF (raiO R ts) 401 xs) := ⟨_, rfl⟩
    rw [← hJ]
    have HJ := hidP hJ
    dsimp only
    obtain ⟨hl1, hk1⟩ := pathB_small hP1
    have hnl := H.out.len
    have HPp := hidP (pathB_iff.1 hP1)
    have HCp := hidP (fun w' (hx : Ext w1 w') => l9Join_any none 0 0 [] a n c xs w' (stepsAt_nil w') (H.out.below (HX1.out.trans hx)) (by omega) (fun k hk => by omega) (fun k hk => by have := hk1 k (by omega); omega))
    rw [List.nil_append, join_path HPp.out] at HCp
    have HRo := hidP (fun w' (hx : Ext w1 w') (i : Nat) (hi : i < R) (a' : Option Addr) (n' c' : Nat) (hs' : List Hdr) (ys : List Stp) (ho : OwnK stepK w' w.heap.size w'.heap.size a' n' c' hs' ys) (hp : PathP R ys) => l9RaisePath_any R ta tn tc ts i a' n' c' ys w' (Hc.out.below (HX1.out.trans hx)) hT2 hi ho.stepsAt hp)
    unfold PathRes at HRo
    rw [hT] at HP
    clear hT hT2 hP1 hJ HR hnl hk1 hl1
    go_enter Tryz.func24, Tryz.ntmps24
    go_wp2_with fail
    rw [← hw1]
    clear hw1
    refine HP.out.mono ?_
    rintro e w2 ⟨rfl, hx⟩
    have HX := hidP hx
    clear hx f0 f1
    go_wp2_with fail
    refine (HCp.out _ HX.out).mono ?_
    rintro e w3 ⟨a0, n0, c0, hs', rfl, ho, hx⟩
    have HX3 := hidP (HX.out.trans hx)
    have HO3 := hidP (ho.weaken (HX1.out.trans HX.out).size (Nat.le_refl _))
    clear ho hx HX
    go_wp2
    go_loopw [6, 7] (fun pp kk wr => ∃ (k : Nat) (a' : Option Addr) (n' c' : Nat) (hs' : List Hdr) (ys : List Stp), k ≤ 401 ∧ pp = .slice a' n' c' ∧ kk = .int .i64 k ∧ Hid (highF (raiO R ts) 401 xs = highF (raiO R ts) (401 - k) ys) ∧ Hid (PathP R ys) ∧ Hid (OwnK stepK wr w.heap.size wr.heap.size a' n' c' hs' ys) ∧ Hid (Ext w1 wr)) (fun _ kk _ => 401 - (intOf kk).toNat)
    case atStart => exact ⟨0, _, _, _, _, _, by omega, rfl, rfl, rfl, HPp, HO3, HX3⟩
    case round =>
      obtain ⟨k, a1, n1, c1, hs1, ys, hk, rfl, rfl, HF, HPy, HO, HX⟩ := hrel
      by_cases h4 : k ≤ 400
      · have h5 : (k : Int) ≤ 400 := by omega
        go_wp2
        go_loopw [6, 8, 9] (fun pp mm ii wr' => ∃ (i : Nat) (b : Bool) (a' : Option Addr) (n' c' : Nat) (hs' : List Hdr) (zs : List Stp), i ≤ R ∧ pp = .slice a' n' c' ∧ mm = .bool b ∧ ii = .int .i64 i ∧ Hid (b = false → zs = ys ∧ onceF (raiF R ts ys) i = none) ∧ Hid (b = true → raiO R ts ys = some zs) ∧ Hid (PathP R zs) ∧ Hid (OwnK stepK wr' w.heap.size wr'.heap.size a' n' c' hs' zs) ∧ Hid (Ext w1 wr')) (fun _ _ ii _ => R - (intOf ii).toNat)
        case atStart => exact ⟨0, false, a1, n1, c1, hs1, ys, by omega, rfl, rfl, rfl, fun _ => ⟨rfl, rfl⟩, fun e => (by cases e), HPy, HO, HX⟩
        case round =>
          obtain ⟨i, b, a', n', c', hs', zs, hi, rfl, rfl, rfl, HB0, HB1, HPz, HO2, HX2⟩ := hrel
          obtain ⟨g0, g1⟩ := HC.out wr HX2.out
          by_cases hlt : i < R
          · have hlt2 : (i : Int) < (R : Int) := by omega
            cases b with
            | true =>
              have HFn : Hid (highF (raiO R ts) 401 xs = highF (raiO R ts) (401 - (k + 1)) zs) := by
                show _ = _
                rw [HF.out, highF_some (HB1.out rfl) h4]
              clear HB0 HB1
              go_wp2
              go_roundw
              case rel => exact ⟨k + 1, a', n', c', hs', zs, by omega, rfl, by go_num, HFn, HPz, HO2, HX2⟩
              case measure => simp [intOf]; omega
            | false =>
              obtain ⟨rfl, HN0⟩ := HB0.out rfl
              have HN0 := hidP HN0
              clear HB0 HB1
              have HRi := HRo.out wr HX2.out i hlt a' n' c' hs' zs HO2.out HPz.out
              unfold raiR at HRi
              cases hF : raiF R ts zs i with
              | none =>
                have HN : Hid (onceF (raiF R ts zs) (i + 1) = none) := by
                  show _ = _
                  rw [onceF_step HN0.out, hF]
                unfold raiF at hF
                rw [hF] at HRi
                have HRi := hidP HRi
                clear hF
                go_wp2_with fail
                refine HRi.out.mono ?_
                rintro e w4 ⟨a4, n4, c4, hs4, rfl, ho4, hx4⟩
                have HX4 := hidP (HX2.out.trans hx4)
                have HO4 := hidP ((HO2.out.below hx4).weaken (Nat.le_refl _) hx4.size)
                clear ho4 hx4 HRi g0 g1
                dsimp only [optJ]
                go_wp2
                go_roundw
                case rel => exact ⟨i + 1, false, a', n', c', hs', zs, by omega, rfl, rfl, by go_num, fun _ => ⟨rfl, HN.out⟩, fun e => (by cases e), HPz, HO4, HX4⟩
                case measure => simp [intOf]; omega
              | some q =>
                have HN : Hid (raiO R ts zs = some q) := by
                  show _ = _
                  exact onceF_stay ((onceF_step HN0.out).trans hF) (by omega)
                have HPq := hidP (pathB_iff.1 (raiO_path HN.out))
                unfold raiF at hF
                rw [hF] at HRi
                have HRi := hidP HRi
                clear hF
                go_wp2_with fail
                refine HRi.out.mono ?_
                rintro e w4 ⟨a4, n4, c4, hs4, rfl, ho4, hx4⟩
                have HX4 := hidP (HX2.out.trans hx4)
                have HO4 := hidP (ho4.weaken (HX1.out.trans HX2.out).size (Nat.le_refl _))
                clear ho4 hx4 HRi g0 g1
                dsimp only [optJ]
                go_wp2
                go_roundw
                case rel => exact ⟨i + 1, true, a4, n4, c4, hs4, q, by omega, rfl, rfl, by go_num, fun e => by (cases e), fun _ => HN.out, HPq, HO4, HX4⟩
                case measure => simp [intOf]; omega
          · obtain rfl : i = R := by omega
            cases b with
            | true =>
              have HFn : Hid (highF (raiO i ts) 401 xs = highF (raiO i ts) (401 - (k + 1)) zs) := by
                show _ = _
                rw [HF.out, highF_some (HB1.out rfl) h4]
              clear HB0 HB1
              go_wp2
              go_roundw
              case rel => exact ⟨k + 1, a', n', c', hs', zs, by omega, rfl, by go_num, HFn, HPz, HO2, HX2⟩
              case measure => simp [intOf]; omega
            | false =>
              obtain ⟨rfl, HN0⟩ := HB0.out rfl
              have HE : Hid ((J1, J2) = (true, zs)) := by
                show _ = _
                rw [HJ.out, HF.out, highF_none HN0 h4]
                rfl
              obtain ⟨rfl, rfl⟩ := Prod.mk.inj HE.out
              clear HE HB0 HB1 HN0
              go_wp2
              refine bodyPost_ret (v := .tuple #[.slice a' n' c', .bool true]) (by simp [results, Tryz.results24, go_sem]) rfl ⟨a', n', c', hs', rfl, HO2.out, HX1.out.trans HX2.out⟩
      · obtain rfl : k = 401 := by omega
        have HE : Hid ((J1, J2) = (false, [])) := by
          show _ = _
          rw [HJ.out, HF.out]
          rfl
        obtain ⟨rfl, rfl⟩ := Prod.mk.inj HE.out
        clear HE h4
        go_wp2
        refine bodyPost_ret (v := .tuple #[.slice none 0 0, .bool false]) (by simp [results, Tryz.results24, go_sem]) rfl ⟨none, 0, 0, [], rfl, OwnK.nil stepK _ _ _, HX1.out.trans HX.out⟩
end Go.Proofs.YtfikkfbnlegflaaGreatDoor

namespace Go.Proofs.YtfikkfbnlegflaaGreatDoor
open Go.RowKit

def plusV (xs : List Int) (l : Int) (ys : List Int) : List Int := (List.range xs.length).map fun j => xs.getD j 0 + l * ys.getD j 0
theorem plusV_length (xs : List Int) (l : Int) (ys : List Int) : (plusV xs l ys).length = xs.length := by simp [plusV]
theorem plusV_get (xs : List Int) (l : Int) (ys : List Int) (k : Nat) (hk : k < xs.length) : (plusV xs l ys).getD k 0 = xs.getD k 0 + l * ys.getD k 0 := by
  simp [plusV, List.getD_eq_getElem?_getD, hk]
/-- no sum leaves the range -/
def PlusIn (xs : List Int) (l : Int) (ys : List Int) : Prop := ∀ j, j < xs.length → (-1000000000000 ≤ l * ys.getD j 0 ∧ l * ys.getD j 0 ≤ 1000000000000) ∧ (-1000000000000 ≤ xs.getD j 0 ∧ xs.getD j 0 ≤ 1000000000000)
structure PlStep (xs : List Int) (l : Int) (ys : List Int) (k : Nat) (A Z : Int) : Prop where
  mul : IntKind.i64.wrap (l * Z) = l * Z
  add : IntKind.i64.wrap (A + l * Z) = A + l * Z
  res : (plusV xs l ys).getD k 0 = A + l * Z
theorem pl_step {xs : List Int} {l : Int} {ys : List Int} (h : PlusIn xs l ys) {k : Nat} (hk : k < xs.length) : PlStep xs l ys k (xs.getD k 0) (ys.getD k 0) := by
  obtain ⟨⟨h1, h2⟩, h3, h4⟩ := h k hk
  exact ⟨wrap_in (by omega) (by omega), wrap_in (by omega) (by omega), plusV_get _ _ _ _ hk⟩

set_option maxHeartbeats 2000000 in
theorem listPlus_any (a : Option Addr) (n c : Nat) (xs : List Int) (l : Int) (b : Option Addr) (m d : Nat) (ys : List Int) (w : World) (h : IntsAt w a n xs) (hnil : a = none → c = 0) (hn : n ≤ 1000000) (h2 : IntsAt w b m ys) (hnm : n = m) (hb : PlusIn xs l ys) :
    Calls Tryz.prog 112 #[.slice a n c, .int .i64 l, .slice b m d] w fun e w' => ∃ a' c', e = .returned (.slice a' n c') ∧ OwnI w' w.heap.size a' n c' (plusV xs l ys) ∧ Ext w w' := by
  subst hnm
  have HCl := hidP (clone_any a n c xs w h hnil (by omega))
  have HI := hidP h2
  have HB := hidP hb
  have HW := hidP h.len
  have HL : Hid ((plusV xs l ys).length = n) := (plusV_length _ _ _).trans h.len
  clear h hnil h2 hb
  go_enter Tryz.func112, Tryz.ntmps112
  go_wp2_with fail
  refine HCl.out.mono ?_
  rintro e w2 ⟨a1, c1, rfl, ho, hx⟩
  have HX2 := hidP hx
  have HO2 := hidP ho
  clear ho hx HCl
  go_wp2
  go_loopw [14] (fun ii wr => ∃ k : Nat, k ≤ n ∧ ii = .int .i64 k ∧ Hid (OwnI wr w.heap.size a1 n c1 (partly xs (plusV xs l ys) k)) ∧ Hid (Ext w wr)) (fun ii _ => n - (intOf ii).toNat)
  case atStart => exact ⟨0, Nat.zero_le _, rfl, by rw [partly_zero]; exact HO2, HX2⟩
  case round =>
    obtain ⟨k, hk, rfl, HO, HX⟩ := hrel
    by_cases hlt : k < n
    · have hst := pl_step HB.out (k := k) (by rw [HW.out]; exact hlt)
      obtain ⟨A, hA⟩ : ∃ A, A = xs.getD k 0 := ⟨_, rfl⟩
      obtain ⟨Z, hZ⟩ : ∃ Z, Z = ys.getD k 0 := ⟨_, rfl⟩
      rw [← hA, ← hZ] at hst
      obtain ⟨b', o', rfl, hwk⟩ := HI.out.one k hlt
      rw [← hZ] at hwk
      have q2 := hwk wr HX.out
      obtain ⟨g, rfl, hg1, _, q1, q3⟩ := HO.out.cell k hlt
      rw [partly_at _ _ _ (by rw [HL.out]; omega), ← hA] at q1
      have hmul := hst.mul
      have hadd := hst.add
      have HSt : Hid (OwnI (wr.setCell ⟨g, k, none⟩ (.int .i64 (A + l * Z))) w.heap.size (some ⟨g, 0, none⟩) n c1 (partly xs (plusV xs l ys) (k + 1))) := by
        have h1 := HO.out.stored k (A + l * Z)
        rw [← hst.res] at h1
        rw [partly_succ xs (plusV xs l ys) n k hlt HW.out HL.out] at h1
        rw [← hst.res]
        exact h1
      have HX3 : Hid (Ext w (wr.setCell ⟨g, k, none⟩ (.int .i64 (A + l * Z)))) := Ext.setNew HX.out _ _ hg1 _
      have hk0 : (0 : Int) ≤ (k : Int) := by omega
      have hkn : (k : Int) < (n : Int) := by omega
      clear hst hA hZ hwk hg1
      go_wp2
      go_roundw
      case rel => exact ⟨k + 1, by omega, by go_num, HSt, HX3⟩
      case measure => simp [intOf]; omega
    · obtain rfl : n = k := by omega
      have HD : Hid (partly xs (plusV xs l ys) n = plusV xs l ys) := partly_all _ _ _ HW.out HL.out
      rw [HD.out] at HO
      go_wp2
      go_ret
      exact ⟨_, _, rfl, HO.out, HX.out⟩
set_option maxHeartbeats 2000000 in
theorem l5Plus_any (a : Option Addr) (n c : Nat) (xs : List Int) (l : Int) (b : Option Addr) (m d : Nat) (ys : List Int) (w : World) (h : IntsAt w a n xs) (hnil : a = none → c = 0) (hn : n ≤ 1000000) (h2 : IntsAt w b m ys) (hnm : n = m) (hb : PlusIn xs l ys) :
    Calls Tryz.prog 136 #[.slice a n c, .int .i64 l, .slice b m d] w fun e w' => ∃ a' c', e = .returned (.slice a' n c') ∧ OwnI w' w.heap.size a' n c' (plusV xs l ys) ∧ Ext w w' := by
  subst hnm
  have HCl := hidP (l1Ints_any a n c xs w h hnil (by omega))
  have HI := hidP h2
  have HB := hidP hb
  have HW := hidP h.len
  have HL : Hid ((plusV xs l ys).length = n) := (plusV_length _ _ _).trans h.len
  clear h hnil h2 hb
  go_enter Tryz.func136, Tryz.ntmps136
  go_wp2_with fail
  refine HCl.out.mono ?_
  rintro e w2 ⟨a1, c1, rfl, ho, hx⟩
  have HX2 := hidP hx
  have HO2 := hidP ho
  clear ho hx HCl
  go_wp2
  go_loopw [8] (fun ii wr => ∃ k : Nat, k ≤ n ∧ ii = .int .i64 k ∧ Hid (OwnI wr w.heap.size a1 n c1 (partly xs (plusV xs l ys) k)) ∧ Hid (Ext w wr)) (fun ii _ => n - (intOf ii).toNat)
  case atStart => exact ⟨0, Nat.zero_le _, rfl, by rw [partly_zero]; exact HO2, HX2⟩
  case round =>
    obtain ⟨k, hk, rfl, HO, HX⟩ := hrel
    by_cases hlt : k < n
    · have hst := pl_step HB.out (k := k) (by rw [HW.out]; exact hlt)
      obtain ⟨A, hA⟩ : ∃ A, A = xs.getD k 0 := ⟨_, rfl⟩
      obtain ⟨Z, hZ⟩ : ∃ Z, Z = ys.getD k 0 := ⟨_, rfl⟩
      rw [← hA, ← hZ] at hst
      obtain ⟨b', o', rfl, hwk⟩ := HI.out.one k hlt
      rw [← hZ] at hwk
      have HWk := hidP (fun w' (hx : Ext wr w') => hwk w' (HX.out.trans hx))
      obtain ⟨g, rfl, hg1, _, _, _⟩ := HO.out.cell k hlt
      have HF : Hid (∀ w', Ext wr w' → w'.cell? ⟨g, k, none⟩ = some (.int .i64 A) ∧ w'.frozen? ⟨g, k, none⟩ = false ∧ w'.cell? ⟨b', o' + k, none⟩ = some (.int .i64 Z)) := by
        show ∀ w', _
        intro w' hx
        obtain ⟨g', e', _, _, q1, q2⟩ := (HO.out.below hx).cell k hlt
        simp only [Option.some.injEq, Addr.mk.injEq, and_true] at e'
        subst e'
        rw [partly_at _ _ _ (by rw [HL.out]; omega), ← hA] at q1
        exact ⟨q1, q2, HWk.out w' hx⟩
      have HSt : Hid (∀ w', Ext wr w' → OwnI (w'.setCell ⟨g, k, none⟩ (.int .i64 (A + l * Z))) w.heap.size (some ⟨g, 0, none⟩) n c1 (partly xs (plusV xs l ys) (k + 1))) := by
        show ∀ w', _
        intro w' hx
        have h1 := (HO.out.below hx).stored k (A + l * Z)
        rw [← hst.res] at h1
        rw [partly_succ xs (plusV xs l ys) n k hlt HW.out HL.out] at h1
        rw [← hst.res]
        exact h1
      have HG := hidP hg1
      have hmul := hst.mul
      have hadd := hst.add
      have hk0 : (0 : Int) ≤ (k : Int) := by omega
      have hkn : (k : Int) < (n : Int) := by omega
      clear hst hA hZ hwk hg1
      have hE : Ext wr wr.drew := Ext.drew wr
      go_wp2
      (refine walkR_start (fun w' => Ext wr w') 13 (by kernel_rfl) ?_; simp only [numbered, List.take_succ_cons, List.take_zero, Nat.zero_add, Nat.reduceAdd, List.length_cons, List.length_nil])
      (repeat (first | (refine walkR_still (v := ?_) rfl (by decide +kernel) rfl (fun _ _ _ h => h) hE ?_ ?_; rotate_left; (focus (intro w' hw'; obtain ⟨q1, q2, q3⟩ := HF.out w' hw'; go_simp; all_goals (with_reducible rfl))); simp only [Act.put, List.setIfInBounds_toArray, List.set_cons_zero, List.set_cons_succ]) | (refine walkR_skip rfl (by decide +kernel) rfl (fun _ _ _ h => h) hE ?_; simp only [Act.put, List.setIfInBounds_toArray, List.set_cons_zero, List.set_cons_succ])))
      (refine walkR_tail (by rfl) (by kernel_rfl) ?_; simp only [List.drop_succ_cons, List.drop_zero])
      obtain ⟨q1, q2, q3⟩ := HF.out _ hE
      have HO3 := hidP (HSt.out _ hE)
      have HX3 : Hid (Ext w (wr.drew.setCell ⟨g, k, none⟩ (.int .i64 (A + l * Z)))) := Ext.setNew (HX.out.trans hE) _ _ HG.out _
      clear hE
      go_wp2
      go_roundw
      case rel => exact ⟨k + 1, by omega, by go_num, HO3, HX3⟩
      case measure => simp [intOf]; omega
    · obtain rfl : n = k := by omega
      have HD : Hid (partly xs (plusV xs l ys) n = plusV xs l ys) := partly_all _ _ _ HW.out HL.out
      rw [HD.out] at HO
      go_wp2
      go_ret
      exact ⟨_, _, rfl, HO.out, HX.out⟩
end Go.Proofs.YtfikkfbnlegflaaGreatDoor

namespace Go.Proofs.YtfikkfbnlegflaaGreatDoor
open Go.RowKit

def endV (r : Nat) (p : List Stp) (k : Nat) : List Int := (List.range r).map fun j => htAt j p k
theorem endV_length (r : Nat) (p : List Stp) (k : Nat) : (endV r p k).length = r := by simp [endV]
theorem endV_get (r : Nat) (p : List Stp) (k j : Nat) (hj : j < r) : (endV r p k).getD j 0 = htAt j p k := by simp [endV, List.getD_eq_getElem?_getD, hj]
theorem endV_zero (r : Nat) (p : List Stp) : endV r p 0 = List.replicate r 0 := by
  apply List.ext_getElem
  · simp [endV]
  · intro j h1 h2
    simp [endV, htAt]
theorem endV_succ (r : Nat) (p : List Stp) (k : Nat) : plusV (endV r p k) (lenAt p k) (wayAt p k) = endV r p (k + 1) := by
  unfold plusV
  rw [endV_length]
  conv => rhs; unfold endV
  apply List.map_congr_left
  intro j hj
  rw [endV_get r p k j (List.mem_range.1 hj)]
  rfl
theorem plusIn_end {r : Nat} {p : List Stp} (h : PathP r p) {k : Nat} (hk : k < p.length) : PlusIn (endV r p k) (lenAt p k) (wayAt p k) := by
  intro j hj
  rw [endV_length] at hj
  rw [endV_get r p k j hj]
  obtain ⟨hd1, hd2⟩ := h.dur k hk
  obtain ⟨hw1, hw2⟩ := (h.way k hk).2 j hj
  have h1 : lenAt p k * (wayAt p k).getD j 0 ≤ lenAt p k * 1000 := Int.mul_le_mul_of_nonneg_left hw2 (by omega)
  have h2 : lenAt p k * (-1000) ≤ lenAt p k * (wayAt p k).getD j 0 := Int.mul_le_mul_of_nonneg_left hw1 (by omega)
  have h3 := ht_small h hj k (by omega)
  exact ⟨⟨by omega, by omega⟩, by omega, by omega⟩
/-- what a path's end is, where it is one -/
def endR (r : Nat) (p : List Stp) : Bool × List Int := if (endV r p p.length).all (fun x => x.tmod 27720 == 0) then (true, (endV r p p.length).map fun x => x.tdiv 27720) else (false, [])

set_option maxHeartbeats 2000000 in
theorem l9End_any (R : Nat) (ta : Option Addr) (tn tc : Nat) (a : Option Addr) (n c : Nat) (xs : List Stp) (w : World) (hR : 1 ≤ R ∧ R ≤ 4) (h : TermsAt w a n xs) (hp : PathP R xs) :
    Calls Tryz.prog 103 #[carV R ta tn tc, .slice a n c] w fun e w' => ∃ a' c', e = .returned (.slice a' R c') ∧ OwnI w' w.heap.size a' R c' (endV R xs n) ∧ Ext w w' := by
  have hx1 := Ext.alloc w (.cells #[.int .i64 R, .slice ta tn tc] 31)
  have HC := hidP (fun w' (hx : Ext (w.alloc (.cells #[.int .i64 R, .slice ta tn tc] 31)) w') => (CarAt.new w _ rfl (R : Int) ta tn tc 31).below hx)
  have HX1 := hidP hx1
  have G := hidP h
  have HP := hidP hp
  have hl := hidP h.len
  have hn60 : n ≤ 60 := by have := hp.len; have := h.len; omega
  obtain ⟨hR1, hR4⟩ := hR
  have hmk := make_ints (R : Int) (by omega) (by omega)
  simp only [Int.toNat_natCast] at hmk
  have HX0 := hidP (fun (w' : World) => Ext.alloc w' (.cells (Array.replicate R (.int .i64 0)) 3))
  have HO0 := hidP (fun (w' : World) (hx : w.heap.size ≤ w'.heap.size) => OwnI.made w' w.heap.size R hx (by unfold maxLen; omega))
  obtain ⟨w1, hw1⟩ : ∃ w1, w1 = w.alloc (.cells #[.int .i64 R, .slice ta tn tc] 31) := ⟨_, rfl⟩
  rw [← hw1] at HC HX1
  have HSE : Hid (w1.heap.size = w.heap.size + 1) := by
    show _ = _
    rw [hw1]
    simp
  obtain ⟨f0, f1⟩ := HC.out w1 (Ext.refl w1)
  clear h hp hx1
  go_enter Tryz.func103, Tryz.ntmps103
  go_wp2_with fail
  rw [← hw1]
  clear hw1
  try go_wp2
  clear hmk
  have HO1 : Hid (OwnI (w1.alloc (.cells (Array.replicate R (.int .i64 0)) 3)) w.heap.size (some ⟨w.heap.size + 1, 0, none⟩) R R (endV R xs 0)) := by
    show OwnI _ _ _ _ _ _
    rw [← HSE.out, endV_zero R xs]
    exact HO0.out w1 HX1.out.size
  have HX2 := hidP (HX0.out w1)
  clear HO0 HX0
  go_loopw [5, 6] (fun out ii wr => ∃ (k : Nat) (a' : Option Addr) (c' : Nat), k ≤ n ∧ out = .slice a' R c' ∧ ii = .int .i64 k ∧ Hid (OwnI wr w.heap.size a' R c' (endV R xs k)) ∧ Hid (Ext w1 wr)) (fun _ ii _ => n - (intOf ii).toNat)
  case atStart => exact ⟨0, _, _, Nat.zero_le _, rfl, rfl, HO1, HX2⟩
  case round =>
    obtain ⟨k, a', c', hk, rfl, rfl, HO, HX⟩ := hrel
    by_cases hlt : k < n
    · obtain ⟨b, o, aw, cw, W, L, rfl, HW, HL, hwl, hq⟩ := (G.out.below (HX1.out.trans HX.out)).way k hlt
      have HQ := hidP hq
      have hwr := (HP.out.way k (by have := hl.out; omega)).1
      rw [HW.out] at hwr
      have HIn := hidP (plusIn_end HP.out (k := k) (by have := hl.out; omega))
      have HNx := hidP (endV_succ R xs k)
      rw [HW.out, HL.out] at HIn HNx
      have HPl := hidP (fun w' (hx : Ext wr w') => l5Plus_any a' R c' (endV R xs k) L aw W.length cw W w' (HO.out.ints.below hx) HO.out.nil_cap (by omega) (hq w' hx).2.2 hwr.symm HIn.out)
      rw [HNx.out] at HPl
      have hk0 : (0 : Int) ≤ (k : Int) := by omega
      have hkn : (k : Int) < (n : Int) := by omega
      clear hwr hq
      have hE : Ext wr wr.drew := Ext.drew wr
      go_wp2
      (refine walkR_start (fun w' => Ext wr w') 12 (by kernel_rfl) ?_; simp only [numbered, List.take_succ_cons, List.take_zero, Nat.zero_add, Nat.reduceAdd, List.length_cons, List.length_nil])
      (repeat (first | (refine walkR_still (v := ?_) rfl (by decide +kernel) rfl (fun _ _ _ h => h) hE ?_ ?_; rotate_left; (focus (intro w' hw'; obtain ⟨q1, q2, _⟩ := HQ.out w' hw'; go_simp; all_goals (with_reducible rfl))); simp only [Act.put, List.setIfInBounds_toArray, List.set_cons_zero, List.set_cons_succ]) | (refine walkR_skip rfl (by decide +kernel) rfl (fun _ _ _ h => h) hE ?_; simp only [Act.put, List.setIfInBounds_toArray, List.set_cons_zero, List.set_cons_succ])))
      (refine walkR_only (fun w' => Ext wr w') rfl (by decide +kernel) rfl (fun _ h => h) ?_; intro K hK; go_simp; refine (HPl.out _ hE).mono ?_; rintro e w3 ⟨a3, c3, rfl, ho3, hx3⟩; refine hK _ _ (hE.trans hx3) ?_; clear hK K; (try simp only [Act.put, List.setIfInBounds_toArray, List.set_cons_zero, List.set_cons_succ]))
      have HO3 := hidP (ho3.base (B' := w.heap.size) (HX1.out.trans (HX.out.trans hE)).size)
      have HX3 := hidP (HX.out.trans (hE.trans hx3))
      clear ho3 hx3 hE
      (refine walkR_tail (by rfl) (by kernel_rfl) ?_; simp only [List.drop_succ_cons, List.drop_zero])
      go_wp2
      go_roundw
      case rel => exact ⟨k + 1, a3, c3, by omega, rfl, by go_num, HO3, HX3⟩
      case measure => simp [intOf]; omega
    · obtain rfl : n = k := by omega
      go_wp2
      go_ret
      exact ⟨_, _, rfl, HO.out, HX1.out.trans HX.out⟩
/-- the rounds of the division -/
theorem quo_at {E : List Int} {k : Nat} (hk : k < E.length) : (E.map fun x => x.tdiv 27720).getD k 0 = (E.getD k 0).tdiv 27720 := by
  simp [List.getD_eq_getElem?_getD, hk]
def allTo (E : List Int) (k : Nat) : Bool := (E.take k).all fun x => x.tmod 27720 == 0
theorem allTo_succ {E : List Int} {k : Nat} (hk : k < E.length) (h : allTo E k = true) : allTo E (k + 1) = ((E.getD k 0).tmod 27720 == 0) := by
  unfold allTo at h ⊢
  rw [List.take_succ_eq_append_getElem hk, List.all_append, h]
  simp [List.getD_eq_getElem?_getD, hk]
theorem allTo_all {E : List Int} {k : Nat} (hk : k = E.length) : allTo E k = E.all fun x => x.tmod 27720 == 0 := by
  unfold allTo
  rw [hk, List.take_length]
theorem all_false {E : List Int} {k : Nat} (h : allTo E k = false) : (E.all fun x => x.tmod 27720 == 0) = false := by
  unfold allTo at h
  rw [List.all_eq_false] at h ⊢
  obtain ⟨x, hx, e⟩ := h
  exact ⟨x, List.mem_of_mem_take hx, e⟩
end Go.Proofs.YtfikkfbnlegflaaGreatDoor

namespace Go.Proofs.YtfikkfbnlegflaaGreatDoor
open Go.RowKit

/-- a call returns a slice of integers in memory of its own, or none -/
def EndRes (f : FuncId) (args : Array Value) (w : World) (res : Bool × List Int) : Prop :=
  Calls Tryz.prog f args w fun e w' => ∃ a n c, e = .returned (.tuple #[.slice a n c, .bool res.1]) ∧ OwnI w' w.heap.size a n c res.2 ∧ Ext w w'
def endT (r : Int) (ts : List Int) (p : List Stp) : Bool × List Int := if typeB r ts && pathB r.toNat p then endR r.toNat p else (false, [])
theorem tdiv_small {x : Int} (h : -83160000 ≤ x ∧ x ≤ 83160000) : -3000 ≤ x.tdiv 27720 ∧ x.tdiv 27720 ≤ 3000 := by
  have h1 := Int.mul_tdiv_add_tmod x 27720
  have h2 := Int.tmod_lt_of_pos x (show (0 : Int) < 27720 by omega)
  have h3 : -27720 < x.tmod 27720 := by
    have := Int.lt_tmod_of_pos x (show (0 : Int) < 27720 by omega)
    omega
  omega
structure QuoStep (E : List Int) (k : Nat) (X : Int) : Prop where
  quo : IntKind.i64.wrap (X.tdiv 27720) = X.tdiv 27720
  res : (E.map fun x => x.tdiv 27720).getD k 0 = X.tdiv 27720
theorem end_at {R : Nat} {p : List Stp} (h : PathP R p) {k : Nat} (hk : k < R) : -83160000 ≤ (endV R p p.length).getD k 0 ∧ (endV R p p.length).getD k 0 ≤ 83160000 := by
  rw [endV_get R p p.length k hk]
  exact ht_small h hk _ (Nat.le_refl _)
theorem quo_step {R : Nat} {p : List Stp} (h : PathP R p) {k : Nat} (hk : k < R) : QuoStep (endV R p p.length) k ((endV R p p.length).getD k 0) := by
  have h1 := tdiv_small (end_at h hk)
  exact ⟨wrap_in (by omega) (by omega), quo_at (by rw [endV_length]; exact hk)⟩


set_option maxHeartbeats 4000000 in
theorem endOf_any (R : Nat) (ta : Option Addr) (tn tc : Nat) (a : Option Addr) (n c : Nat) (xs : List Stp) (w : World) (hR : 1 ≤ R ∧ R ≤ 4) (h : TermsAt w a n xs) (hp : PathP R xs) :
    EndRes 73 #[carV R ta tn tc, .slice a n c] w (endR R xs) := by
  unfold EndRes
  obtain ⟨⟨J1, J2⟩, hJ⟩ : ∃ J, J = endR R xs := ⟨_, rfl⟩
  rw [← hJ]
  have HJ := hidP hJ
  clear hJ
  dsimp only
  obtain ⟨E, hE⟩ : ∃ E, E = endV R xs xs.length := ⟨_, rfl⟩
  obtain ⟨Q, hQ⟩ : ∃ Q, Q = E.map fun x => x.tdiv 27720 := ⟨_, rfl⟩
  have HEl : Hid (E.length = R) := by
    show _ = _
    rw [hE]
    exact endV_length _ _ _
  have HQe : Hid ((E.map fun x => x.tdiv 27720) = Q) := hQ.symm
  have HQl : Hid (Q.length = R) := by
    show _ = _
    rw [hQ, List.length_map]
    exact HEl.out
  have HEr : Hid (endR R xs = if E.all (fun x => x.tmod 27720 == 0) then (true, Q) else (false, [])) := by
    show _ = _
    unfold endR
    rw [← hE, ← hQ]
  have HQs : Hid (∀ k, k < R → QuoStep E k (E.getD k 0)) := by
    show ∀ k, _
    intro k hk
    rw [hE]
    exact quo_step hp hk
  have HEn : Hid (endV R xs n = E) := by
    show _ = _
    rw [hE, h.len]
  have hx1 := Ext.alloc w (.cells #[.int .i64 R, .slice ta tn tc] 31)
  have HC := hidP (fun w' (hx : Ext (w.alloc (.cells #[.int .i64 R, .slice ta tn tc] 31)) w') => (CarAt.new w _ rfl (R : Int) ta tn tc 31).below hx)
  have HX1 := hidP hx1
  have HW1 := hidP hx1.size
  have G := hidP h
  have HP := hidP hp
  have hl := hidP h.len
  have hn60 : n ≤ 60 := by have := hp.len; have := h.len; omega
  obtain ⟨hR1, hR4⟩ := hR
  have hmk := make_ints (R : Int) (by omega) (by omega)
  simp only [Int.toNat_natCast] at hmk
  have HX0 := hidP (fun (w' : World) => Ext.alloc w' (.cells (Array.replicate R (.int .i64 0)) 3))
  have HO0 := hidP (fun (w' : World) => OwnI.made w' w'.heap.size R (Nat.le_refl _) (by unfold maxLen; omega))
  clear h hp hx1 hE hQ
  obtain ⟨w1, hw1⟩ : ∃ w1, w1 = w.alloc (.cells #[.int .i64 R, .slice ta tn tc] 31) := ⟨_, rfl⟩
  rw [← hw1] at HC HX1 HW1
  have HSE : Hid (w1.heap.size = w.heap.size + 1) := by
    show _ = _
    rw [hw1]
    simp
  obtain ⟨f0, f1⟩ := HC.out w1 (Ext.refl w1)
  go_enter Tryz.func73, Tryz.ntmps73
  go_wp2_with fail
  rw [← hw1]
  clear hw1
  try go_wp2
  clear hmk
  have HO1 : Hid (OwnI (w1.alloc (.cells (Array.replicate R (.int .i64 0)) 3)) w1.heap.size (some ⟨w.heap.size + 1, 0, none⟩) R R (endV R xs 0)) := by
    show OwnI _ _ _ _ _ _
    rw [← HSE.out, endV_zero R xs]
    exact HO0.out w1
  have HX2 := hidP (HX0.out w1)
  clear HO0 HX0
  go_loopw [6, 16] (fun out ii wr => ∃ (k : Nat) (a' : Option Addr) (c' : Nat), k ≤ n ∧ out = .slice a' R c' ∧ ii = .int .i64 k ∧ Hid (OwnI wr w1.heap.size a' R c' (endV R xs k)) ∧ Hid (Ext w1 wr)) (fun _ ii _ => n - (intOf ii).toNat)
  case atStart => exact ⟨0, _, _, Nat.zero_le _, rfl, rfl, HO1, HX2⟩
  case round =>
    obtain ⟨k, a', c', hk, rfl, rfl, HO, HX⟩ := hrel
    by_cases hlt : k < n
    · obtain ⟨b, o, aw, cw, W, L, rfl, HW, HL, hwl, hq⟩ := (G.out.below (HX1.out.trans HX.out)).way k hlt
      have HQ := hidP hq
      have hwr := (HP.out.way k (by have := hl.out; omega)).1
      rw [HW.out] at hwr
      have HIn := hidP (plusIn_end HP.out (k := k) (by have := hl.out; omega))
      have HNx := hidP (endV_succ R xs k)
      rw [HW.out, HL.out] at HIn HNx
      have HPl := hidP (fun w' (hx : Ext wr w') => listPlus_any a' R c' (endV R xs k) L aw W.length cw W w' (HO.out.ints.below hx) HO.out.nil_cap (by omega) (hq w' hx).2.2 hwr.symm HIn.out)
      rw [HNx.out] at HPl
      obtain ⟨q1, q2, _⟩ := hq wr (Ext.refl wr)
      have hk0 : (0 : Int) ≤ (k : Int) := by omega
      have hkn : (k : Int) < (n : Int) := by omega
      clear hwr hq
      have HA2 := hidP (Ext.alloc wr (.cells #[.slice aw W.length cw, .int .i64 L] 69))
      have HS := hidP (fun w' (hx : Ext (wr.alloc (.cells #[.slice aw W.length cw, .int .i64 L] 69)) w') => (StpAt.new wr _ rfl aw W.length cw L 69).below hx)
      obtain ⟨w2, hw2⟩ : ∃ w2, w2 = wr.alloc (.cells #[.slice aw W.length cw, .int .i64 L] 69) := ⟨_, rfl⟩
      rw [← hw2] at HA2 HS
      obtain ⟨s1, s2⟩ := HS.out w2 (Ext.refl w2)
      have HPw := hidP (HPl.out w2 HA2.out)
      go_wp2_with fail
      rw [← hw2]
      clear hw2 q1 q2
      go_wp2_with fail
      refine HPw.out.mono ?_
      rintro e w3 ⟨a3, c3, rfl, ho3, hx3⟩
      have HO3 := hidP (ho3.base (B' := w1.heap.size) (HX.out.trans HA2.out).size)
      have HX3 := hidP (HX.out.trans (HA2.out.trans hx3))
      clear ho3 hx3
      go_wp2
      go_roundw
      case rel => exact ⟨k + 1, a3, c3, by omega, rfl, by go_num, HO3, HX3⟩
      case measure => simp [intOf]; omega
    · obtain rfl : n = k := by omega
      rw [HEn.out] at HO
      have HO1 := HO
      have HX1b := HX
      go_wp2
      go_loopw [29] (fun ii wr => ∃ k : Nat, k ≤ R ∧ ii = .int .i64 k ∧ Hid (allTo E k = true) ∧ Hid (OwnI wr w1.heap.size a' R c' (partly E Q k)) ∧ Hid (Ext w1 wr)) (fun ii _ => R - (intOf ii).toNat)
      case atStart => exact ⟨0, Nat.zero_le _, by rfl, by rfl, by rw [partly_zero]; exact HO1, HX1b⟩
      case round =>
        obtain ⟨k, hk, rfl, HA, HO, HX⟩ := hrel
        by_cases hlt : k < R
        · have hst := HQs.out k hlt
          have has := allTo_succ (E := E) (k := k) (by rw [HEl.out]; exact hlt) HA.out
          obtain ⟨X, hX⟩ : ∃ X, X = E.getD k 0 := ⟨_, rfl⟩
          rw [← hX] at hst has
          obtain ⟨g, rfl, hg1, _, q1, q3⟩ := HO.out.cell k hlt
          rw [partly_at _ _ _ (by rw [HQl.out]; omega), ← hX] at q1
          have hk0 : (0 : Int) ≤ (k : Int) := by omega
          have hkn : (k : Int) < (R : Int) := by omega
          have hquo := hst.quo
          by_cases hm : X.tmod 27720 = 0
          · have hb : (X.tmod 27720 != 0) = false := by simp [hm]
            have HA2 : Hid (allTo E (k + 1) = true) := by
              show _ = _
              rw [has, hm]
              rfl
            have HSt : Hid (OwnI (wr.setCell ⟨g, k, none⟩ (.int .i64 (X.tdiv 27720))) w1.heap.size (some ⟨g, 0, none⟩) R c' (partly E Q (k + 1))) := by
              have h1 := HO.out.stored k (X.tdiv 27720)
              rw [← hst.res] at h1
              rw [HQe.out] at h1
              rw [partly_succ E Q R k hlt HEl.out HQl.out] at h1
              rw [← hst.res, HQe.out]
              exact h1
            have HX3 : Hid (Ext w1 (wr.setCell ⟨g, k, none⟩ (.int .i64 (X.tdiv 27720)))) := Ext.setNew HX.out _ _ hg1 _
            clear hst hX hm hg1 has
            go_wp2
            go_roundw
            case rel => exact ⟨k + 1, by omega, by go_num, HA2, HSt, HX3⟩
            case measure => simp [intOf]; omega
          · have hb : (X.tmod 27720 != 0) = true := by simp [hm]
            have HE : Hid ((J1, J2) = (false, [])) := by
              show _ = _
              have hf : allTo E (k + 1) = false := by
                rw [has]
                simp [hm]
              rw [HJ.out, HEr.out]
              exact if_neg (by rw [all_false hf]; simp)
            obtain ⟨rfl, rfl⟩ := Prod.mk.inj HE.out
            clear hst hX hm hg1 has HE
            go_wp2
            refine bodyPost_ret (v := .tuple #[.slice none 0 0, .bool false]) (by simp [results, Tryz.results73, go_sem]) rfl ⟨none, 0, 0, rfl, OwnI.nil _ _, HX1.out.trans HX.out⟩
        · obtain rfl : R = k := by omega
          have HE : Hid ((J1, J2) = (true, Q)) := by
            show _ = _
            rw [HJ.out, HEr.out]
            exact if_pos (by rw [← allTo_all HEl.out.symm]; exact HA.out)
          obtain ⟨rfl, rfl⟩ := Prod.mk.inj HE.out
          have HD : Hid (partly E J2 R = J2) := partly_all _ _ _ HEl.out HQl.out
          rw [HD.out] at HO
          clear HE
          go_wp2
          refine bodyPost_ret (v := .tuple #[.slice a' R c', .bool true]) (by simp [results, Tryz.results73, go_sem]) rfl ⟨a', R, c', rfl, HO.out.base HW1.out, HX1.out.trans HX.out⟩
set_option maxHeartbeats 4000000 in
theorem endOfAll_any (r : Int) (ta : Option Addr) (tn tc : Nat) (ts : List Int) (a : Option Addr) (n c : Nat) (xs : List Stp) (w : World) (hc : IntsAt w ta tn ts) (hcn : tn ≤ 9223372036854775807)
    (h : TermsAt w a n xs) (hn : n ≤ 9223372036854775807) (hm : MaxL w) :
    EndRes 30 #[carV r ta tn tc, .slice a n c] w (endT r ts xs) := by
  unfold EndRes
  have hx1 := Ext.alloc w (.cells #[.int .i64 r, .slice ta tn tc] 31)
  have HC := hidP (fun w' (hx : Ext (w.alloc (.cells #[.int .i64 r, .slice ta tn tc] 31)) w') => (CarAt.new w _ rfl r ta tn tc 31).below hx)
  have HX1 := hidP hx1
  have H := hidP h
  have HIs := hidP (fun w' (hx : Ext w w') => isCartan_any r ta tn tc ts w' (hc.below hx) hcn (hm.below hx))
  have HP := hidP (pathOk_of r ta tn tc ts a n c xs _ (h.below hx1) hn (fun w' hx => HIs.out w' (hx1.trans hx)))
  have HW1 := hidP hx1.size
  clear hc hx1 hm
  obtain ⟨w1, hw1⟩ : ∃ w1, w1 = w.alloc (.cells #[.int .i64 r, .slice ta tn tc] 31) := ⟨_, rfl⟩
  rw [← hw1] at HC HX1 HP HW1
  obtain ⟨f0, f1⟩ := HC.out w1 (Ext.refl w1)
  cases hT : (typeB r ts && pathB r.toNat xs)
  · have HR : Hid (endT r ts xs = (false, [])) := by
      show _ = _
      unfold endT
      rw [hT]
      rfl
    rw [hT] at HP
    clear hT h
    go_enter Tryz.func30, Tryz.ntmps30
    go_wp2_with fail
    rw [← hw1]
    clear hw1
    refine HP.out.mono ?_
    rintro e w2 ⟨rfl, hx⟩
    have HX := hidP hx
    clear hx
    go_wp2
    refine bodyPost_ret (v := .tuple #[.slice none 0 0, .bool false]) (by simp [results, Tryz.results30, go_sem]) rfl ⟨none, 0, 0, by rw [HR.out], ?_, HX1.out.trans HX.out⟩
    rw [HR.out]
    exact OwnI.nil _ _
  · have hT2 : typeB r ts = true := by
      simp only [Bool.and_eq_true] at hT
      exact hT.1
    have hP1 : pathB r.toNat xs = true := by
      simp only [Bool.and_eq_true] at hT
      exact hT.2
    obtain ⟨hr1, hr4, _⟩ := typeB_rank hT2
    obtain ⟨R, rfl⟩ : ∃ R : Nat, r = R := ⟨r.toNat, by omega⟩
    rw [Int.toNat_natCast] at hP1
    have hR1 : 1 ≤ R := by omega
    have hR4 : R ≤ 4 := by omega
    have hp := pathB_iff.1 hP1
    have HR : Hid (endT R ts xs = endR R xs) := by
      show _ = _
      unfold endT
      rw [hT]
      rfl
    rw [HR.out]
    obtain ⟨⟨J1, J2⟩, hJ⟩ : ∃ J, J = endR R xs := ⟨_, rfl⟩
    rw [← hJ]
    have HJ := hidP hJ
    dsimp only
    have HEd := hidP (fun w' (hx : Ext w1 w') => endOf_any R ta tn tc a n c xs w' ⟨hR1, hR4⟩ (H.out.below (HX1.out.trans hx)) hp)
    unfold EndRes at HEd
    rw [← hJ] at HEd
    rw [hT] at HP
    clear hT hT2 hP1 hJ h hp HR
    dsimp only at HEd
    go_enter Tryz.func30, Tryz.ntmps30
    go_wp2_with fail
    rw [← hw1]
    clear hw1
    refine HP.out.mono ?_
    rintro e w2 ⟨rfl, hx⟩
    have HX := hidP hx
    obtain ⟨g0, g1⟩ := HC.out w2 hx
    clear hx f0 f1
    go_wp2_with fail
    refine (HEd.out _ HX.out).mono ?_
    rintro e w3 ⟨a1, n1, c1, rfl, ho3, hx3⟩
    have HO1 := hidP (ho3.base (B' := w.heap.size) (HX1.out.trans HX.out).size)
    have HX1b := hidP (HX.out.trans hx3)
    clear ho3 hx3 g0 g1
    go_wp2
    refine bodyPost_ret (v := .tuple #[.slice a1 n1 c1, .bool J1]) (by simp [results, Tryz.results30, go_sem]) rfl ⟨a1, n1, c1, rfl, HO1.out, HX1.out.trans HX1b.out⟩
set_option maxHeartbeats 4000000 in
theorem sEndOf_any (r : Int) (ta : Option Addr) (tn tc : Nat) (ts : List Int) (a : Option Addr) (n c : Nat) (xs : List Stp) (w : World) (hc : IntsAt w ta tn ts) (hcn : tn ≤ 9223372036854775807)
    (h : TermsAt w a n xs) (hn : n ≤ 9223372036854775807) :
    EndRes 66 #[carV r ta tn tc, .slice a n c] w (endT r ts xs) := by
  unfold EndRes
  have hx1 := Ext.alloc w (.cells #[.int .i64 r, .slice ta tn tc] 31)
  have HC := hidP (fun w' (hx : Ext (w.alloc (.cells #[.int .i64 r, .slice ta tn tc] 31)) w') => (CarAt.new w _ rfl r ta tn tc 31).below hx)
  have HX1 := hidP hx1
  have H := hidP h
  have HP := hidP (sPathOk_any r ta tn tc ts a n c xs _ (hc.below hx1) hcn (h.below hx1) hn)
  have HW1 := hidP hx1.size
  clear hc hx1
  obtain ⟨w1, hw1⟩ : ∃ w1, w1 = w.alloc (.cells #[.int .i64 r, .slice ta tn tc] 31) := ⟨_, rfl⟩
  rw [← hw1] at HC HX1 HP HW1
  obtain ⟨f0, f1⟩ := HC.out w1 (Ext.refl w1)
  cases hT : (typeB r ts && pathB r.toNat xs)
  · have HR : Hid (endT r ts xs = (false, [])) := by
      show _ = _
      unfold endT
      rw [hT]
      rfl
    rw [hT] at HP
    clear hT h
    go_enter Tryz.func66, Tryz.ntmps66
    go_wp2_with fail
    rw [← hw1]
    clear hw1
    refine HP.out.mono ?_
    rintro e w2 ⟨rfl, hx⟩
    have HX := hidP hx
    clear hx
    go_wp2
    refine bodyPost_ret (v := .tuple #[.slice none 0 0, .bool false]) (by simp [results, Tryz.results66, go_sem]) rfl ⟨none, 0, 0, by rw [HR.out], ?_, HX1.out.trans HX.out⟩
    rw [HR.out]
    exact OwnI.nil _ _
  · have hT2 : typeB r ts = true := by
      simp only [Bool.and_eq_true] at hT
      exact hT.1
    have hP1 : pathB r.toNat xs = true := by
      simp only [Bool.and_eq_true] at hT
      exact hT.2
    obtain ⟨hr1, hr4, _⟩ := typeB_rank hT2
    obtain ⟨R, rfl⟩ : ∃ R : Nat, r = R := ⟨r.toNat, by omega⟩
    rw [Int.toNat_natCast] at hP1
    have hR1 : 1 ≤ R := by omega
    have hR4 : R ≤ 4 := by omega
    have hp := pathB_iff.1 hP1
    have HR : Hid (endT R ts xs = endR R xs) := by
      show _ = _
      unfold endT
      rw [hT]
      rfl
    rw [HR.out]
    obtain ⟨⟨J1, J2⟩, hJ⟩ : ∃ J, J = endR R xs := ⟨_, rfl⟩
    rw [← hJ]
    have HJ := hidP hJ
    dsimp only
    obtain ⟨E, hE⟩ : ∃ E, E = endV R xs xs.length := ⟨_, rfl⟩
    obtain ⟨Q, hQ⟩ : ∃ Q, Q = E.map fun x => x.tdiv 27720 := ⟨_, rfl⟩
    have HEl : Hid (E.length = R) := by
      show _ = _
      rw [hE]
      exact endV_length _ _ _
    have HQe : Hid ((E.map fun x => x.tdiv 27720) = Q) := hQ.symm
    have HQl : Hid (Q.length = R) := by
      show _ = _
      rw [hQ, List.length_map]
      exact HEl.out
    have HEr : Hid (endR R xs = if E.all (fun x => x.tmod 27720 == 0) then (true, Q) else (false, [])) := by
      show _ = _
      unfold endR
      rw [← hE, ← hQ]
    have HQs : Hid (∀ k, k < R → QuoStep E k (E.getD k 0)) := by
      show ∀ k, _
      intro k hk
      rw [hE]
      exact quo_step hp hk
    have HEn : Hid (endV R xs n = E) := by
      show _ = _
      rw [hE, h.len]
    have HEd := hidP (fun w' (hx : Ext w1 w') => l9End_any R ta tn tc a n c xs w' ⟨hR1, hR4⟩ (H.out.below (HX1.out.trans hx)) hp)
    rw [HEn.out] at HEd
    rw [hT] at HP
    clear hT hT2 hP1 hJ h hp hE hQ HR
    go_enter Tryz.func66, Tryz.ntmps66
    go_wp2_with fail
    rw [← hw1]
    clear hw1
    refine HP.out.mono ?_
    rintro e w2 ⟨rfl, hx⟩
    have HX := hidP hx
    obtain ⟨g0, g1⟩ := HC.out w2 hx
    clear hx f0 f1
    go_wp2_with fail
    refine (HEd.out _ HX.out).mono ?_
    rintro e w3 ⟨a1, c1, rfl, ho3, hx3⟩
    have HO1 := hidP (ho3.base (B' := w1.heap.size) HX.out.size)
    have HX1b := hidP (HX.out.trans hx3)
    clear ho3 hx3 g0 g1
    go_wp2
    go_loopw [7] (fun ii wr => ∃ k : Nat, k ≤ R ∧ ii = .int .i64 k ∧ Hid (allTo E k = true) ∧ Hid (OwnI wr w1.heap.size a1 R c1 (partly E Q k)) ∧ Hid (Ext w1 wr)) (fun ii _ => R - (intOf ii).toNat)
    case atStart => exact ⟨0, Nat.zero_le _, by rfl, by rfl, by rw [partly_zero]; exact HO1, HX1b⟩
    case round =>
      obtain ⟨k, hk, rfl, HA, HO, HX⟩ := hrel
      by_cases hlt : k < R
      · have hst := HQs.out k hlt
        have has := allTo_succ (E := E) (k := k) (by rw [HEl.out]; exact hlt) HA.out
        obtain ⟨X, hX⟩ : ∃ X, X = E.getD k 0 := ⟨_, rfl⟩
        rw [← hX] at hst has
        obtain ⟨g, rfl, hg1, _, q1, q3⟩ := HO.out.cell k hlt
        rw [partly_at _ _ _ (by rw [HQl.out]; omega), ← hX] at q1
        have hk0 : (0 : Int) ≤ (k : Int) := by omega
        have hkn : (k : Int) < (R : Int) := by omega
        have hquo := hst.quo
        by_cases hm : X.tmod 27720 = 0
        · have hb : (X.tmod 27720 != 0) = false := by simp [hm]
          have HA2 : Hid (allTo E (k + 1) = true) := by
            show _ = _
            rw [has, hm]
            rfl
          have HSt : Hid (OwnI (wr.setCell ⟨g, k, none⟩ (.int .i64 (X.tdiv 27720))) w1.heap.size (some ⟨g, 0, none⟩) R c1 (partly E Q (k + 1))) := by
            have h1 := HO.out.stored k (X.tdiv 27720)
            rw [← hst.res] at h1
            rw [HQe.out] at h1
            rw [partly_succ E Q R k hlt HEl.out HQl.out] at h1
            rw [← hst.res, HQe.out]
            exact h1
          have HX3 : Hid (Ext w1 (wr.setCell ⟨g, k, none⟩ (.int .i64 (X.tdiv 27720)))) := Ext.setNew HX.out _ _ hg1 _
          clear hst hX hm hg1 has
          go_wp2
          go_roundw
          case rel => exact ⟨k + 1, by omega, by go_num, HA2, HSt, HX3⟩
          case measure => simp [intOf]; omega
        · have hb : (X.tmod 27720 != 0) = true := by simp [hm]
          have HE : Hid ((J1, J2) = (false, [])) := by
            show _ = _
            have hf : allTo E (k + 1) = false := by
              rw [has]
              simp [hm]
            rw [HJ.out, HEr.out]
            exact if_neg (by rw [all_false hf]; simp)
          obtain ⟨rfl, rfl⟩ := Prod.mk.inj HE.out
          clear hst hX hm hg1 has HE
          go_wp2
          refine bodyPost_ret (v := .tuple #[.slice none 0 0, .bool false]) (by simp [results, Tryz.results66, go_sem]) rfl ⟨none, 0, 0, rfl, OwnI.nil _ _, HX1.out.trans HX.out⟩
      · obtain rfl : R = k := by omega
        have HE : Hid ((J1, J2) = (true, Q)) := by
          show _ = _
          rw [HJ.out, HEr.out]
          exact if_pos (by rw [← allTo_all HEl.out.symm]; exact HA.out)
        obtain ⟨rfl, rfl⟩ := Prod.mk.inj HE.out
        have HD : Hid (partly E J2 R = J2) := partly_all _ _ _ HEl.out HQl.out
        rw [HD.out] at HO
        clear HE
        go_wp2
        refine bodyPost_ret (v := .tuple #[.slice a1 R c1, .bool true]) (by simp [results, Tryz.results66, go_sem]) rfl ⟨a1, R, c1, rfl, HO.out.base HW1.out, HX1.out.trans HX.out⟩
end Go.Proofs.YtfikkfbnlegflaaGreatDoor

namespace Go.Proofs.YtfikkfbnlegflaaGreatDoor
open Go.RowKit

/-- so many moves -/
def moveN {β : Type} (F : β → Option β) : Nat → β → Option β
  | 0, p => some p
  | k + 1, p => match F p with
    | none => none
    | some q => moveN F k q
theorem moveN_none {β : Type} {F : β → Option β} {p : β} (h : F p = none) {N k : Nat} (hk : k < N) : moveN F (N - k) p = none := by
  rw [show N - k = (N - k - 1) + 1 by omega]
  unfold moveN
  rw [h]
theorem moveN_some {β : Type} {F : β → Option β} {p q : β} (h : F p = some q) {N k : Nat} (hk : k < N) : moveN F (N - k) p = moveN F (N - (k + 1)) q := by
  rw [show N - k = (N - (k + 1)) + 1 by omega]
  conv => lhs; unfold moveN
  rw [h]
theorem moveN_done {β : Type} {F : β → Option β} {p : β} (N : Nat) : moveN F (N - N) p = some p := by
  rw [Nat.sub_self]
  rfl
theorem moveN_path {r : Nat} {F : List Stp → Option (List Stp)} (hF : ∀ p q, F p = some q → pathB r q = true) : ∀ {k : Nat} {p q : List Stp}, pathB r p = true → moveN F k p = some q → pathB r q = true
  | 0, _, _, hp, h => by
    cases h
    exact hp
  | k + 1, p, q, hp, h => by
    unfold moveN at h
    cases hf : F p with
    | none =>
      rw [hf] at h
      cases h
    | some p' =>
      rw [hf] at h
      exact moveN_path hF (hF _ _ hf) h
def lowF (r : Nat) (ts : List Int) (i : Nat) (p : List Stp) : Option (List Stp) := lowS r (refl r ts i) i p
def raiF2 (r : Nat) (ts : List Int) (i : Nat) (p : List Stp) : Option (List Stp) := raiS r (refl r ts i) i p
def reflX (r : Nat) (ts : List Int) (i : Nat) (x : Int) (p : List Stp) : Option (List Stp) := if 0 < x then moveN (lowF r ts i) x.toNat p else moveN (raiF2 r ts i) (-x).toNat p
def reflP (r : Nat) (ts : List Int) (i : Nat) (p : List Stp) : Bool × List Stp := if (endR r p).1 then optJ (reflX r ts i ((endR r p).2.getD i 0) p) else (false, [])
def reflT (r : Int) (ts : List Int) (q : Int) (p : List Stp) : Bool × List Stp :=
  if typeB r ts && pathB r.toNat p then (if insB q 0 (r - 1) then reflP r.toNat ts q.toNat p else (false, [])) else (false, [])
theorem reflX_path {r : Nat} {ts : List Int} {i : Nat} {x : Int} {p q : List Stp} (hp : pathB r p = true) (h : reflX r ts i x p = some q) : pathB r q = true := by
  unfold reflX at h
  split at h
  · exact moveN_path (fun _ _ e => lowS_path e) hp h
  · exact moveN_path (fun _ _ e => raiS_path e) hp h
theorem reflT_ok (r : Int) (ts : List Int) (q : Int) (p : List Stp) : ResOk (reflT r ts q p) := by
  unfold reflT
  split
  · rename_i h
    split
    · simp only [Bool.and_eq_true] at h
      have := typeB_rank h.1
      unfold reflP
      split
      · cases hF : reflX r.toNat ts q.toNat ((endR r.toNat p).2.getD q.toNat 0) p with
        | none => exact .inl rfl
        | some q' => exact .inr ⟨r.toNat, by omega, reflX_path h.2 hF⟩
      · exact .inl rfl
    · exact .inl rfl
  · exact .inl rfl
/-- an end's entries are small -/
theorem endR_small {r : Nat} {p : List Stp} (h : PathP r p) {i : Nat} (hi : i < r) : -3000 ≤ (endR r p).2.getD i 0 ∧ (endR r p).2.getD i 0 ≤ 3000 := by
  unfold endR
  split
  · rw [quo_at (by rw [endV_length]; exact hi)]
    exact tdiv_small (end_at h hi)
  · simp
theorem endR_len {r : Nat} {p : List Stp} (h : (endR r p).1 = true) : (endR r p).2.length = r := by
  unfold endR at h ⊢
  split at h
  · rename_i h2
    rw [if_pos h2, List.length_map, endV_length]
  · cases h
theorem endT_eq {r : Int} {ts : List Int} {p : List Stp} (h : (typeB r ts && pathB r.toNat p) = true) : endT r ts p = endR r.toNat p := by
  unfold endT
  rw [h]
  rfl

set_option maxHeartbeats 8000000 in
theorem reflectPath_any (r : Int) (ta : Option Addr) (tn tc : Nat) (ts : List Int) (q : Int) (a : Option Addr) (n c : Nat) (xs : List Stp) (w : World) (hc : IntsAt w ta tn ts) (hcn : tn ≤ 9223372036854775807)
    (h : StepsAt w a n xs) (hnc : n ≤ c) (hcc : c ≤ 9223372036854775807) (hm : MaxL w) :
    PathRes 27 #[carV r ta tn tc, .int .i64 q, .slice a n c] w (reflT r ts q xs) := by
  unfold PathRes
  obtain ⟨⟨J1, J2⟩, hJ⟩ : ∃ J, J = reflT r ts q xs := ⟨_, rfl⟩
  rw [← hJ]
  have HJ := hidP hJ
  clear hJ
  dsimp only
  have hn : n ≤ 9223372036854775807 := by omega
  have hx1 := Ext.alloc w (.cells #[.int .i64 r, .slice ta tn tc] 31)
  have HC := hidP (fun w' (hx : Ext (w.alloc (.cells #[.int .i64 r, .slice ta tn tc] 31)) w') => (CarAt.new w _ rfl r ta tn tc 31).below hx)
  have HX1 := hidP hx1
  have H := hidP h
  have Hc := hidP hc
  have hnl := h.len
  have HIs := hidP (fun w' (hx : Ext w w') => isCartan_any r ta tn tc ts w' (hc.below hx) hcn (hm.below hx))
  have HP := hidP (endOfAll_any r ta tn tc ts a n c xs _ (hc.below hx1) hcn (h.below hx1).terms hn (hm.below hx1))
  unfold EndRes at HP
  clear hc h hx1 hm
  obtain ⟨w1, hw1⟩ : ∃ w1, w1 = w.alloc (.cells #[.int .i64 r, .slice ta tn tc] 31) := ⟨_, rfl⟩
  rw [← hw1] at HC HX1 HP
  obtain ⟨f0, f1⟩ := HC.out w1 (Ext.refl w1)
  obtain ⟨⟨E1, E2⟩, hE⟩ : ∃ E, E = endT r ts xs := ⟨_, rfl⟩
  rw [← hE] at HP
  dsimp only at HP
  cases E1 with
  | false =>
    have HE : Hid ((J1, J2) = (false, [])) := by
      show _ = _
      rw [HJ.out]
      unfold reflT
      cases hT : (typeB r ts && pathB r.toNat xs)
      · rfl
      · rw [endT_eq hT] at hE
        simp only [if_true]
        split
        · unfold reflP
          rw [← hE]
          rfl
        · rfl
    obtain ⟨rfl, rfl⟩ := Prod.mk.inj HE.out
    clear hE HE hnl
    go_enter Tryz.func27, Tryz.ntmps27
    go_wp2_with fail
    rw [← hw1]
    clear hw1
    refine HP.out.mono ?_
    rintro e w2 ⟨ae, ne, ce, rfl, ho, hx⟩
    have HX := hidP (HX1.out.trans hx)
    clear hx ho
    go_wp2
    refine bodyPost_ret (v := .tuple #[.slice none 0 0, .bool false]) (by simp [results, Tryz.results27, go_sem]) rfl ?_
    first | exact ⟨none, 0, 0, [], rfl, OwnK.nil stepK _ _ _, HX.out⟩ | exact ⟨none, 0, 0, rfl, ⟨[], OwnK.nil stepK _ _ _⟩, HX.out⟩
  | true =>
    have hT : (typeB r ts && pathB r.toNat xs) = true := by
      cases hT : (typeB r ts && pathB r.toNat xs)
      · unfold endT at hE
        rw [hT] at hE
        cases hE
      · rfl
    rw [endT_eq hT] at hE
    have hT2 : typeB r ts = true := by
      simp only [Bool.and_eq_true] at hT
      exact hT.1
    have hP1 : pathB r.toNat xs = true := by
      simp only [Bool.and_eq_true] at hT
      exact hT.2
    obtain ⟨hr1, hr4, _⟩ := typeB_rank hT2
    obtain ⟨R, rfl⟩ : ∃ R : Nat, r = R := ⟨r.toNat, by omega⟩
    rw [Int.toNat_natCast] at hP1 hE
    have hwr : IntKind.i64.wrap ((R : Int) - 1) = (R : Int) - 1 := wrap_in (by omega) (by omega)
    have HIn := hidP (fun w' => inside_any q 0 ((R : Int) - 1) w')
    cases hQ : insB q 0 ((R : Int) - 1)
    · have HE : Hid ((J1, J2) = (false, [])) := by
        show _ = _
        rw [HJ.out]
        unfold reflT
        rw [hT, hQ]
        rfl
      obtain ⟨rfl, rfl⟩ := Prod.mk.inj HE.out
      rw [hQ] at HIn
      clear hT hT2 hP1 hQ hE HE hnl
      go_enter Tryz.func27, Tryz.ntmps27
      go_wp2_with fail
      rw [← hw1]
      clear hw1
      refine HP.out.mono ?_
      rintro e w2 ⟨ae, ne, ce, rfl, ho, hx⟩
      obtain ⟨g0, g1⟩ := HC.out w2 hx
      have HX := hidP (HX1.out.trans hx)
      clear hx ho f0 f1
      go_wp2_with fail
      refine (HIn.out _).mono ?_
      rintro e w2' ⟨rfl, hww⟩
      rw [← hww]
      clear hww HIn
      go_wp2
      refine bodyPost_ret (v := .tuple #[.slice none 0 0, .bool false]) (by simp [results, Tryz.results27, go_sem]) rfl ?_
      first | exact ⟨none, 0, 0, [], rfl, OwnK.nil stepK _ _ _, HX.out⟩ | exact ⟨none, 0, 0, rfl, ⟨[], OwnK.nil stepK _ _ _⟩, HX.out⟩
    · obtain ⟨hq0, hq1⟩ := insB_true.1 hQ
      obtain ⟨i, rfl⟩ : ∃ i : Nat, q = i := ⟨q.toNat, by omega⟩
      have hi : i < R := by omega
      have HPp := hidP (pathB_iff.1 hP1)
      have hsm := endR_small HPp.out hi
      have hlE := endR_len (r := R) (p := xs) (by rw [← hE])
      rw [← hE] at hsm hlE
      dsimp only at hsm hlE
      obtain ⟨X, hX⟩ : ∃ X, X = E2.getD i 0 := ⟨_, rfl⟩
      rw [← hX] at hsm
      have HRx : Hid ((J1, J2) = optJ (reflX R ts i X xs)) := by
        show _ = _
        rw [HJ.out]
        unfold reflT
        rw [hT, hQ]
        show reflP R ts i xs = _
        unfold reflP
        rw [← hE]
        dsimp only
        rw [if_pos rfl, ← hX]
      obtain ⟨hl1, hk1⟩ := pathB_small hP1
      rw [hQ] at HIn
      have HXe := hidP hX
      have HlE := hidP hlE
      have HCp := hidP (fun w' (hx : Ext w1 w') => copySteps_any a n c xs w' (H.out.below (HX1.out.trans hx)) (by omega) (fun k hk => by have := hk1 k (by omega); omega))
      have HLo := hidP (fun w' (hx : Ext w1 w') (a' : Option Addr) (n' c' : Nat) (hs' : List Hdr) (ys : List Stp) (ho : OwnK stepK w' w.heap.size w'.heap.size a' n' c' hs' ys) (hp : PathP R ys) => lowered_any R ta tn tc ts i a' n' c' ys w' (Hc.out.below (HX1.out.trans hx)) hT2 hi ho.stepsAt hp (fun w'' hx' => HIs.out w'' ((HX1.out.trans hx).trans hx')))
      have HRa := hidP (fun w' (hx : Ext w1 w') (a' : Option Addr) (n' c' : Nat) (hs' : List Hdr) (ys : List Stp) (ho : OwnK stepK w' w.heap.size w'.heap.size a' n' c' hs' ys) (hp : PathP R ys) => raised_any R ta tn tc ts i a' n' c' ys w' (Hc.out.below (HX1.out.trans hx)) hT2 hi ho.stepsAt hp (fun w'' hx' => HIs.out w'' ((HX1.out.trans hx).trans hx')))
      unfold PathRes at HLo HRa
      clear hT hT2 hP1 hQ hE hX hlE hl1 hk1 HJ hnl
      have hi0 : (0 : Int) ≤ (i : Int) := by omega
      by_cases hpos : 0 < X
      · obtain ⟨N, hN⟩ : ∃ N : Nat, X = (N : Int) := ⟨(X).toNat, by omega⟩
        have HRy : Hid ((J1, J2) = optJ (moveN (lowF R ts i) N xs)) := by
          show _ = _
          rw [HRx.out]
          unfold reflX
          rw [if_pos hpos]
          congr 2
          rw [hN]
          omega
        have hN3 : N ≤ 3000 := by omega
        have hN1 : 1 ≤ N := by omega
        have HNX := hidP hN
        clear hpos hN HRx
        go_enter Tryz.func27, Tryz.ntmps27
        go_wp2_with fail
        rw [← hw1]
        clear hw1
        refine HP.out.mono ?_
        rintro e w2 ⟨ae, ne, ce, rfl, ho, hx⟩
        have HEn := hidP (ho.len)
        have hne : ne = R := by
          have := HEn.out
          have := HlE.out
          omega
        subst hne
        obtain ⟨g0, g1⟩ := HC.out w2 hx
        have HX := hidP hx
        have HOe := hidP (ho.ints)
        clear hx ho f0 f1 HEn
        go_wp2_with fail
        refine (HIn.out _).mono ?_
        rintro e w2' ⟨rfl, hww⟩
        rw [← hww]
        clear hww HIn
        go_wp2_with fail
        refine (HCp.out _ HX.out).mono ?_
        rintro e w3 ⟨g, c0, hs0, rfl, ho, hx⟩
        have HX3 := hidP (HX.out.trans hx)
        have HO3 := hidP (ho.weaken (HX1.out.trans HX.out).size (Nat.le_refl _))
        have HOe3 := hidP (HOe.out.below hx)
        obtain ⟨be, oe, rfl, hce⟩ := HOe3.out.one i hi
        have HCe : Hid (∀ w', Ext w3 w' → w'.cell? ⟨be, oe + i, none⟩ = some (.int .i64 X)) := by
          intro w' hx'
          have := hce w' hx'
          rw [← HXe.out] at this
          exact this
        have hiR : (i : Int) < (ne : Int) := by omega
        clear ho hx HOe HOe3 hce g0 g1
        rw [HNX.out] at HCe
        clear HNX hsm
        have hwn : IntKind.i64.wrap (-((N : Int))) = -((N : Int)) := wrap_in (by omega) (by omega)
        have hmx : max (N : Int) (-(N : Int)) = (N : Int) := by omega
        have hE : Ext w3 w3.drew := Ext.drew w3
        go_wp2
        (refine walkR_start (fun w' => Ext w3 w') 11 (by kernel_rfl) ?_; simp only [numbered, List.take_succ_cons, List.take_zero, Nat.zero_add, Nat.reduceAdd, List.length_cons, List.length_nil])
        (repeat (first | (refine walkR_still (v := ?_) rfl (by decide +kernel) rfl (fun _ _ _ h => h) hE ?_ ?_; rotate_left; (focus (intro w' hw'; obtain q1 := HCe.out w' hw'; go_simp; all_goals (with_reducible rfl))); simp only [Act.put, List.setIfInBounds_toArray, List.set_cons_zero, List.set_cons_succ]) | (refine walkR_skip rfl (by decide +kernel) rfl (fun _ _ _ h => h) hE ?_; simp only [Act.put, List.setIfInBounds_toArray, List.set_cons_zero, List.set_cons_succ])))
        (refine walkR_tail (by rfl) (by kernel_rfl) ?_; simp only [List.drop_succ_cons, List.drop_zero])
        have HO4 := hidP ((HO3.out.below hE).weaken (Nat.le_refl _) hE.size)
        have HX4 := hidP (HX3.out.trans hE)
        have HE4 := hidP hE
        clear hE
        go_wp2
        go_loopw [10, 39] (fun pp kk wr => ∃ (k : Nat) (a' : Option Addr) (n' c' : Nat) (hs' : List Hdr) (ys : List Stp), k ≤ N ∧ pp = .slice a' n' c' ∧ kk = .int .i64 k ∧ Hid (moveN (lowF ne ts i) N xs = moveN (lowF ne ts i) (N - k) ys) ∧ Hid (PathP ne ys) ∧ Hid (OwnK stepK wr w.heap.size wr.heap.size a' n' c' hs' ys) ∧ Hid (Ext w1 wr) ∧ Hid (Ext w3 wr)) (fun _ kk _ => N - (intOf kk).toNat)
        case atStart => exact ⟨0, _, _, _, _, _, by omega, rfl, rfl, rfl, HPp, HO4, HX4, HE4⟩
        case round =>
          obtain ⟨k, a', n', c', hs', ys, hk, rfl, rfl, HF, HPy, HO, HX, HE⟩ := hrel
          obtain ⟨g0, g1⟩ := HC.out wr HX.out
          have q1 := HCe.out wr HE.out
          by_cases hlt : k < N
          · have hlt2 : (k : Int) < (N : Int) := by omega
            have HRi := HLo.out wr HX.out a' n' c' hs' ys HO.out HPy.out
            unfold lowR at HRi
            cases hF : lowF ne ts i ys with
            | none =>
              have HE2 : Hid ((J1, J2) = (false, [])) := by
                show _ = _
                rw [HRy.out, HF.out, moveN_none hF hlt]
                rfl
              obtain ⟨rfl, rfl⟩ := Prod.mk.inj HE2.out
              unfold lowF at hF
              rw [hF] at HRi
              have HRi := hidP HRi
              clear hF HE2
              go_wp2_with fail
              refine HRi.out.mono ?_
              rintro e w5 ⟨a4, n4, c4, hs4, rfl, ho4, hx4⟩
              have HX5 := hidP (HX1.out.trans (HX.out.trans hx4))
              clear ho4 hx4 HRi g0 g1 q1
              dsimp only [optJ]
              go_wp2
              refine bodyPost_ret (v := .tuple #[.slice none 0 0, .bool false]) (by simp [results, Tryz.results27, go_sem]) rfl ?_
              first | exact ⟨none, 0, 0, [], rfl, OwnK.nil stepK _ _ _, HX5.out⟩ | exact ⟨none, 0, 0, rfl, ⟨[], OwnK.nil stepK _ _ _⟩, HX5.out⟩
            | some q' =>
              have HFn : Hid (moveN (lowF ne ts i) N xs = moveN (lowF ne ts i) (N - (k + 1)) q') := by
                show _ = _
                rw [HF.out, moveN_some hF hlt]
              unfold lowF at hF
              have HPq := hidP (pathB_iff.1 (lowS_path hF))
              rw [hF] at HRi
              have HRi := hidP HRi
              clear hF
              go_wp2_with fail
              refine HRi.out.mono ?_
              rintro e w5 ⟨a4, n4, c4, hs4, rfl, ho4, hx4⟩
              have HX5 := hidP (HX.out.trans hx4)
              have HE5 := hidP (HE.out.trans hx4)
              have HO5 := hidP (ho4.weaken (HX1.out.trans HX.out).size (Nat.le_refl _))
              clear ho4 hx4 HRi g0 g1 q1
              dsimp only [optJ]
              go_wp2
              go_roundw
              case rel => exact ⟨k + 1, a4, n4, c4, hs4, q', by omega, rfl, by go_num, HFn, HPq, HO5, HX5, HE5⟩
              case measure => simp [intOf]; omega
          · obtain rfl : N = k := by omega
            have HE2 : Hid ((J1, J2) = (true, ys)) := by
              show _ = _
              rw [HRy.out, HF.out, moveN_done]
              rfl
            obtain ⟨rfl, rfl⟩ := Prod.mk.inj HE2.out
            clear HE2 g0 g1 q1
            go_wp2
            refine bodyPost_ret (v := .tuple #[.slice a' n' c', .bool true]) (by simp [results, Tryz.results27, go_sem]) rfl ?_
            first | exact ⟨a', n', c', hs', rfl, HO.out, HX1.out.trans HX.out⟩ | exact ⟨a', n', c', rfl, ⟨hs', HO.out⟩, HX1.out.trans HX.out⟩
      · obtain ⟨N, hN⟩ : ∃ N : Nat, X = -(N : Int) := ⟨(-X).toNat, by omega⟩
        have HRy : Hid ((J1, J2) = optJ (moveN (raiF2 R ts i) N xs)) := by
          show _ = _
          rw [HRx.out]
          unfold reflX
          rw [if_neg hpos]
          congr 2
          rw [hN]
          omega
        have hN3 : N ≤ 3000 := by omega
        have HNX := hidP hN
        clear hpos hN HRx
        go_enter Tryz.func27, Tryz.ntmps27
        go_wp2_with fail
        rw [← hw1]
        clear hw1
        refine HP.out.mono ?_
        rintro e w2 ⟨ae, ne, ce, rfl, ho, hx⟩
        have HEn := hidP (ho.len)
        have hne : ne = R := by
          have := HEn.out
          have := HlE.out
          omega
        subst hne
        obtain ⟨g0, g1⟩ := HC.out w2 hx
        have HX := hidP hx
        have HOe := hidP (ho.ints)
        clear hx ho f0 f1 HEn
        go_wp2_with fail
        refine (HIn.out _).mono ?_
        rintro e w2' ⟨rfl, hww⟩
        rw [← hww]
        clear hww HIn
        go_wp2_with fail
        refine (HCp.out _ HX.out).mono ?_
        rintro e w3 ⟨g, c0, hs0, rfl, ho, hx⟩
        have HX3 := hidP (HX.out.trans hx)
        have HO3 := hidP (ho.weaken (HX1.out.trans HX.out).size (Nat.le_refl _))
        have HOe3 := hidP (HOe.out.below hx)
        obtain ⟨be, oe, rfl, hce⟩ := HOe3.out.one i hi
        have HCe : Hid (∀ w', Ext w3 w' → w'.cell? ⟨be, oe + i, none⟩ = some (.int .i64 X)) := by
          intro w' hx'
          have := hce w' hx'
          rw [← HXe.out] at this
          exact this
        have hiR : (i : Int) < (ne : Int) := by omega
        clear ho hx HOe HOe3 hce g0 g1
        rw [HNX.out] at HCe
        clear HNX hsm
        have hwn : IntKind.i64.wrap (-(-(N : Int))) = -(-(N : Int)) := wrap_in (by omega) (by omega)
        have hmx : max (-(N : Int)) (-(-(N : Int))) = (N : Int) := by omega
        have hE : Ext w3 w3.drew := Ext.drew w3
        go_wp2
        (refine walkR_start (fun w' => Ext w3 w') 11 (by kernel_rfl) ?_; simp only [numbered, List.take_succ_cons, List.take_zero, Nat.zero_add, Nat.reduceAdd, List.length_cons, List.length_nil])
        (repeat (first | (refine walkR_still (v := ?_) rfl (by decide +kernel) rfl (fun _ _ _ h => h) hE ?_ ?_; rotate_left; (focus (intro w' hw'; obtain q1 := HCe.out w' hw'; go_simp; all_goals (with_reducible rfl))); simp only [Act.put, List.setIfInBounds_toArray, List.set_cons_zero, List.set_cons_succ]) | (refine walkR_skip rfl (by decide +kernel) rfl (fun _ _ _ h => h) hE ?_; simp only [Act.put, List.setIfInBounds_toArray, List.set_cons_zero, List.set_cons_succ])))
        (refine walkR_tail (by rfl) (by kernel_rfl) ?_; simp only [List.drop_succ_cons, List.drop_zero])
        have HO4 := hidP ((HO3.out.below hE).weaken (Nat.le_refl _) hE.size)
        have HX4 := hidP (HX3.out.trans hE)
        have HE4 := hidP hE
        clear hE
        go_wp2
        go_loopw [10, 39] (fun pp kk wr => ∃ (k : Nat) (a' : Option Addr) (n' c' : Nat) (hs' : List Hdr) (ys : List Stp), k ≤ N ∧ pp = .slice a' n' c' ∧ kk = .int .i64 k ∧ Hid (moveN (raiF2 ne ts i) N xs = moveN (raiF2 ne ts i) (N - k) ys) ∧ Hid (PathP ne ys) ∧ Hid (OwnK stepK wr w.heap.size wr.heap.size a' n' c' hs' ys) ∧ Hid (Ext w1 wr) ∧ Hid (Ext w3 wr)) (fun _ kk _ => N - (intOf kk).toNat)
        case atStart => exact ⟨0, _, _, _, _, _, by omega, rfl, rfl, rfl, HPp, HO4, HX4, HE4⟩
        case round =>
          obtain ⟨k, a', n', c', hs', ys, hk, rfl, rfl, HF, HPy, HO, HX, HE⟩ := hrel
          obtain ⟨g0, g1⟩ := HC.out wr HX.out
          have q1 := HCe.out wr HE.out
          by_cases hlt : k < N
          · have hlt2 : (k : Int) < (N : Int) := by omega
            have HRi := HRa.out wr HX.out a' n' c' hs' ys HO.out HPy.out
            unfold raiR at HRi
            cases hF : raiF2 ne ts i ys with
            | none =>
              have HE2 : Hid ((J1, J2) = (false, [])) := by
                show _ = _
                rw [HRy.out, HF.out, moveN_none hF hlt]
                rfl
              obtain ⟨rfl, rfl⟩ := Prod.mk.inj HE2.out
              unfold raiF2 at hF
              rw [hF] at HRi
              have HRi := hidP HRi
              clear hF HE2
              go_wp2_with fail
              refine HRi.out.mono ?_
              rintro e w5 ⟨a4, n4, c4, hs4, rfl, ho4, hx4⟩
              have HX5 := hidP (HX1.out.trans (HX.out.trans hx4))
              clear ho4 hx4 HRi g0 g1 q1
              dsimp only [optJ]
              go_wp2
              refine bodyPost_ret (v := .tuple #[.slice none 0 0, .bool false]) (by simp [results, Tryz.results27, go_sem]) rfl ?_
              first | exact ⟨none, 0, 0, [], rfl, OwnK.nil stepK _ _ _, HX5.out⟩ | exact ⟨none, 0, 0, rfl, ⟨[], OwnK.nil stepK _ _ _⟩, HX5.out⟩
            | some q' =>
              have HFn : Hid (moveN (raiF2 ne ts i) N xs = moveN (raiF2 ne ts i) (N - (k + 1)) q') := by
                show _ = _
                rw [HF.out, moveN_some hF hlt]
              unfold raiF2 at hF
              have HPq := hidP (pathB_iff.1 (raiS_path hF))
              rw [hF] at HRi
              have HRi := hidP HRi
              clear hF
              go_wp2_with fail
              refine HRi.out.mono ?_
              rintro e w5 ⟨a4, n4, c4, hs4, rfl, ho4, hx4⟩
              have HX5 := hidP (HX.out.trans hx4)
              have HE5 := hidP (HE.out.trans hx4)
              have HO5 := hidP (ho4.weaken (HX1.out.trans HX.out).size (Nat.le_refl _))
              clear ho4 hx4 HRi g0 g1 q1
              dsimp only [optJ]
              go_wp2
              go_roundw
              case rel => exact ⟨k + 1, a4, n4, c4, hs4, q', by omega, rfl, by go_num, HFn, HPq, HO5, HX5, HE5⟩
              case measure => simp [intOf]; omega
          · obtain rfl : N = k := by omega
            have HE2 : Hid ((J1, J2) = (true, ys)) := by
              show _ = _
              rw [HRy.out, HF.out, moveN_done]
              rfl
            obtain ⟨rfl, rfl⟩ := Prod.mk.inj HE2.out
            clear HE2 g0 g1 q1
            go_wp2
            refine bodyPost_ret (v := .tuple #[.slice a' n' c', .bool true]) (by simp [results, Tryz.results27, go_sem]) rfl ?_
            first | exact ⟨a', n', c', hs', rfl, HO.out, HX1.out.trans HX.out⟩ | exact ⟨a', n', c', rfl, ⟨hs', HO.out⟩, HX1.out.trans HX.out⟩

set_option maxHeartbeats 8000000 in
theorem sReflectPath_any (r : Int) (ta : Option Addr) (tn tc : Nat) (ts : List Int) (q : Int) (a : Option Addr) (n c : Nat) (xs : List Stp) (w : World) (hc : IntsAt w ta tn ts) (hcn : tn ≤ 9223372036854775807)
    (h : StepsAt w a n xs) (hnc : n ≤ c) (hcc : c ≤ 9223372036854775807) :
    PathRes 26 #[carV r ta tn tc, .int .i64 q, .slice a n c] w (reflT r ts q xs) := by
  unfold PathRes
  obtain ⟨⟨J1, J2⟩, hJ⟩ : ∃ J, J = reflT r ts q xs := ⟨_, rfl⟩
  rw [← hJ]
  have HJ := hidP hJ
  clear hJ
  dsimp only
  have hn : n ≤ 9223372036854775807 := by omega
  have hx1 := Ext.alloc w (.cells #[.int .i64 r, .slice ta tn tc] 31)
  have HC := hidP (fun w' (hx : Ext (w.alloc (.cells #[.int .i64 r, .slice ta tn tc] 31)) w') => (CarAt.new w _ rfl r ta tn tc 31).below hx)
  have HX1 := hidP hx1
  have H := hidP h
  have Hc := hidP hc
  have hnl := h.len
  have HP := hidP (sEndOf_any r ta tn tc ts a n c xs _ (hc.below hx1) hcn (h.below hx1).terms hn)
  unfold EndRes at HP
  clear hc h hx1
  obtain ⟨w1, hw1⟩ : ∃ w1, w1 = w.alloc (.cells #[.int .i64 r, .slice ta tn tc] 31) := ⟨_, rfl⟩
  rw [← hw1] at HC HX1 HP
  obtain ⟨f0, f1⟩ := HC.out w1 (Ext.refl w1)
  obtain ⟨⟨E1, E2⟩, hE⟩ : ∃ E, E = endT r ts xs := ⟨_, rfl⟩
  rw [← hE] at HP
  dsimp only at HP
  cases E1 with
  | false =>
    have HE : Hid ((J1, J2) = (false, [])) := by
      show _ = _
      rw [HJ.out]
      unfold reflT
      cases hT : (typeB r ts && pathB r.toNat xs)
      · rfl
      · rw [endT_eq hT] at hE
        simp only [if_true]
        split
        · unfold reflP
          rw [← hE]
          rfl
        · rfl
    obtain ⟨rfl, rfl⟩ := Prod.mk.inj HE.out
    clear hE HE hnl
    go_enter Tryz.func26, Tryz.ntmps26
    go_wp2_with fail
    rw [← hw1]
    clear hw1
    refine HP.out.mono ?_
    rintro e w2 ⟨ae, ne, ce, rfl, ho, hx⟩
    have HX := hidP (HX1.out.trans hx)
    clear hx ho
    go_wp2
    refine bodyPost_ret (v := .tuple #[.slice none 0 0, .bool false]) (by simp [results, Tryz.results26, go_sem]) rfl ?_
    first | exact ⟨none, 0, 0, [], rfl, OwnK.nil stepK _ _ _, HX.out⟩ | exact ⟨none, 0, 0, rfl, ⟨[], OwnK.nil stepK _ _ _⟩, HX.out⟩
  | true =>
    have hT : (typeB r ts && pathB r.toNat xs) = true := by
      cases hT : (typeB r ts && pathB r.toNat xs)
      · unfold endT at hE
        rw [hT] at hE
        cases hE
      · rfl
    rw [endT_eq hT] at hE
    have hT2 : typeB r ts = true := by
      simp only [Bool.and_eq_true] at hT
      exact hT.1
    have hP1 : pathB r.toNat xs = true := by
      simp only [Bool.and_eq_true] at hT
      exact hT.2
    obtain ⟨hr1, hr4, _⟩ := typeB_rank hT2
    obtain ⟨R, rfl⟩ : ∃ R : Nat, r = R := ⟨r.toNat, by omega⟩
    rw [Int.toNat_natCast] at hP1 hE
    have hwr : IntKind.i64.wrap ((R : Int) - 1) = (R : Int) - 1 := wrap_in (by omega) (by omega)
    have HIn := hidP (fun w' => l1In_any q 0 ((R : Int) - 1) w')
    cases hQ : insB q 0 ((R : Int) - 1)
    · have HE : Hid ((J1, J2) = (false, [])) := by
        show _ = _
        rw [HJ.out]
        unfold reflT
        rw [hT, hQ]
        rfl
      obtain ⟨rfl, rfl⟩ := Prod.mk.inj HE.out
      rw [hQ] at HIn
      clear hT hT2 hP1 hQ hE HE hnl
      go_enter Tryz.func26, Tryz.ntmps26
      go_wp2_with fail
      rw [← hw1]
      clear hw1
      refine HP.out.mono ?_
      rintro e w2 ⟨ae, ne, ce, rfl, ho, hx⟩
      obtain ⟨g0, g1⟩ := HC.out w2 hx
      have HX := hidP (HX1.out.trans hx)
      clear hx ho f0 f1
      go_wp2_with fail
      refine (HIn.out _).mono ?_
      rintro e w2' ⟨rfl, hww⟩
      rw [← hww]
      clear hww HIn
      go_wp2
      refine bodyPost_ret (v := .tuple #[.slice none 0 0, .bool false]) (by simp [results, Tryz.results26, go_sem]) rfl ?_
      first | exact ⟨none, 0, 0, [], rfl, OwnK.nil stepK _ _ _, HX.out⟩ | exact ⟨none, 0, 0, rfl, ⟨[], OwnK.nil stepK _ _ _⟩, HX.out⟩
    · obtain ⟨hq0, hq1⟩ := insB_true.1 hQ
      obtain ⟨i, rfl⟩ : ∃ i : Nat, q = i := ⟨q.toNat, by omega⟩
      have hi : i < R := by omega
      have HPp := hidP (pathB_iff.1 hP1)
      have hsm := endR_small HPp.out hi
      have hlE := endR_len (r := R) (p := xs) (by rw [← hE])
      rw [← hE] at hsm hlE
      dsimp only at hsm hlE
      obtain ⟨X, hX⟩ : ∃ X, X = E2.getD i 0 := ⟨_, rfl⟩
      rw [← hX] at hsm
      have HRx : Hid ((J1, J2) = optJ (reflX R ts i X xs)) := by
        show _ = _
        rw [HJ.out]
        unfold reflT
        rw [hT, hQ]
        show reflP R ts i xs = _
        unfold reflP
        rw [← hE]
        dsimp only
        rw [if_pos rfl, ← hX]
      obtain ⟨hl1, hk1⟩ := pathB_small hP1
      rw [hQ] at HIn
      have HXe := hidP hX
      have HlE := hidP hlE
      have HCp := hidP (fun w' (hx : Ext w1 w') => l9Join_any none 0 0 [] a n c xs w' (stepsAt_nil w') (H.out.below (HX1.out.trans hx)) (by omega) (fun k hk => by omega) (fun k hk => by have := hk1 k (by omega); omega))
      rw [List.nil_append, join_path HPp.out] at HCp
      have HLo := hidP (fun w' (hx : Ext w1 w') (a' : Option Addr) (n' c' : Nat) (hs' : List Hdr) (ys : List Stp) (ho : OwnK stepK w' w.heap.size w'.heap.size a' n' c' hs' ys) (hp : PathP R ys) => l9LowerPath_any R ta tn tc ts i a' n' c' ys w' (Hc.out.below (HX1.out.trans hx)) hT2 hi ho.stepsAt ho.room.1 ho.room.2 hp)
      have HRa := hidP (fun w' (hx : Ext w1 w') (a' : Option Addr) (n' c' : Nat) (hs' : List Hdr) (ys : List Stp) (ho : OwnK stepK w' w.heap.size w'.heap.size a' n' c' hs' ys) (hp : PathP R ys) => l9RaisePath_any R ta tn tc ts i a' n' c' ys w' (Hc.out.below (HX1.out.trans hx)) hT2 hi ho.stepsAt hp)
      unfold PathRes at HLo HRa
      clear hT hT2 hP1 hQ hE hX hlE hl1 hk1 HJ hnl
      have hi0 : (0 : Int) ≤ (i : Int) := by omega
      by_cases hpos : 0 < X
      · obtain ⟨N, hN⟩ : ∃ N : Nat, X = (N : Int) := ⟨(X).toNat, by omega⟩
        have HRy : Hid ((J1, J2) = optJ (moveN (lowF R ts i) N xs)) := by
          show _ = _
          rw [HRx.out]
          unfold reflX
          rw [if_pos hpos]
          congr 2
          rw [hN]
          omega
        have hN3 : N ≤ 3000 := by omega
        have hN1 : 1 ≤ N := by omega
        have HNX := hidP hN
        clear hpos hN HRx
        go_enter Tryz.func26, Tryz.ntmps26
        go_wp2_with fail
        rw [← hw1]
        clear hw1
        refine HP.out.mono ?_
        rintro e w2 ⟨ae, ne, ce, rfl, ho, hx⟩
        have HEn := hidP (ho.len)
        have hne : ne = R := by
          have := HEn.out
          have := HlE.out
          omega
        subst hne
        obtain ⟨g0, g1⟩ := HC.out w2 hx
        have HX := hidP hx
        have HOe := hidP (ho.ints)
        clear hx ho f0 f1 HEn
        go_wp2_with fail
        refine (HIn.out _).mono ?_
        rintro e w2' ⟨rfl, hww⟩
        rw [← hww]
        clear hww HIn
        go_wp2_with fail
        refine (HCp.out _ HX.out).mono ?_
        rintro e w3 ⟨a0, n0, c0, hs0, rfl, ho, hx⟩
        have HX3 := hidP (HX.out.trans hx)
        have HO3 := hidP (ho.weaken (HX1.out.trans HX.out).size (Nat.le_refl _))
        have HOe3 := hidP (HOe.out.below hx)
        obtain ⟨be, oe, rfl, hce⟩ := HOe3.out.one i hi
        have HCe : Hid (∀ w', Ext w3 w' → w'.cell? ⟨be, oe + i, none⟩ = some (.int .i64 X)) := by
          intro w' hx'
          have := hce w' hx'
          rw [← HXe.out] at this
          exact this
        have hiR : (i : Int) < (ne : Int) := by omega
        clear ho hx HOe HOe3 hce g0 g1
        rw [HNX.out] at HCe
        clear HNX hsm
        obtain q1 := HCe.out w3 (Ext.refl w3)
        go_wp2
        go_loopw [9, 10, 11] (fun bb pp kk wr => ∃ (k : Nat) (b : Bool) (a' : Option Addr) (n' c' : Nat) (hs' : List Hdr) (ys : List Stp), k ≤ N ∧ bb = .bool b ∧ pp = .slice a' n' c' ∧ kk = .int .i64 ((N : Int) - k) ∧ Hid (b = true → moveN (lowF ne ts i) N xs = moveN (lowF ne ts i) (N - k) ys ∧ PathP ne ys) ∧ Hid (b = false → moveN (lowF ne ts i) N xs = none) ∧ Hid (OwnK stepK wr w.heap.size wr.heap.size a' n' c' hs' ys) ∧ Hid (Ext w1 wr) ∧ Hid (Ext w3 wr)) (fun _ _ kk _ => (intOf kk).toNat)
        case atStart => exact ⟨0, true, _, _, _, _, _, by omega, rfl, rfl, by go_num, fun _ => ⟨rfl, HPp.out⟩, fun e => by (cases e), HO3, HX3, Ext.refl _⟩
        case round =>
          obtain ⟨k, b, a', n', c', hs', ys, hk, rfl, rfl, rfl, HF, HFf, HO, HX, HE⟩ := hrel
          obtain ⟨g0, g1⟩ := HC.out wr HX.out
          have q1 := HCe.out wr HE.out
          by_cases hlt : k < N
          · have hlt2 : (0 : Int) < (N : Int) - k := by omega
            cases b with
            | false =>
              have HE2 : Hid ((J1, J2) = (false, [])) := by
                show _ = _
                rw [HRy.out, HFf.out rfl]
                rfl
              obtain ⟨rfl, rfl⟩ := Prod.mk.inj HE2.out
              clear HE2 HF HFf
              go_wp2
              go_loopw [9, 10, 12] (fun bb pp kk wr' => bb = .bool false ∧ pp = .slice a' n' c' ∧ kk = .int .i64 (N : Int) ∧ wr' = wr) (fun _ _ kk _ => 0)
              case atStart => exact ⟨rfl, rfl, rfl, rfl⟩
              case round =>
                obtain ⟨rfl, rfl, rfl, rfl⟩ := hrel
                have hno : ¬ ((N : Int) < 0) := by omega
                go_wp2
                refine bodyPost_ret (v := .tuple #[.slice none 0 0, .bool false]) (by simp [results, Tryz.results26, go_sem]) rfl ?_
                first | exact ⟨none, 0, 0, [], rfl, OwnK.nil stepK _ _ _, HX1.out.trans HX.out⟩ | exact ⟨none, 0, 0, rfl, ⟨[], OwnK.nil stepK _ _ _⟩, HX1.out.trans HX.out⟩
            | true =>
              obtain ⟨HF1, hpy⟩ := HF.out rfl
              have HF1 := hidP HF1
              have HPy := hidP hpy
              clear hpy HF HFf
              have HRi := HLo.out wr HX.out a' n' c' hs' ys HO.out HPy.out
              unfold lowR at HRi
              cases hF : lowF ne ts i ys with
              | none =>
                have HNo : Hid (moveN (lowF ne ts i) N xs = none) := by
                  show _ = _
                  rw [HF1.out, moveN_none hF hlt]
                unfold lowF at hF
                rw [hF] at HRi
                have HRi := hidP HRi
                clear hF
                go_wp2_with fail
                refine HRi.out.mono ?_
                rintro e w5 ⟨a4, n4, c4, hs4, rfl, ho4, hx4⟩
                have HX5 := hidP (HX.out.trans hx4)
                have HE5 := hidP (HE.out.trans hx4)
                have HO5 := hidP (ho4.weaken (HX1.out.trans HX.out).size (Nat.le_refl _))
                clear ho4 hx4 HRi g0 g1 q1
                dsimp only [optJ] at HO5 ⊢
                go_wp2
                go_roundw
                case rel => exact ⟨k + 1, false, a4, n4, c4, hs4, [], by omega, rfl, rfl, by go_num, fun e => by (cases e), fun _ => HNo.out, HO5, HX5, HE5⟩
                case measure => simp [intOf]; omega
              | some q' =>
                have HFn : Hid (moveN (lowF ne ts i) N xs = moveN (lowF ne ts i) (N - (k + 1)) q') := by
                  show _ = _
                  rw [HF1.out, moveN_some hF hlt]
                unfold lowF at hF
                have HPq := hidP (pathB_iff.1 (lowS_path hF))
                rw [hF] at HRi
                have HRi := hidP HRi
                clear hF
                go_wp2_with fail
                refine HRi.out.mono ?_
                rintro e w5 ⟨a4, n4, c4, hs4, rfl, ho4, hx4⟩
                have HX5 := hidP (HX.out.trans hx4)
                have HE5 := hidP (HE.out.trans hx4)
                have HO5 := hidP (ho4.weaken (HX1.out.trans HX.out).size (Nat.le_refl _))
                clear ho4 hx4 HRi g0 g1 q1
                dsimp only [optJ] at HO5 ⊢
                go_wp2
                go_roundw
                case rel => exact ⟨k + 1, true, a4, n4, c4, hs4, q', by omega, rfl, rfl, by go_num, fun _ => ⟨HFn.out, HPq.out⟩, fun e => by (cases e), HO5, HX5, HE5⟩
                case measure => simp [intOf]; omega
          · obtain rfl : N = k := by omega
            cases b with
            | false =>
              have HE2 : Hid ((J1, J2) = (false, [])) := by
                show _ = _
                rw [HRy.out, HFf.out rfl]
                rfl
              obtain ⟨rfl, rfl⟩ := Prod.mk.inj HE2.out
              clear HE2 HF HFf
              go_wp2
              go_loopw [9, 10, 12] (fun bb pp kk wr' => bb = .bool false ∧ pp = .slice a' n' c' ∧ kk = .int .i64 (N : Int) ∧ wr' = wr) (fun _ _ kk _ => 0)
              case atStart => exact ⟨rfl, rfl, rfl, rfl⟩
              case round =>
                obtain ⟨rfl, rfl, rfl, rfl⟩ := hrel
                have hno : ¬ ((N : Int) < 0) := by omega
                go_wp2
                refine bodyPost_ret (v := .tuple #[.slice none 0 0, .bool false]) (by simp [results, Tryz.results26, go_sem]) rfl ?_
                first | exact ⟨none, 0, 0, [], rfl, OwnK.nil stepK _ _ _, HX1.out.trans HX.out⟩ | exact ⟨none, 0, 0, rfl, ⟨[], OwnK.nil stepK _ _ _⟩, HX1.out.trans HX.out⟩
            | true =>
              have HE2 : Hid ((J1, J2) = (true, ys)) := by
                show _ = _
                rw [HRy.out, (HF.out rfl).1, moveN_done]
                rfl
              obtain ⟨rfl, rfl⟩ := Prod.mk.inj HE2.out
              clear HE2 HF HFf
              go_wp2
              go_loopw [9, 10, 12] (fun bb pp kk wr' => bb = .bool true ∧ pp = .slice a' n' c' ∧ kk = .int .i64 (N : Int) ∧ wr' = wr) (fun _ _ kk _ => 0)
              case atStart => exact ⟨rfl, rfl, rfl, rfl⟩
              case round =>
                obtain ⟨rfl, rfl, rfl, rfl⟩ := hrel
                have hno : ¬ ((N : Int) < 0) := by omega
                go_wp2
                refine bodyPost_ret (v := .tuple #[.slice a' n' c', .bool true]) (by simp [results, Tryz.results26, go_sem]) rfl ?_
                first | exact ⟨a', n', c', hs', rfl, HO.out, HX1.out.trans HX.out⟩ | exact ⟨a', n', c', rfl, ⟨hs', HO.out⟩, HX1.out.trans HX.out⟩
      · obtain ⟨N, hN⟩ : ∃ N : Nat, X = -(N : Int) := ⟨(-X).toNat, by omega⟩
        have HRy : Hid ((J1, J2) = optJ (moveN (raiF2 R ts i) N xs)) := by
          show _ = _
          rw [HRx.out]
          unfold reflX
          rw [if_neg hpos]
          congr 2
          rw [hN]
          omega
        have hN3 : N ≤ 3000 := by omega
        have HNX := hidP hN
        clear hpos hN HRx
        go_enter Tryz.func26, Tryz.ntmps26
        go_wp2_with fail
        rw [← hw1]
        clear hw1
        refine HP.out.mono ?_
        rintro e w2 ⟨ae, ne, ce, rfl, ho, hx⟩
        have HEn := hidP (ho.len)
        have hne : ne = R := by
          have := HEn.out
          have := HlE.out
          omega
        subst hne
        obtain ⟨g0, g1⟩ := HC.out w2 hx
        have HX := hidP hx
        have HOe := hidP (ho.ints)
        clear hx ho f0 f1 HEn
        go_wp2_with fail
        refine (HIn.out _).mono ?_
        rintro e w2' ⟨rfl, hww⟩
        rw [← hww]
        clear hww HIn
        go_wp2_with fail
        refine (HCp.out _ HX.out).mono ?_
        rintro e w3 ⟨a0, n0, c0, hs0, rfl, ho, hx⟩
        have HX3 := hidP (HX.out.trans hx)
        have HO3 := hidP (ho.weaken (HX1.out.trans HX.out).size (Nat.le_refl _))
        have HOe3 := hidP (HOe.out.below hx)
        obtain ⟨be, oe, rfl, hce⟩ := HOe3.out.one i hi
        have HCe : Hid (∀ w', Ext w3 w' → w'.cell? ⟨be, oe + i, none⟩ = some (.int .i64 X)) := by
          intro w' hx'
          have := hce w' hx'
          rw [← HXe.out] at this
          exact this
        have hiR : (i : Int) < (ne : Int) := by omega
        clear ho hx HOe HOe3 hce g0 g1
        rw [HNX.out] at HCe
        clear HNX hsm
        obtain q1 := HCe.out w3 (Ext.refl w3)
        go_wp2
        go_loopw [9, 10, 11] (fun bb pp kk wr => bb = .bool true ∧ pp = .slice a0 n0 c0 ∧ kk = .int .i64 (-(N : Int)) ∧ Hid (OwnK stepK wr w.heap.size wr.heap.size a0 n0 c0 hs0 xs) ∧ Hid (Ext w1 wr) ∧ Hid (Ext w3 wr)) (fun _ _ kk _ => 0)
        case atStart => exact ⟨rfl, rfl, rfl, HO3, HX3, Ext.refl _⟩
        case round =>
          obtain ⟨rfl, rfl, rfl, HO6, HX6, HE6⟩ := hrel
          have hno : ¬ ((0 : Int) < -(N : Int)) := by omega
          have q1 := HCe.out wr HE6.out
          go_wp2
          go_loopw [9, 10, 12] (fun bb pp kk wr => ∃ (k : Nat) (b : Bool) (a' : Option Addr) (n' c' : Nat) (hs' : List Hdr) (ys : List Stp), k ≤ N ∧ bb = .bool b ∧ pp = .slice a' n' c' ∧ kk = .int .i64 (-(N : Int) + k) ∧ Hid (b = true → moveN (raiF2 ne ts i) N xs = moveN (raiF2 ne ts i) (N - k) ys ∧ PathP ne ys) ∧ Hid (b = false → moveN (raiF2 ne ts i) N xs = none) ∧ Hid (OwnK stepK wr w.heap.size wr.heap.size a' n' c' hs' ys) ∧ Hid (Ext w1 wr) ∧ Hid (Ext w3 wr)) (fun _ _ kk _ => (-(intOf kk)).toNat)
          case atStart => exact ⟨0, true, _, _, _, _, _, by omega, rfl, rfl, by go_num, fun _ => ⟨rfl, HPp.out⟩, fun e => by (cases e), HO6, HX6, HE6⟩
          case round =>
            obtain ⟨k, b, a', n', c', hs', ys, hk, rfl, rfl, rfl, HF, HFf, HO, HX, HE⟩ := hrel
            obtain ⟨g0, g1⟩ := HC.out wr HX.out
            have q1 := HCe.out wr HE.out
            by_cases hlt : k < N
            · have hlt2 : -(N : Int) + k < 0 := by omega
              cases b with
              | false =>
                have HE2 : Hid ((J1, J2) = (false, [])) := by
                  show _ = _
                  rw [HRy.out, HFf.out rfl]
                  rfl
                obtain ⟨rfl, rfl⟩ := Prod.mk.inj HE2.out
                clear HE2 HF HFf
                go_wp2
                refine bodyPost_ret (v := .tuple #[.slice none 0 0, .bool false]) (by simp [results, Tryz.results26, go_sem]) rfl ?_
                first | exact ⟨none, 0, 0, [], rfl, OwnK.nil stepK _ _ _, HX1.out.trans HX.out⟩ | exact ⟨none, 0, 0, rfl, ⟨[], OwnK.nil stepK _ _ _⟩, HX1.out.trans HX.out⟩
              | true =>
                obtain ⟨HF1, hpy⟩ := HF.out rfl
                have HF1 := hidP HF1
                have HPy := hidP hpy
                clear hpy HF HFf
                have HRi := HRa.out wr HX.out a' n' c' hs' ys HO.out HPy.out
                unfold raiR at HRi
                cases hF : raiF2 ne ts i ys with
                | none =>
                  have HNo : Hid (moveN (raiF2 ne ts i) N xs = none) := by
                    show _ = _
                    rw [HF1.out, moveN_none hF hlt]
                  unfold raiF2 at hF
                  rw [hF] at HRi
                  have HRi := hidP HRi
                  clear hF
                  go_wp2_with fail
                  refine HRi.out.mono ?_
                  rintro e w5 ⟨a4, n4, c4, hs4, rfl, ho4, hx4⟩
                  have HX5 := hidP (HX.out.trans hx4)
                  have HE5 := hidP (HE.out.trans hx4)
                  have HO5 := hidP (ho4.weaken (HX1.out.trans HX.out).size (Nat.le_refl _))
                  clear ho4 hx4 HRi g0 g1 q1
                  dsimp only [optJ] at HO5 ⊢
                  go_wp2
                  go_roundw
                  case rel => exact ⟨k + 1, false, a4, n4, c4, hs4, [], by omega, rfl, rfl, by go_num, fun e => by (cases e), fun _ => HNo.out, HO5, HX5, HE5⟩
                  case measure => simp [intOf]; omega
                | some q' =>
                  have HFn : Hid (moveN (raiF2 ne ts i) N xs = moveN (raiF2 ne ts i) (N - (k + 1)) q') := by
                    show _ = _
                    rw [HF1.out, moveN_some hF hlt]
                  unfold raiF2 at hF
                  have HPq := hidP (pathB_iff.1 (raiS_path hF))
                  rw [hF] at HRi
                  have HRi := hidP HRi
                  clear hF
                  go_wp2_with fail
                  refine HRi.out.mono ?_
                  rintro e w5 ⟨a4, n4, c4, hs4, rfl, ho4, hx4⟩
                  have HX5 := hidP (HX.out.trans hx4)
                  have HE5 := hidP (HE.out.trans hx4)
                  have HO5 := hidP (ho4.weaken (HX1.out.trans HX.out).size (Nat.le_refl _))
                  clear ho4 hx4 HRi g0 g1 q1
                  dsimp only [optJ] at HO5 ⊢
                  go_wp2
                  go_roundw
                  case rel => exact ⟨k + 1, true, a4, n4, c4, hs4, q', by omega, rfl, rfl, by go_num, fun _ => ⟨HFn.out, HPq.out⟩, fun e => by (cases e), HO5, HX5, HE5⟩
                  case measure => simp [intOf]; omega
            · obtain rfl : N = k := by omega
              cases b with
              | false =>
                have HE2 : Hid ((J1, J2) = (false, [])) := by
                  show _ = _
                  rw [HRy.out, HFf.out rfl]
                  rfl
                obtain ⟨rfl, rfl⟩ := Prod.mk.inj HE2.out
                clear HE2 HF HFf
                go_wp2
                refine bodyPost_ret (v := .tuple #[.slice none 0 0, .bool false]) (by simp [results, Tryz.results26, go_sem]) rfl ?_
                first | exact ⟨none, 0, 0, [], rfl, OwnK.nil stepK _ _ _, HX1.out.trans HX.out⟩ | exact ⟨none, 0, 0, rfl, ⟨[], OwnK.nil stepK _ _ _⟩, HX1.out.trans HX.out⟩
              | true =>
                have HE2 : Hid ((J1, J2) = (true, ys)) := by
                  show _ = _
                  rw [HRy.out, (HF.out rfl).1, moveN_done]
                  rfl
                obtain ⟨rfl, rfl⟩ := Prod.mk.inj HE2.out
                clear HE2 HF HFf
                go_wp2
                refine bodyPost_ret (v := .tuple #[.slice a' n' c', .bool true]) (by simp [results, Tryz.results26, go_sem]) rfl ?_
                first | exact ⟨a', n', c', hs', rfl, HO.out, HX1.out.trans HX.out⟩ | exact ⟨a', n', c', rfl, ⟨hs', HO.out⟩, HX1.out.trans HX.out⟩

end Go.Proofs.YtfikkfbnlegflaaGreatDoor
