/-
  HighestPath: a path raised until it cannot be, the program's and the reference's.
  HighestPath, the reference's.
-/
import Derived.Test.YtfikkfbnlegflaaGreatDoorPthZ
import Derived.Test.YtfikkfbnlegflaaGreatDoorCarG
namespace Go.Proofs.YtfikkfbnlegflaaGreatDoor
open Go.RowKit

/-- the first that there is -/
def onceF {β : Type} (F : Nat → Option β) : Nat → Option β
  | 0 => none
  | k + 1 => match onceF F k with
    | some q => some q
    | none => F k
theorem onceF_stay {β : Type} {F : Nat → Option β} {k : Nat} {q : β} (h : onceF F k = some q) : ∀ {m : Nat}, k ≤ m → onceF F m = some q
  | 0, hm => by
    obtain rfl : k = 0 := by omega
    exact h
  | m + 1, hm => by
    rcases Nat.eq_or_lt_of_le hm with e | hlt
    · rw [← e]
      exact h
    · have ih := onceF_stay h (show k ≤ m by omega)
      unfold onceF
      rw [ih]
theorem onceF_step {β : Type} {F : Nat → Option β} {k : Nat} (h : onceF F k = none) : onceF F (k + 1) = F k := by
  conv => lhs; unfold onceF
  rw [h]
theorem onceF_found {β : Type} {F : Nat → Option β} {k : Nat} {q : β} (h : onceF F k = some q) : ∃ i, i < k ∧ F i = some q := by
  induction k with
  | zero => cases h
  | succ k ih =>
    cases hk : onceF F k with
    | none =>
      rw [onceF_step hk] at h
      exact ⟨k, by omega, h⟩
    | some q' =>
      rw [onceF_stay hk (by omega : k ≤ k + 1)] at h
      cases h
      obtain ⟨i, hi, e⟩ := ih hk
      exact ⟨i, by omega, e⟩
def raiF (r : Nat) (ts : List Int) (p : List Stp) (i : Nat) : Option (List Stp) := raiS r (refl r ts i) i p
def raiO (r : Nat) (ts : List Int) (p : List Stp) : Option (List Stp) := onceF (raiF r ts p) r
theorem raiO_path {r : Nat} {ts : List Int} {p q : List Stp} (h : raiO r ts p = some q) : pathB r q = true := by
  obtain ⟨i, _, hi⟩ := onceF_found h
  exact raiS_path hi
/-- raised until it cannot be, in so many rounds -/
def highF {β : Type} (F : β → Option β) : Nat → β → Option β
  | 0, _ => none
  | k + 1, p => match F p with
    | none => some p
    | some q => highF F k q
theorem highF_none {β : Type} {F : β → Option β} {p : β} (h : F p = none) {k : Nat} (hk : k ≤ 400) : highF F (401 - k) p = some p := by
  rw [show 401 - k = (400 - k) + 1 by omega]
  unfold highF
  rw [h]
theorem highF_some {β : Type} {F : β → Option β} {p q : β} (h : F p = some q) {k : Nat} (hk : k ≤ 400) : highF F (401 - k) p = highF F (401 - (k + 1)) q := by
  rw [show 401 - k = (401 - (k + 1)) + 1 by omega]
  conv => lhs; unfold highF
  rw [h]
theorem highF_path {r : Nat} {ts : List Int} : ∀ {k : Nat} {p q : List Stp}, pathB r p = true → highF (raiO r ts) k p = some q → pathB r q = true
  | 0, _, _, _, h => by cases h
  | k + 1, p, q, hp, h => by
    unfold highF at h
    cases hF : raiO r ts p with
    | none =>
      rw [hF] at h
      cases h
      exact hp
    | some p' =>
      rw [hF] at h
      exact highF_path (raiO_path hF) h
def highR (r : Nat) (ts : List Int) (p : List Stp) : Bool × List Stp := optJ (highF (raiO r ts) 401 p)
def highT (r : Int) (ts : List Int) (p : List Stp) : Bool × List Stp := if typeB r ts && pathB r.toNat p then highR r.toNat ts p else (false, [])
theorem highT_ok (r : Int) (ts : List Int) (p : List Stp) : ResOk (highT r ts p) := by
  unfold highT
  split
  · rename_i h
    simp only [Bool.and_eq_true] at h
    have := typeB_rank h.1
    unfold highR
    cases hF : highF (raiO r.toNat ts) 401 p with
    | none => exact .inl rfl
    | some q => exact .inr ⟨r.toNat, by omega, highF_path h.2 hF⟩
  · exact .inl rfl
theorem normal_of_path {r : Nat} {p : List Stp} (h : PathP r p) : Normal p := by
  refine ⟨fun s hs => ?_, ?_, h.ne⟩
  · obtain ⟨k, hk, rfl⟩ := List.getElem_of_mem hs
    have := (h.dur k hk).1
    simp only [lenAt, List.getD_eq_getElem?_getD, List.getElem?_eq_getElem hk, Option.getD_some] at this
    omega
  · clear h
    induction p with
    | nil => exact .nil
    | cons a t ih => exact .cons (fun _ _ => trivial) ih
theorem join_path {r : Nat} {p : List Stp} (h : PathP r p) : joinS p = p :=
  join_unique (fun s hs => by have := (normal_of_path h).1 s hs; omega) (normal_of_path h) rfl

set_option maxHeartbeats 4000000 in
theorem raisedOnce_any (R : Nat) (ta : Option Addr) (tn tc : Nat) (ts : List Int) (a : Option Addr) (n c : Nat) (xs : List Stp) (w : World) (hc : IntsAt w ta tn ts) (hT : typeB R ts = true) (h : StepsAt w a n xs) (hp : PathP R xs)
    (HIs : ∀ w', Ext w w' → Calls Tryz.prog 77 #[carV R ta tn tc] w' fun e w'' => e = .returned (.bool (typeB R ts)) ∧ Ext w' w'') :
    PathRes 65 #[carV R ta tn tc, .slice a n c] w (optJ (raiO R ts xs)) := by
  unfold PathRes
  obtain ⟨⟨J1, J2⟩, hJ⟩ : ∃ J, J = optJ (raiO R ts xs) := ⟨_, rfl⟩
  rw [← hJ]
  have HJ := hidP hJ
  clear hJ
  dsimp only
  have hx1 := Ext.alloc w (.cells #[.int .i64 R, .slice ta tn tc] 31)
  have HC := hidP (fun w' (hx : Ext (w.alloc (.cells #[.int .i64 R, .slice ta tn tc] 31)) w') => (CarAt.new w _ rfl (R : Int) ta tn tc 31).below hx)
  have HX1 := hidP hx1
  have HRa := hidP (fun w' (hx : Ext (w.alloc (.cells #[.int .i64 R, .slice ta tn tc] 31)) w') (i : Nat) (hi : i < R) => raised_any R ta tn tc ts i a n c xs w' (hc.below (hx1.trans hx)) hT hi (h.below (hx1.trans hx)) hp (fun w'' hx' => HIs w'' (hx1.trans (hx.trans hx'))))
  unfold PathRes at HRa
  have hR4 : R ≤ 4 := by have := typeB_rank hT; omega
  obtain ⟨w1, hw1⟩ : ∃ w1, w1 = w.alloc (.cells #[.int .i64 R, .slice ta tn tc] 31) := ⟨_, rfl⟩
  rw [← hw1] at HC HX1 HRa
  obtain ⟨f0, f1⟩ := HC.out w1 (Ext.refl w1)
  clear hc h hx1 HIs hT
  go_enter Tryz.func65, Tryz.ntmps65
  go_wp2_with fail
  rw [← hw1]
  clear hw1
  go_wp2
  go_loopw [11] (fun ii wr => ∃ i : Nat, i ≤ R ∧ ii = .int .i64 i ∧ Hid (onceF (raiF R ts xs) i = none) ∧ Hid (Ext w1 wr)) (fun ii _ => R - (intOf ii).toNat)
  case atStart => exact ⟨0, by omega, rfl, rfl, Ext.refl _⟩
  case round =>
    obtain ⟨i, hi, rfl, HF, HX⟩ := hrel
    obtain ⟨g0, g1⟩ := HC.out wr HX.out
    by_cases hlt : i < R
    · have hlt2 : (i : Int) < (R : Int) := by omega
      have HRi := HRa.out wr HX.out i hlt
      unfold raiR at HRi
      cases hF : raiF R ts xs i with
      | none =>
        have HN : Hid (onceF (raiF R ts xs) (i + 1) = none) := by
          show _ = _
          rw [onceF_step HF.out, hF]
        unfold raiF at hF
        rw [hF] at HRi
        have HRi := hidP HRi
        clear hF
        go_wp2_with fail
        refine HRi.out.mono ?_
        rintro e w3 ⟨a3, n3, c3, hs3, rfl, ho3, hx3⟩
        have HX3 := hidP (HX.out.trans hx3)
        clear ho3 hx3 HRi g0 g1 f0 f1
        dsimp only [optJ]
        go_wp2
        go_roundw
        case rel => exact ⟨i + 1, by omega, by go_num, HN, HX3⟩
        case measure => simp [intOf]; omega
      | some q =>
        have HN : Hid (onceF (raiF R ts xs) R = some q) := by
          show _ = _
          exact onceF_stay ((onceF_step HF.out).trans hF) (by omega)
        unfold raiF at hF
        rw [hF] at HRi
        have HRi := hidP HRi
        have HE : Hid ((J1, J2) = (true, q)) := by
          show _ = _
          rw [HJ.out]
          unfold raiO
          rw [HN.out]
          rfl
        obtain ⟨rfl, rfl⟩ := Prod.mk.inj HE.out
        clear hF HE
        go_wp2_with fail
        refine HRi.out.mono ?_
        rintro e w3 ⟨a3, n3, c3, hs3, rfl, ho3, hx3⟩
        have HX3 := hidP (HX1.out.trans (HX.out.trans hx3))
        have HO3 := hidP (ho3.weaken (HX1.out.trans HX.out).size (Nat.le_refl _))
        clear ho3 hx3 HRi g0 g1 f0 f1
        dsimp only [optJ]
        go_wp2
        refine bodyPost_ret (v := .tuple #[.slice a3 n3 c3, .bool true]) (by simp [results, Tryz.results65, go_sem]) rfl ⟨a3, n3, c3, hs3, rfl, HO3.out, HX3.out⟩
    · obtain rfl : i = R := by omega
      have HE : Hid ((J1, J2) = (false, [])) := by
        show _ = _
        rw [HJ.out]
        unfold raiO
        rw [HF.out]
        rfl
      obtain ⟨rfl, rfl⟩ := Prod.mk.inj HE.out
      clear HE
      go_wp2
      refine bodyPost_ret (v := .tuple #[.slice none 0 0, .bool false]) (by simp [results, Tryz.results65, go_sem]) rfl ⟨none, 0, 0, [], rfl, OwnK.nil stepK _ _ _, HX1.out.trans HX.out⟩

set_option maxHeartbeats 4000000 in
theorem highestPath_any (r : Int) (ta : Option Addr) (tn tc : Nat) (ts : List Int) (a : Option Addr) (n c : Nat) (xs : List Stp) (w : World) (hc : IntsAt w ta tn ts) (hcn : tn ≤ 9223372036854775807)
    (h : StepsAt w a n xs) (hnc : n ≤ c) (hcc : c ≤ 9223372036854775807) (hm : MaxL w) :
    PathRes 25 #[carV r ta tn tc, .slice a n c] w (highT r ts xs) := by
  unfold PathRes
  have hn : n ≤ 9223372036854775807 := by omega
  have hx1 := Ext.alloc w (.cells #[.int .i64 r, .slice ta tn tc] 31)
  have HC := hidP (fun w' (hx : Ext (w.alloc (.cells #[.int .i64 r, .slice ta tn tc] 31)) w') => (CarAt.new w _ rfl r ta tn tc 31).below hx)
  have HX1 := hidP hx1
  have H := hidP h
  have Hc := hidP hc
  have HIs := hidP (fun w' (hx : Ext w w') => isCartan_any r ta tn tc ts w' (hc.below hx) hcn (hm.below hx))
  have HP := hidP (pathOk_of r ta tn tc ts a n c xs _ (h.below hx1).terms hn (fun w' hx => HIs.out w' (hx1.trans hx)))
  have hs1 : w.heap.size ≤ (w.alloc (.cells #[.int .i64 r, .slice ta tn tc] 31)).heap.size := hx1.size
  clear hc h hx1 hm
  obtain ⟨w1, hw1⟩ : ∃ w1, w1 = w.alloc (.cells #[.int .i64 r, .slice ta tn tc] 31) := ⟨_, rfl⟩
  rw [← hw1] at HC HX1 HP hs1
  have HS1 := hidP hs1
  clear hs1
  obtain ⟨f0, f1⟩ := HC.out w1 (Ext.refl w1)
  cases hT : (typeB r ts && pathB r.toNat xs)
  · have HR : Hid (highT r ts xs = (false, [])) := by
      show _ = _
      unfold highT
      rw [hT]
      rfl
    rw [hT] at HP
    clear hT
    go_enter Tryz.func25, Tryz.ntmps25
    go_wp2_with fail
    rw [← hw1]
    clear hw1
    refine HP.out.mono ?_
    rintro e w2 ⟨rfl, hx⟩
    have HX := hidP hx
    clear hx
    go_wp2
    refine bodyPost_ret (v := .tuple #[.slice none 0 0, .bool false]) (by simp [results, Tryz.results25, go_sem]) rfl ⟨none, 0, 0, [], by rw [HR.out], ?_, HX1.out.trans HX.out⟩
    rw [HR.out]
    exact OwnK.nil stepK _ _ _
  · have hT2 : typeB r ts = true := by
      simp only [Bool.and_eq_true] at hT
      exact hT.1
    have hP1 : pathB r.toNat xs = true := by
      simp only [Bool.and_eq_true] at hT
      exact hT.2
    obtain ⟨hr1, hr4, _⟩ := typeB_rank hT2
    obtain ⟨R, rfl⟩ : ∃ R : Nat, r = R := ⟨r.toNat, by omega⟩
    rw [Int.toNat_natCast] at hP1
    have HR : Hid (highT R ts xs = optJ (highF (raiO R ts) 401 xs)) := by
      show _ = _
      unfold highT
      rw [hT]
      rfl
    rw [HR.out]
    obtain ⟨⟨J1, J2⟩, hJ⟩ : ∃ J, J = optJ (highF (raiO R ts) 401 xs) := ⟨_, rfl⟩
    rw [← hJ]
    have HJ := hidP hJ
    dsimp only
    obtain ⟨hl1, hk1⟩ := pathB_small hP1
    have hnl := H.out.len
    have HCp := hidP (fun w' (hx : Ext w1 w') => copySteps_any a n c xs w' (H.out.below (HX1.out.trans hx)) (by omega) (fun k hk => by have := hk1 k (by omega); omega))
    have HPp := hidP (pathB_iff.1 hP1)
    have HRo := hidP (fun w' (hx : Ext w1 w') (a' : Option Addr) (n' c' : Nat) (hs' : List Hdr) (ys : List Stp) (ho : OwnK stepK w' w.heap.size w'.heap.size a' n' c' hs' ys) (hp : PathP R ys) => raisedOnce_any R ta tn tc ts a' n' c' ys w' (Hc.out.below (HX1.out.trans hx)) hT2 ho.stepsAt hp (fun w'' hx' => HIs.out w'' ((HX1.out.trans hx).trans hx')))
    unfold PathRes at HRo
    rw [hT] at HP
    clear hT hT2 hP1 hJ HR hnl hk1 hl1
    go_enter Tryz.func25, Tryz.ntmps25
    go_wp2_with fail
    rw [← hw1]
    clear hw1
    refine HP.out.mono ?_
    rintro e w2 ⟨rfl, hx⟩
    have HX := hidP hx
    clear hx f0 f1
    go_wp2_with fail
    refine (HCp.out _ HX.out).mono ?_
    rintro e w3 ⟨g, c', hs', rfl, ho, hx⟩
    have HX3 := hidP (HX.out.trans hx)
    have HO3 := hidP (ho.weaken (HX1.out.trans HX.out).size (Nat.le_refl _))
    clear ho hx HX
    go_wp2
    go_loopw [6, 7] (fun pp kk wr => ∃ (k : Nat) (a' : Option Addr) (n' c' : Nat) (hs' : List Hdr) (ys : List Stp), k ≤ 400 ∧ pp = .slice a' n' c' ∧ kk = .int .i64 k ∧ Hid (highF (raiO R ts) 401 xs = highF (raiO R ts) (401 - k) ys) ∧ Hid (PathP R ys) ∧ Hid (OwnK stepK wr w.heap.size wr.heap.size a' n' c' hs' ys) ∧ Hid (Ext w1 wr)) (fun _ kk _ => 401 - (intOf kk).toNat)
    case atStart => exact ⟨0, _, _, _, _, _, by omega, rfl, rfl, rfl, HPp, HO3, HX3⟩
    case round =>
      obtain ⟨k, a', n', c', hs', ys, hk, rfl, rfl, HF, HPy, HO, HX⟩ := hrel
      obtain ⟨g0, g1⟩ := HC.out wr HX.out
      have HRi := HRo.out wr HX.out a' n' c' hs' ys HO.out HPy.out
      cases hF : raiO R ts ys with
      | none =>
        rw [hF] at HRi
        have HRi := hidP HRi
        have HE : Hid ((J1, J2) = (true, ys)) := by
          show _ = _
          rw [HJ.out, HF.out, highF_none hF hk]
          rfl
        obtain ⟨rfl, rfl⟩ := Prod.mk.inj HE.out
        clear hF HE
        go_wp2_with fail
        refine HRi.out.mono ?_
        rintro e w4 ⟨a4, n4, c4, hs4, rfl, ho4, hx4⟩
        have HX4 := hidP (HX1.out.trans (HX.out.trans hx4))
        have HO4 := hidP ((HO.out.below hx4).weaken (Nat.le_refl _) hx4.size)
        clear ho4 hx4 HRi g0 g1
        dsimp only [optJ]
        go_wp2
        refine bodyPost_ret (v := .tuple #[.slice a' n' c', .bool true]) (by simp [results, Tryz.results25, go_sem]) rfl ⟨a', n', c', hs', rfl, HO4.out, HX4.out⟩
      | some q =>
        rw [hF] at HRi
        have HRi := hidP HRi
        have HFn : Hid (highF (raiO R ts) 401 xs = highF (raiO R ts) (401 - (k + 1)) q) := by
          show _ = _
          rw [HF.out, highF_some hF hk]
        have HPq := hidP (pathB_iff.1 (raiO_path hF))
        clear hF
        by_cases h4 : k = 400
        · have HE : Hid ((J1, J2) = (false, [])) := by
            show _ = _
            rw [HJ.out, HFn.out, h4]
            rfl
          obtain ⟨rfl, rfl⟩ := Prod.mk.inj HE.out
          subst h4
          clear HE
          go_wp2_with fail
          refine HRi.out.mono ?_
          rintro e w4 ⟨a4, n4, c4, hs4, rfl, ho4, hx4⟩
          have HX4 := hidP (HX1.out.trans (HX.out.trans hx4))
          clear ho4 hx4 HRi g0 g1
          dsimp only [optJ]
          go_wp2
          refine bodyPost_ret (v := .tuple #[.slice none 0 0, .bool false]) (by simp [results, Tryz.results25, go_sem]) rfl ⟨none, 0, 0, [], rfl, OwnK.nil stepK _ _ _, HX4.out⟩
        · have h5 : ((k : Int) == 400) = false := by
            simp only [beq_eq_false_iff_ne, ne_eq]
            omega
          have h6 : k < 400 := by omega
          clear h4
          go_wp2_with fail
          refine HRi.out.mono ?_
          rintro e w4 ⟨a4, n4, c4, hs4, rfl, ho4, hx4⟩
          have HX4 := hidP (HX.out.trans hx4)
          have HO4 := hidP (ho4.weaken (HX1.out.trans HX.out).size (Nat.le_refl _))
          clear ho4 hx4 HRi g0 g1
          dsimp only [optJ]
          go_wp2
          go_roundw
          case rel => exact ⟨k + 1, a4, n4, c4, hs4, q, by omega, rfl, by go_num, HFn, HPq, HO4, HX4⟩
          case measure => simp [intOf]; omega
end Go.Proofs.YtfikkfbnlegflaaGreatDoor

namespace Go.Proofs.YtfikkfbnlegflaaGreatDoor
open Go.RowKit

theorem stepsAt_nil (w : World) : StepsAt w none 0 [] := ⟨rfl, fun k hk => by omega⟩

set_option maxHeartbeats 4000000 in
theorem sHighestPath_any (r : Int) (ta : Option Addr) (tn tc : Nat) (ts : List Int) (a : Option Addr) (n c : Nat) (xs : List Stp) (w : World) (hc : IntsAt w ta tn ts) (hcn : tn ≤ 9223372036854775807)
    (h : StepsAt w a n xs) (hnc : n ≤ c) (hcc : c ≤ 9223372036854775807) :
    PathRes 24 #[carV r ta tn tc, .slice a n c] w (highT r ts xs) := by
  unfold PathRes
  have hn : n ≤ 9223372036854775807 := by omega
  have hx1 := Ext.alloc w (.cells #[.int .i64 r, .slice ta tn tc] 31)
  have HC := hidP (fun w' (hx : Ext (w.alloc (.cells #[.int .i64 r, .slice ta tn tc] 31)) w') => (CarAt.new w _ rfl r ta tn tc 31).below hx)
  have HX1 := hidP hx1
  have H := hidP h
  have Hc := hidP hc
  have HP := hidP (sPathOk_any r ta tn tc ts a n c xs _ (hc.below hx1) hcn (h.below hx1).terms hn)
  have hs1 : w.heap.size ≤ (w.alloc (.cells #[.int .i64 r, .slice ta tn tc] 31)).heap.size := hx1.size
  clear hc h hx1
  obtain ⟨w1, hw1⟩ : ∃ w1, w1 = w.alloc (.cells #[.int .i64 r, .slice ta tn tc] 31) := ⟨_, rfl⟩
  rw [← hw1] at HC HX1 HP hs1
  have HS1 := hidP hs1
  clear hs1
  obtain ⟨f0, f1⟩ := HC.out w1 (Ext.refl w1)
  cases hT : (typeB r ts && pathB r.toNat xs)
  · have HR : Hid (highT r ts xs = (false, [])) := by
      show _ = _
      unfold highT
      rw [hT]
      rfl
    rw [hT] at HP
    clear hT
    go_enter Tryz.func24, Tryz.ntmps24
    go_wp2_with fail
    rw [← hw1]
    clear hw1
    refine HP.out.mono ?_
    rintro e w2 ⟨rfl, hx⟩
    have HX := hidP hx
    clear hx
    go_wp2
    refine bodyPost_ret (v := .tuple #[.slice none 0 0, .bool false]) (by simp [results, Tryz.results24, go_sem]) rfl ⟨none, 0, 0, [], by rw [HR.out], ?_, HX1.out.trans HX.out⟩
    rw [HR.out]
    exact OwnK.nil stepK _ _ _
  · have hT2 : typeB r ts = true := by
      simp only [Bool.and_eq_true] at hT
      exact hT.1
    have hP1 : pathB r.toNat xs = true := by
      simp only [Bool.and_eq_true] at hT
      exact hT.2
    obtain ⟨hr1, hr4, _⟩ := typeB_rank hT2
    obtain ⟨R, rfl⟩ : ∃ R : Nat, r = R := ⟨r.toNat, by omega⟩
    rw [Int.toNat_natCast] at hP1
    have HR : Hid (highT R ts xs = optJ (highF (raiO R ts) 401 xs)) := by
      show _ = _
      unfold highT
      rw [hT]
      rfl
    rw [HR.out]
    obtain ⟨⟨J1, J2⟩, hJ⟩ : ∃ J, J = optJ (highF (raiO R ts) 401 xs) := ⟨_, rfl⟩
    rw [← hJ]
    have HJ := hidP hJ
    dsimp only
    obtain ⟨hl1, hk1⟩ := pathB_small hP1
    have hnl := H.out.len
    have HPp := hidP (pathB_iff.1 hP1)
    have HCp := hidP (fun w' (hx : Ext w1 w') => l9Join_any none 0 0 [] a n c xs w' (stepsAt_nil w') (H.out.below (HX1.out.trans hx)) (by omega) (fun k hk => by omega) (fun k hk => by have := hk1 k (by omega); omega))
    rw [List.nil_append, join_path HPp.out] at HCp
    have HRo := hidP (fun w' (hx : Ext w1 w') (i : Nat) (hi : i < R) (a' : Option Addr) (n' c' : Nat) (hs' : List Hdr) (ys : List Stp) (ho : OwnK stepK w' w.heap.size w'.heap.size a' n' c' hs' ys) (hp : PathP R ys) => l9RaisePath_any R ta tn tc ts i a' n' c' ys w' (Hc.out.below (HX1.out.trans hx)) hT2 hi ho.stepsAt hp)
    unfold PathRes at HRo
    rw [hT] at HP
    clear hT hT2 hP1 hJ HR hnl hk1 hl1
    go_enter Tryz.func24, Tryz.ntmps24
    go_wp2_with fail
    rw [← hw1]
    clear hw1
    refine HP.out.mono ?_
    rintro e w2 ⟨rfl, hx⟩
    have HX := hidP hx
    clear hx f0 f1
    go_wp2_with fail
    refine (HCp.out _ HX.out).mono ?_
    rintro e w3 ⟨a0, n0, c0, hs', rfl, ho, hx⟩
    have HX3 := hidP (HX.out.trans hx)
    have HO3 := hidP (ho.weaken (HX1.out.trans HX.out).size (Nat.le_refl _))
    clear ho hx HX
    go_wp2
    go_loopw [6, 7] (fun pp kk wr => ∃ (k : Nat) (a' : Option Addr) (n' c' : Nat) (hs' : List Hdr) (ys : List Stp), k ≤ 401 ∧ pp = .slice a' n' c' ∧ kk = .int .i64 k ∧ Hid (highF (raiO R ts) 401 xs = highF (raiO R ts) (401 - k) ys) ∧ Hid (PathP R ys) ∧ Hid (OwnK stepK wr w.heap.size wr.heap.size a' n' c' hs' ys) ∧ Hid (Ext w1 wr)) (fun _ kk _ => 401 - (intOf kk).toNat)
    case atStart => exact ⟨0, _, _, _, _, _, by omega, rfl, rfl, rfl, HPp, HO3, HX3⟩
    case round =>
      obtain ⟨k, a1, n1, c1, hs1, ys, hk, rfl, rfl, HF, HPy, HO, HX⟩ := hrel
      by_cases h4 : k ≤ 400
      · have h5 : (k : Int) ≤ 400 := by omega
        go_wp2
        go_loopw [6, 8, 9] (fun pp mm ii wr' => ∃ (i : Nat) (b : Bool) (a' : Option Addr) (n' c' : Nat) (hs' : List Hdr) (zs : List Stp), i ≤ R ∧ pp = .slice a' n' c' ∧ mm = .bool b ∧ ii = .int .i64 i ∧ Hid (b = false → zs = ys ∧ onceF (raiF R ts ys) i = none) ∧ Hid (b = true → raiO R ts ys = some zs) ∧ Hid (PathP R zs) ∧ Hid (OwnK stepK wr' w.heap.size wr'.heap.size a' n' c' hs' zs) ∧ Hid (Ext w1 wr')) (fun _ _ ii _ => R - (intOf ii).toNat)
        case atStart => exact ⟨0, false, a1, n1, c1, hs1, ys, by omega, rfl, rfl, rfl, fun _ => ⟨rfl, rfl⟩, fun e => (by cases e), HPy, HO, HX⟩
        case round =>
          obtain ⟨i, b, a', n', c', hs', zs, hi, rfl, rfl, rfl, HB0, HB1, HPz, HO2, HX2⟩ := hrel
          obtain ⟨g0, g1⟩ := HC.out wr HX2.out
          by_cases hlt : i < R
          · have hlt2 : (i : Int) < (R : Int) := by omega
            cases b with
            | true =>
              have HFn : Hid (highF (raiO R ts) 401 xs = highF (raiO R ts) (401 - (k + 1)) zs) := by
                show _ = _
                rw [HF.out, highF_some (HB1.out rfl) h4]
              clear HB0 HB1
              go_wp2
              go_roundw
              case rel => exact ⟨k + 1, a', n', c', hs', zs, by omega, rfl, by go_num, HFn, HPz, HO2, HX2⟩
              case measure => simp [intOf]; omega
            | false =>
              obtain ⟨rfl, HN0⟩ := HB0.out rfl
              have HN0 := hidP HN0
              clear HB0 HB1
              have HRi := HRo.out wr HX2.out i hlt a' n' c' hs' zs HO2.out HPz.out
              unfold raiR at HRi
              cases hF : raiF R ts zs i with
              | none =>
                have HN : Hid (onceF (raiF R ts zs) (i + 1) = none) := by
                  show _ = _
                  rw [onceF_step HN0.out, hF]
                unfold raiF at hF
                rw [hF] at HRi
                have HRi := hidP HRi
                clear hF
                go_wp2_with fail
                refine HRi.out.mono ?_
                rintro e w4 ⟨a4, n4, c4, hs4, rfl, ho4, hx4⟩
                have HX4 := hidP (HX2.out.trans hx4)
                have HO4 := hidP ((HO2.out.below hx4).weaken (Nat.le_refl _) hx4.size)
                clear ho4 hx4 HRi g0 g1
                dsimp only [optJ]
                go_wp2
                go_roundw
                case rel => exact ⟨i + 1, false, a', n', c', hs', zs, by omega, rfl, rfl, by go_num, fun _ => ⟨rfl, HN.out⟩, fun e => (by cases e), HPz, HO4, HX4⟩
                case measure => simp [intOf]; omega
              | some q =>
                have HN : Hid (raiO R ts zs = some q) := by
                  show _ = _
                  exact onceF_stay ((onceF_step HN0.out).trans hF) (by omega)
                have HPq := hidP (pathB_iff.1 (raiO_path HN.out))
                unfold raiF at hF
                rw [hF] at HRi
                have HRi := hidP HRi
                clear hF
                go_wp2_with fail
                refine HRi.out.mono ?_
                rintro e w4 ⟨a4, n4, c4, hs4, rfl, ho4, hx4⟩
                have HX4 := hidP (HX2.out.trans hx4)
                have HO4 := hidP (ho4.weaken (HX1.out.trans HX2.out).size (Nat.le_refl _))
                clear ho4 hx4 HRi g0 g1
                dsimp only [optJ]
                go_wp2
                go_roundw
                case rel => exact ⟨i + 1, true, a4, n4, c4, hs4, q, by omega, rfl, rfl, by go_num, fun e => by (cases e), fun _ => HN.out, HPq, HO4, HX4⟩
                case measure => simp [intOf]; omega
          · obtain rfl : i = R := by omega
            cases b with
            | true =>
              have HFn : Hid (highF (raiO i ts) 401 xs = highF (raiO i ts) (401 - (k + 1)) zs) := by
                show _ = _
                rw [HF.out, highF_some (HB1.out rfl) h4]
              clear HB0 HB1
              go_wp2
              go_roundw
              case rel => exact ⟨k + 1, a', n', c', hs', zs, by omega, rfl, by go_num, HFn, HPz, HO2, HX2⟩
              case measure => simp [intOf]; omega
            | false =>
              obtain ⟨rfl, HN0⟩ := HB0.out rfl
              have HE : Hid ((J1, J2) = (true, zs)) := by
                show _ = _
                rw [HJ.out, HF.out, highF_none HN0 h4]
                rfl
              obtain ⟨rfl, rfl⟩ := Prod.mk.inj HE.out
              clear HE HB0 HB1 HN0
              go_wp2
              refine bodyPost_ret (v := .tuple #[.slice a' n' c', .bool true]) (by simp [results, Tryz.results24, go_sem]) rfl ⟨a', n', c', hs', rfl, HO2.out, HX1.out.trans HX2.out⟩
      · obtain rfl : k = 401 := by omega
        have HE : Hid ((J1, J2) = (false, [])) := by
          show _ = _
          rw [HJ.out, HF.out]
          rfl
        obtain ⟨rfl, rfl⟩ := Prod.mk.inj HE.out
        clear HE h4
        go_wp2
        refine bodyPost_ret (v := .tuple #[.slice none 0 0, .bool false]) (by simp [results, Tryz.results24, go_sem]) rfl ⟨none, 0, 0, [], rfl, OwnK.nil stepK _ _ _, HX1.out.trans HX.out⟩
end Go.Proofs.YtfikkfbnlegflaaGreatDoor
