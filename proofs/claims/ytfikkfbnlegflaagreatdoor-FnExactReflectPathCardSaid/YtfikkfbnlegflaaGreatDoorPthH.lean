/-
  The times at which heights are met: crossing, l9Cross; l9Within.
-/
import Derived.Test.YtfikkfbnlegflaaGreatDoorPthG
namespace Go.Proofs.YtfikkfbnlegflaaGreatDoor
open Go.RowKit

theorem tdiv_bound (a b : Int) : -(a.natAbs : Int) ≤ a.tdiv b ∧ a.tdiv b ≤ a.natAbs := by
  have h : (a.tdiv b).natAbs ≤ a.natAbs := by
    rw [Int.natAbs_tdiv]
    exact Nat.div_le_self _ _
  omega
/-- the time within a step at which a height is met, and whether it is an integer -/
def crossV (f s t : Int) : Int × Bool := if f = t then (0, true) else ((t - f).tdiv s, (t - f).tmod s == 0)

set_option maxHeartbeats 1000000 in
theorem crossing_any (f s t : Int) (w : World) (hf : -1000000000 ≤ f ∧ f ≤ 1000000000) (ht : -1000000000 ≤ t ∧ t ≤ 1000000000) (hs : f ≠ t → s ≠ 0) :
    Calls Tryz.prog 98 #[.int .i64 f, .int .i64 s, .int .i64 t] w fun e w' => e = .returned (.tuple #[.int .i64 (crossV f s t).1, .bool (crossV f s t).2]) ∧ Ext w w' := by
  by_cases h : f = t
  · have HV : Hid (crossV f s t = (0, true)) := if_pos h
    rw [HV.out]
    have hb : (f == t) = true := by simp [h]
    clear h hs
    go_enter Tryz.func98, Tryz.ntmps98
    go_wp2
    refine bodyPost_ret (v := .tuple #[.int .i64 0, .bool true]) (by simp [results, Tryz.results98, go_sem]) rfl ⟨rfl, Ext.refl _⟩
  · have HV : Hid (crossV f s t = ((t - f).tdiv s, (t - f).tmod s == 0)) := if_neg h
    rw [HV.out]
    have hb : (f == t) = false := by simp [h]
    have hs0 : ¬ (s = 0) := hs h
    have hd := tdiv_bound (t - f) s
    have h1 : IntKind.i64.wrap (t - f) = t - f := wrap_in (by omega) (by omega)
    have h2 : IntKind.i64.wrap ((t - f).tdiv s) = (t - f).tdiv s := wrap_in (by omega) (by omega)
    have hE : Ext w w.drew := Ext.drew w
    clear h hs hd
    go_enter Tryz.func98, Tryz.ntmps98
    go_wp2
    (refine walkR_start (fun w' => Ext w w') 12 (by kernel_rfl) ?_; simp only [numbered, List.take_succ_cons, List.take_zero, Nat.zero_add, Nat.reduceAdd, List.length_cons, List.length_nil])
    (repeat (first | (refine walkR_still (v := ?_) rfl (by decide +kernel) rfl (fun _ _ _ h => h) hE ?_ ?_; rotate_left; (focus (intro w' hw'; skip; go_simp; all_goals (with_reducible rfl))); simp only [Act.put, List.setIfInBounds_toArray, List.set_cons_zero, List.set_cons_succ]) | (refine walkR_skip rfl (by decide +kernel) rfl (fun _ _ _ h => h) hE ?_; simp only [Act.put, List.setIfInBounds_toArray, List.set_cons_zero, List.set_cons_succ])))
    (refine walkR_tail (by rfl) (by kernel_rfl) ?_; simp only [List.drop_succ_cons, List.drop_zero])
    go_wp2
    refine bodyPost_ret (v := .tuple #[.int .i64 ((t - f).tdiv s), .bool ((t - f).tmod s == 0)]) (by simp [results, Tryz.results98, go_sem]) rfl ⟨rfl, hE⟩
def l9CrossV (f h s t : Int) : Int := if (t - h).tmod s = 0 then f + (t - h).tdiv s else -1
set_option maxHeartbeats 1000000 in
theorem l9Cross_any (f h s t : Int) (w : World) (hf : 0 ≤ f ∧ f ≤ 1000000000) (hh : -1000000000 ≤ h ∧ h ≤ 1000000000) (ht : -1000000000 ≤ t ∧ t ≤ 1000000000) (hs : s ≠ 0) :
    Calls Tryz.prog 130 #[.int .i64 f, .int .i64 h, .int .i64 s, .int .i64 t] w fun e w' => e = .returned (.int .i64 (l9CrossV f h s t)) ∧ w = w' := by
  have hd := tdiv_bound (t - h) s
  have h1 : IntKind.i64.wrap (t - h) = t - h := wrap_in (by omega) (by omega)
  have h2 : IntKind.i64.wrap ((t - h).tdiv s) = (t - h).tdiv s := wrap_in (by omega) (by omega)
  have h3 : IntKind.i64.wrap (f + (t - h).tdiv s) = f + (t - h).tdiv s := wrap_in (by omega) (by omega)
  have hs0 : ¬ (s = 0) := hs
  by_cases hm : (t - h).tmod s = 0
  · have HV : Hid (l9CrossV f h s t = f + (t - h).tdiv s) := if_pos hm
    rw [HV.out]
    have hb : ((t - h).tmod s != 0) = false := by simp [hm]
    clear hm hd hs
    go_enter Tryz.func130, Tryz.ntmps130
    go_wp2
    go_ret
    exact ⟨rfl, rfl⟩
  · have HV : Hid (l9CrossV f h s t = -1) := if_neg hm
    rw [HV.out]
    have hb : ((t - h).tmod s != 0) = true := by simp [hm]
    clear hm hd hs
    go_enter Tryz.func130, Tryz.ntmps130
    go_wp2
    go_ret
    exact ⟨rfl, rfl⟩
theorem l9Within_any (n lo hi : Int) (w : World) :
    Calls Tryz.prog 131 #[.int .i64 n, .int .i64 lo, .int .i64 hi] w fun e w' => e = .returned (.int .i64 (within n lo hi)) ∧ w = w' := by
  by_cases h1 : n < lo
  · have HV : Hid (within n lo hi = lo) := if_pos h1
    rw [HV.out]
    go_enter Tryz.func131, Tryz.ntmps131
    go_wp2
    go_ret
    exact ⟨rfl, rfl⟩
  · by_cases h2 : n > hi
    · have HV : Hid (within n lo hi = hi) := by
        show _ = _
        unfold within
        rw [if_neg h1, if_pos h2]
      rw [HV.out]
      go_enter Tryz.func131, Tryz.ntmps131
      go_wp2
      go_ret
      exact ⟨rfl, rfl⟩
    · have HV : Hid (within n lo hi = n) := by
        show _ = _
        unfold within
        rw [if_neg h1, if_neg h2]
      rw [HV.out]
      go_enter Tryz.func131, Tryz.ntmps131
      go_wp2
      go_ret
      exact ⟨rfl, rfl⟩
end Go.Proofs.YtfikkfbnlegflaaGreatDoor
