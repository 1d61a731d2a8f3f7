/-
  Sessions: SessionOk of the program and of the reference.
-/
import Derived.Test.YtdbpbnajegoffaaDoorSes2
import Derived.Test.YtdbpbnajegoffaaDoorSp5
import Derived.Test.YtdbpbnajegoffaaDoorCarG
import Derived.Test.YtdbpbnajegoffaaDoorCarV
namespace Go.Proofs.YtdbpbnajegoffaaDoor
open Go.RowKit

theorem sessionOk_any (p d : Int) (a : Option Addr) (n c : Nat) (t : List Int) (r : Int) (a' : Option Addr) (n' c' : Nat) (ts : List Int) (w : World) (h : IntsAt w a n t) (hnc : n ≤ c) (hc2 : c ≤ 1000000000000) (h' : IntsAt w a' n' ts) (hn' : n' ≤ 9223372036854775807) (hm : MaxL w) :
    Calls Tryd.prog 14 #[sesV p d a n c r a' n' c'] w fun e w' => e = .returned (.bool (algB p d t && typeB r ts)) ∧ Ext w w' := by
  have hx0 := Ext.alloc w (.cells #[.int .i64 p, .int .i64 d, .slice a n c, .int .i64 r, .slice a' n' c'] 28)
  have HS := hidP (fun w' (hx : Ext (w.alloc (.cells #[.int .i64 p, .int .i64 d, .slice a n c, .int .i64 r, .slice a' n' c'] 28)) w') => (SesAt.new w _ rfl p d a n c r a' n' c' 28).below hx)
  have HX0 := hidP hx0
  have HA := hidP (algebraOk_any p d a n c t _ (h.below hx0) hnc hc2)
  have HCn := hidP (fun w' (hx : Ext (w.alloc (.cells #[.int .i64 p, .int .i64 d, .slice a n c, .int .i64 r, .slice a' n' c'] 28)) w') => isCartan_any r a' n' c' ts w' (h'.below (hx0.trans hx)) hn' (hm.below (hx0.trans hx)))
  clear h h' hx0 hm
  obtain ⟨w0, hw0⟩ : ∃ w0, w0 = w.alloc (.cells #[.int .i64 p, .int .i64 d, .slice a n c, .int .i64 r, .slice a' n' c'] 28) := ⟨_, rfl⟩
  rw [← hw0] at HS HX0 HA HCn
  obtain ⟨s0, s1, s2, s3, s4⟩ := HS.out w0 (Ext.refl _)
  generalize typeB r ts = b at HCn ⊢
  cases hA : algB p d t
  · rw [hA] at HA
    clear hA
    go_enter Tryd.func14, Tryd.ntmps14
    go_wp2_with fail
    rw [← hw0]
    clear hw0
    refine HA.out.mono ?_
    rintro e w1 ⟨rfl, hx⟩
    have HX := hidP hx
    clear hx
    go_wp2
    go_ret
    exact ⟨rfl, HX0.out.trans HX.out⟩
  · rw [hA] at HA
    clear hA
    go_enter Tryd.func14, Tryd.ntmps14
    go_wp2_with fail
    rw [← hw0]
    clear hw0 s0 s1 s2 s3 s4
    refine HA.out.mono ?_
    rintro e w1 ⟨rfl, hx⟩
    obtain ⟨s0, s1, s2, s3, s4⟩ := HS.out w1 hx
    have HX := hidP hx
    clear hx
    go_wp2_with fail
    refine (HCn.out _ HX.out).mono ?_
    rintro e w2 ⟨rfl, hx⟩
    have HX2 := hidP (HX.out.trans hx)
    clear hx s0 s1 s2 s3 s4
    go_wp2
    go_ret
    exact ⟨rfl, HX0.out.trans HX2.out⟩

theorem sSessionOk_any (p d : Int) (a : Option Addr) (n c : Nat) (t : List Int) (r : Int) (a' : Option Addr) (n' c' : Nat) (ts : List Int) (w : World) (h : IntsAt w a n t) (hnc : n ≤ c) (hc2 : c ≤ 1000000000000) (h' : IntsAt w a' n' ts) (hn' : n' ≤ 9223372036854775807) :
    Calls Tryd.prog 12 #[sesV p d a n c r a' n' c'] w fun e w' => e = .returned (.bool (algB p d t && typeB r ts)) ∧ Ext w w' := by
  have hx0 := Ext.alloc w (.cells #[.int .i64 p, .int .i64 d, .slice a n c, .int .i64 r, .slice a' n' c'] 28)
  have HS := hidP (fun w' (hx : Ext (w.alloc (.cells #[.int .i64 p, .int .i64 d, .slice a n c, .int .i64 r, .slice a' n' c'] 28)) w') => (SesAt.new w _ rfl p d a n c r a' n' c' 28).below hx)
  have HX0 := hidP hx0
  have HA := hidP (sAlgebraOk_any p d a n c t _ (h.below hx0) hnc hc2)
  have HCn := hidP (fun w' (hx : Ext (w.alloc (.cells #[.int .i64 p, .int .i64 d, .slice a n c, .int .i64 r, .slice a' n' c'] 28)) w') => sIsCartan_any r a' n' c' ts w' (h'.below (hx0.trans hx)) hn')
  clear h h' hx0
  obtain ⟨w0, hw0⟩ : ∃ w0, w0 = w.alloc (.cells #[.int .i64 p, .int .i64 d, .slice a n c, .int .i64 r, .slice a' n' c'] 28) := ⟨_, rfl⟩
  rw [← hw0] at HS HX0 HA HCn
  obtain ⟨s0, s1, s2, s3, s4⟩ := HS.out w0 (Ext.refl _)
  generalize typeB r ts = b at HCn ⊢
  cases hA : algB p d t
  · rw [hA] at HA
    clear hA
    go_enter Tryd.func12, Tryd.ntmps12
    go_wp2_with fail
    rw [← hw0]
    clear hw0
    refine HA.out.mono ?_
    rintro e w1 ⟨rfl, hx⟩
    have HX := hidP hx
    clear hx
    go_wp2
    go_ret
    exact ⟨rfl, HX0.out.trans HX.out⟩
  · rw [hA] at HA
    clear hA
    go_enter Tryd.func12, Tryd.ntmps12
    go_wp2_with fail
    rw [← hw0]
    clear hw0 s0 s1 s2 s3 s4
    refine HA.out.mono ?_
    rintro e w1 ⟨rfl, hx⟩
    obtain ⟨s0, s1, s2, s3, s4⟩ := HS.out w1 hx
    have HX := hidP hx
    clear hx
    go_wp2_with fail
    refine (HCn.out _ HX.out).mono ?_
    rintro e w2 ⟨rfl, hx⟩
    have HX2 := hidP (HX.out.trans hx)
    clear hx s0 s1 s2 s3 s4
    go_wp2
    go_ret
    exact ⟨rfl, HX0.out.trans HX2.out⟩
end Go.Proofs.YtdbpbnajegoffaaDoor
