/-
  Paths of the reference: PathOk, JoinPaths.
-/
import Derived.Test.YtfikkfbnlegflaaGreatDoorPthT
import Derived.Test.YtfikkfbnlegflaaGreatDoorCarV
namespace Go.Proofs.YtfikkfbnlegflaaGreatDoor
open Go.RowKit

theorem sPathOk_any (r : Int) (ta : Option Addr) (tn tc : Nat) (ts : List Int) (a : Option Addr) (n c : Nat) (xs : List Stp) (w : World) (hc : IntsAt w ta tn ts) (hcn : tn ≤ 9223372036854775807) (h : TermsAt w a n xs) (hn : n ≤ 9223372036854775807) :
    Calls Tryz.prog 53 #[carV r ta tn tc, .slice a n c] w fun e w' => e = .returned (.bool (typeB r ts && pathB r.toNat xs)) ∧ Ext w w' := by
  have hx1 := Ext.alloc w (.cells #[.int .i64 r, .slice ta tn tc] 31)
  have HC := hidP (fun w' (hx : Ext (w.alloc (.cells #[.int .i64 r, .slice ta tn tc] 31)) w') => (CarAt.new w _ rfl r ta tn tc 31).below hx)
  have HX1 := hidP hx1
  have H := hidP (h.below hx1)
  have HIs := hidP (sIsCartan_any r ta tn tc ts _ (hc.below hx1) hcn)
  clear hc h hx1
  obtain ⟨w1, hw1⟩ : ∃ w1, w1 = w.alloc (.cells #[.int .i64 r, .slice ta tn tc] 31) := ⟨_, rfl⟩
  rw [← hw1] at HC HX1 H HIs
  obtain ⟨f0, f1⟩ := HC.out w1 (Ext.refl w1)
  cases hT : typeB r ts
  · rw [hT] at HIs
    clear hT
    go_enter Tryz.func53, Tryz.ntmps53
    go_wp2_with fail
    rw [← hw1]
    clear hw1
    refine HIs.out.mono ?_
    rintro e w2 ⟨rfl, hx⟩
    have HX := hidP hx
    clear hx
    go_wp2
    go_ret
    exact ⟨rfl, HX1.out.trans HX.out⟩
  · obtain ⟨hr1, hr4, _⟩ := typeB_rank hT
    rw [hT] at HIs
    rw [Bool.true_and]
    clear hT
    obtain ⟨R, rfl⟩ : ∃ R : Nat, r = R := ⟨r.toNat, by omega⟩
    rw [Int.toNat_natCast]
    have hR : R ≤ 4 := by omega
    clear hr1 hr4
    have HL := hidP (fun w' (hx : Ext w1 w') => l9Ok_any R ta tn tc a n c xs w' (H.out.below hx) hn (by omega))
    generalize pathB R xs = b at HL ⊢
    go_enter Tryz.func53, Tryz.ntmps53
    go_wp2_with fail
    rw [← hw1]
    clear hw1
    refine HIs.out.mono ?_
    rintro e w2 ⟨rfl, hx⟩
    obtain ⟨g0, g1⟩ := HC.out w2 hx
    have HX := hidP hx
    clear hx f0 f1
    go_wp2_with fail
    refine (HL.out _ HX.out).mono ?_
    rintro e w3 ⟨rfl, hx⟩
    have HX3 := hidP (HX.out.trans hx)
    clear hx
    go_wp2
    go_ret
    exact ⟨rfl, HX1.out.trans HX3.out⟩

end Go.Proofs.YtfikkfbnlegflaaGreatDoor
