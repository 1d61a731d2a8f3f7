/-
  The program's env.add and addProduct once more: where the words lie. Printed by gen/envN.py.
  The program's mulEnv and MulEnv. Printed by gen/envM.py.
  The reference's l11Degree and l11Mul. Printed by gen/envM.py.
  The reference's MulEnv. Printed by gen/envM.py.
-/
import Derived.Test.YtcfgcacmmmhjcaaGreatDoorEnvV
import Derived.BigRegion
import Derived.Laws.AppendOwnNone
namespace Go.Proofs.YtcfgcacmmmhjcaaGreatDoor
open Go.RowKit

/-- all words lie in blocks from B on -/
def NewW (B : Nat) (f : ByteArray → Option Value) : Prop := ∀ s b o n c, f s = some (.slice (some ⟨b, o, none⟩) n c) → B ≤ b
theorem NewW.put {B : Nat} {f : ByteArray → Option Value} (h : NewW B f) {a : Option Addr} {n c : Nat} {s : ByteArray} (ha : ∀ b o, a = some ⟨b, o, none⟩ → B ≤ b) : NewW B (putF f s (.slice a n c)) := fun t b o m e ht => by
  unfold putF at ht
  split at ht
  · simp only [Option.some.injEq, Value.slice.injEq] at ht
    exact ha b o ht.1
  · exact h t b o m e ht
theorem NewW.none (B : Nat) : NewW B (fun _ => Option.none) := fun s b o n c h => by cases h
theorem Counts.keptG {w w' : World} {b1 b2 n g : Nat} {G : List Int → Int} {f1 f2 : ByteArray → Option Value} (h : Counts w b1 b2 n G f1 f2) (hg : w.grownBy w' (some g)) (hn : NewW (g + 1) f1) (h1 : b1 ≠ g) (h2 : b2 ≠ g) : Counts w' b1 b2 n G f1 f2 :=
  ⟨h.ne, h.m1.kept hg (by simpa using h1), h.m2.kept hg (by simpa using h2), h.num, fun s hs => by
    obtain ⟨x, a, c, k1, k2, k3, k4, k5⟩ := (h.word s hs).ex
    refine ⟨x, a, c, k1, k2, k3, k4.keptG hg (fun _ b o e => ?_), k5⟩
    rw [e] at k3
    have := hn s b o _ _ k3
    omega, h.has⟩
set_option maxRecDepth 100000 in
set_option maxHeartbeats 2000000 in
theorem envAdd_new (p d : Int) (ta : Option Addr) (tn tc b1 b2 n : Nat) (L : List Tm) (f1 f2 : ByteArray → Option Value) (a : Option Addr) (m c : Nat) (x : List Int) (v : Int) (w : World) (hC : Counts w b1 b2 n (gM p L) f1 f2) (hk : KeyOk x) (hi : IntsAt w a m x) (ha : a = none → c = 0)
    (hn : n ≤ 9000000000000000000) (hp : 2 ≤ p) (hp2 : p ≤ 10007) (hv : 0 ≤ v) (hv2 : v < p) (ht : Tab w) :
    Calls Tryz.prog 34 #[envV p d ta tn tc b1 b2, .slice a m c, .int .i64 v] w fun e w' => e = .returned (.tuple #[]) ∧ (∃ f1' f2', Counts w' b1 b2 (n + 1) (gM p (L ++ [(x, v)])) f1' f2' ∧ ∀ B, NewW B f1 → (∀ b o, a = some ⟨b, o, none⟩ → B ≤ b) → NewW B f1') ∧ ExtM b1 b2 w w' := by
  obtain rfl : m = x.length := hi.len.symm
  have hxa := Ext.alloc w (.cells #[.int .i64 p, .int .i64 d, .slice ta tn tc, .map (some b1), .map (some b2)] 56)
  have HC := hidP (hC.below hxa)
  have HI := hidP (hi.below hxa)
  have HA := hidP (EnvAt.new w _ rfl p d ta tn tc b1 b2 56)
  have HK := hidP hk
  have HN := hidP ha
  have HF := hidP (formatInts_any a x.length c x _ (hi.below hxa) hk.1 (by have := hk.2; omega) (ht.below hxa))
  have HX := hidP hxa
  have hgr := gM_range (show 0 < p by omega) L x
  have HSn : Hid ((fun y => if y = x then (gM p L x + v) % p else gM p L y) = gM p (L ++ [(x, v)])) := (gM_snoc L x v).symm
  obtain ⟨G, hG⟩ : ∃ G, G = gM p L := ⟨_, rfl⟩
  rw [← hG] at HC hgr HSn
  obtain ⟨gx, hgx⟩ : ∃ gx, gx = G x := ⟨_, rfl⟩
  have HGx := hidP hgx
  rw [← hgx] at hgr HSn
  have hw1 : IntKind.i64.wrap (gx + v) = gx + v := wrap_in (by omega) (by omega)
  have hpz : ¬ (p = 0) := by omega
  have htm : (gx + v).tmod p = (gx + v) % p := Int.tmod_eq_emod_of_nonneg (by omega)
  clear hxa hC hi hk ha ht hG hgx
  go_enter Tryz.func34, Tryz.ntmps34
  go_wp2_with fail
  refine HF.out.mono ?_
  rintro e w1 ⟨rfl, hx1⟩
  have HX1 := hidP hx1
  have HC1 := hidP (HC.out.below hx1)
  have HI1 := hidP (HI.out.below hx1)
  have HA1 := hidP (HA.out.below hx1)
  obtain ⟨f0, f1', f2', f3, f4⟩ := HA1.out
  clear hx1 HF
  have hks := HK.out.size
  have HW := hidP (HC1.out.num x HK.out)
  rw [← HGx.out] at HW
  go_wp2_with (first | (at_mapUpdate; refine wpList_updateS _ rfl _ _ _ 53 9 22 rfl Tryz.underlying9 Tryz.underlying53 b1 n f1 rfl HC1.out.m1 (by unfold maxLen; omega) (keyI x) rfl hks (.slice a x.length c) rfl ?_; intro w2 hm2 hg2; have hA2 := hidP (HA1.out.extM (ExtM.of_left (b2 := b2) hg2) HC1.out.m1.is HC1.out.m2.is); have HM2 := hidP hm2; have HG2 := hidP hg2; have HL2 := hidP (HC1.out.m2.kept hg2 (by simpa using HC1.out.ne.symm)); clear hm2 hg2) | fail)
  clear f0 f1' f2' f3 f4
  have hE : Ext w2 w2.drew := Ext.drew w2
  have HLk : Hid (∀ w', Ext w2 w' → (Instr.lookup 54 (.map (some b2)) (.string (keyI x)) false).run Tryz.prog w' = .ok (.int .i64 gx) w') := fun w' hx => by
    have h := (HL2.out.below hx).lookup (T := 54) (E := 3) (z := .int .i64 0) Tryz.underlying9 Tryz.underlying54 (zero_int w') hks
    rw [HW.out] at h
    exact h
  (refine walkR_start (fun w' => Ext w2 w') 13 (by kernel_rfl) ?_; simp only [numbered, List.take_succ_cons, List.take_zero, Nat.zero_add, Nat.reduceAdd, List.length_cons, List.length_nil])
  (repeat (first | (refine walkR_still (v := ?_) rfl (by decide +kernel) rfl (fun _ _ _ h => h) hE ?_ ?_; rotate_left; (focus (intro w' hw'; obtain ⟨f0, f1, f2, f3, f4⟩ := hA2.out.below hw'; have hlk := HLk.out w' hw'; unfold keyI at hlk; go_simp; all_goals (with_reducible rfl))); simp only [Act.put, List.setIfInBounds_toArray, List.set_cons_zero, List.set_cons_succ]) | (refine walkR_skip rfl (by decide +kernel) rfl (fun _ _ _ h => h) hE ?_; simp only [Act.put, List.setIfInBounds_toArray, List.set_cons_zero, List.set_cons_succ])))
  have hL2 := HL2.out.below hE
  have hX2 := ExtM.of_ext (b1 := b1) (b2 := b2) hE
  have hM2 := HL2.out.below hE
  clear hE HLk
  (refine walkR_tail (by rfl) (by kernel_rfl) ?_; simp only [List.drop_succ_cons, List.drop_zero])
  go_wp2_with (first | (at_mapUpdate; refine wpList_updateS _ rfl _ _ _ 54 9 3 rfl Tryz.underlying9 Tryz.underlying54 b2 n f2 rfl hM2 (by unfold maxLen; omega) (keyI x) rfl hks (.int .i64 ((gx + v) % p)) rfl ?_; intro w3 hm3 hg3; have HM3 := hidP hm3; have HG3 := hidP hg3; clear hm3 hg3) | fail)
  go_end0
  have hG3 : w2.grownBy w3 (some b2) := ⟨HG3.out.os, HG3.out.tape, HG3.out.output, HG3.out.size, HG3.out.block⟩
  have hst := HC1.out.stored HK.out HI1.out HN.out HM2.out HG2.out HM3.out hG3
  rw [HGx.out] at hst
  rw [HGx.out] at HSn
  rw [HSn.out] at hst
  first | exact ⟨rfl, ⟨_, _, hst, fun B h1 h2 => h1.put h2⟩, ((ExtM.of_ext HX.out).trans (ExtM.of_ext HX1.out)).trans ((ExtM.of_left HG2.out).trans (ExtM.of_right hG3))⟩ | exact ⟨rfl, ⟨_, ⟨_, hst⟩, fun B h1 h2 => h1.put h2⟩, ((ExtM.of_ext HX.out).trans (ExtM.of_ext HX1.out)).trans ((ExtM.of_left HG2.out).trans (ExtM.of_right hG3))⟩
set_option maxRecDepth 100000 in
set_option maxHeartbeats 8000000 in
theorem addProduct_new (p : Int) (d : Nat) (ta : Option Addr) (N tc : Nat) (ts : List Int) (b1 b2 : Nat) (hd : d ≤ 28) (hN : N = d * d * d) (hNc : N ≤ tc) (hc2 : tc ≤ 1000000000000) (hp : 2 ≤ p) (hp2 : p ≤ 10007) (hrt : Res p ts) :
    ∀ (f n : Nat) (L : List Tm) (f1 f2 : ByteArray → Option Value) (a : Option Addr) (m c : Nat) (x : List Int) (v : Int) (w : World), fuelA x < f → Counts w b1 b2 n (gM p L) f1 f2 → IntsAt w a m x → (a = none → c = 0) → m ≤ c → WordA d x → x.length ≤ 6 → 0 ≤ v → v < p →
      n + (strT d (rowE d ts) p f x v).length ≤ 9000000000000000000 → IntsAt w ta N ts → Tab w →
      Calls Tryz.prog 52 #[envV p d ta N tc b1 b2, .slice a m c, .int .i64 v] w fun e w' => e = .returned (.tuple #[]) ∧ (∃ n' f1' f2', n' ≤ n + (strT d (rowE d ts) p f x v).length ∧ Counts w' b1 b2 n' (gM p (L ++ strT d (rowE d ts) p f x v)) f1' f2' ∧ ∀ B, NewW B f1 → (∀ b o, a = some ⟨b, o, none⟩ → B ≤ b) → B ≤ w.heap.size → NewW B f1') ∧ ExtM b1 b2 w w'
  | 0, _, _, _, _, _, _, _, _, _, _, hf, _, _, _, _, _, _, _, _, _, _, _ => absurd hf (Nat.not_lt_zero _)
  | f + 1, n, L, f1, f2, a, m, c, x, v, w, hf, hC, hi, hnil, hxc, hwd, hx6, hv0, hv1, hnn, ht, htb => by
    obtain rfl : m = x.length := hi.len.symm
    have IH := hidP (addProduct_new p d ta N tc ts b1 b2 hd hN hNc hc2 hp hp2 hrt f)
    have hxa := Ext.alloc w (.cells #[.int .i64 p, .int .i64 d, .slice ta N tc, .map (some b1), .map (some b2)] 56)
    by_cases hz : v = 0
    · subst hz
      have HCn : Hid (Counts (w.alloc (.cells #[.int .i64 p, .int .i64 d, .slice ta N tc, .map (some b1), .map (some b2)] 56)) b1 b2 n (gM p (L ++ strT d (rowE d ts) p (f + 1) x 0)) f1 f2) := by
        show Counts _ _ _ _ _ _ _
        rw [gM_zeros L (strT_zero d (rowE d ts) p (f + 1) x)]
        exact hC.below hxa
      have HX := hidP (ExtM.of_ext (b1 := b1) (b2 := b2) hxa)
      clear hxa hC hi hnil hf IH hwd ht htb hnn hrt hN
      go_enter Tryz.func52, Tryz.ntmps52
      go_wp2
      refine bodyPost_ret (v := .tuple #[]) (by simp [results, Tryz.results52]) rfl ⟨rfl, ⟨n, f1, f2, Nat.le_add_right _ _, HCn.out, fun _ h _ _ => h⟩, HX.out⟩
    · have hzb : (v == 0) = false := by simpa using hz
      have M1 := hidP hC.m1.is
      have M2 := hidP hC.m2.is
      have HC := hidP (hC.below hxa)
      have HI := hidP (hi.below hxa)
      have HA := hidP (EnvAt.new w _ rfl p d ta N tc b1 b2 56)
      have HT := hidP (ht.below hxa)
      have HTb := hidP (htb.below hxa)
      have HNil := hidP hnil
      have HW := hidP hwd
      have HNn := hidP hnn
      have HF := hidP hf
      have HR := hidP hrt
      have HNe := hidP hN
      have HX0 := hidP hxa
      have hm1 := (hC.below hxa).m1.is
      have hm2 := (hC.below hxa).m2.is
      have M1 := hidP hm1
      have M2 := hidP hm2
      clear hxa hC hi hnil hf hwd ht htb hnn hrt hN hm1 hm2
      go_enter Tryz.func52, Tryz.ntmps52
      go_wp2
      obtain ⟨w0, hw0⟩ : ∃ w0, w0 = w.alloc (.cells #[.int .i64 p, .int .i64 d, .slice ta N tc, .map (some b1), .map (some b2)] 56) := ⟨_, rfl⟩
      rw [← hw0] at HC HI HA HT HTb HX0 M1 M2
      first | rw [← hw0] | skip
      obtain ⟨bk, hbk⟩ : ∃ bk, bk = w.heap.size := ⟨_, rfl⟩
      rw [← hbk] at HA
      simp only [← hbk]
      clear hw0 hbk
      go_loopw [15] (fun i wr => ∃ k : Nat, (k = 0 ∨ k + 1 ≤ x.length) ∧ i = .int .i64 k ∧ Hid (∀ j, j < k → x.getD j 0 ≤ x.getD (j + 1) 0) ∧ Hid (Ext w0 wr)) (fun i _ => x.length - (intOf i).toNat)
      case atStart => exact ⟨0, .inl rfl, rfl, fun j h => by omega, Ext.refl _⟩
      case round =>
        obtain ⟨k, hk, rfl, HJ, HX⟩ := hrel
        by_cases hlt : k + 1 < x.length
        · have hki : (k : Int) < (x.length : Int) - 1 := by omega
          have hk1 : (k : Int) < (x.length : Int) := by omega
          have hk2 : (k : Int) + 1 < (x.length : Int) := by omega
          have hk3 : (0 : Int) ≤ (k : Int) + 1 := by omega
          have hkw : IntKind.i64.wrap ((k : Int) + 1) = (k : Int) + 1 := wrap_in (by omega) (by omega)
          have hkn : ((k : Int) + 1).toNat = k + 1 := by omega
          obtain ⟨bx, ox, rfl, q0⟩ := (HI.out.below HX.out).get k (by omega)
          have q0' := (HI.out.below HX.out).atc (k + 1) hlt
          obtain ⟨y0, hy0⟩ : ∃ y, y = x.getD k 0 := ⟨_, rfl⟩
          obtain ⟨y1, hy1⟩ : ∃ y, y = x.getD (k + 1) 0 := ⟨_, rfl⟩
          rw [← hy0] at q0
          rw [← hy1] at q0'
          have HY0 := hidP hy0
          have HY1 := hidP hy1
          clear hy0 hy1
          cases hle : decide (y0 ≤ y1)
          · have hgt := of_decide_eq_false hle
            have hDs : DescAt x k := ⟨hlt, by rw [← HY0.out, ← HY1.out]; omega, HJ.out⟩
            have HDs := hidP hDs
            have HE := hidP (strT_desc (d := d) (row := rowE d ts) (p := p) (f := f) v hDs)
            have hb0 := HW.out.all y0 (by rw [HY0.out]; simp [List.getD_eq_getElem?_getD, show k < x.length by omega])
            have hb1 := HW.out.all y1 (by rw [HY1.out]; simp [List.getD_eq_getElem?_getD, hlt])
            obtain ⟨i0, rfl⟩ : ∃ i : Nat, y0 = i := ⟨y0.toNat, by omega⟩
            obtain ⟨j0, rfl⟩ : ∃ i : Nat, y1 = i := ⟨y1.toNat, by omega⟩
            have hid : i0 < d := by omega
            have hjd : j0 < d := by omega
            have hNp : 0 < N := by rw [HNe.out]; exact Nat.mul_pos (Nat.mul_pos (by omega) (by omega)) (by omega)
            obtain ⟨bt, ot, rfl, _⟩ := HT.out.get 0 hNp
            obtain ⟨T, hT⟩ : ∃ T, T = (i0 * d + j0) * d := ⟨_, rfl⟩
            have hTN : T + d ≤ N := by
              have := nidx_lt hid hjd
              rw [HNe.out, hT]
              exact this
            have HPr := hidP (fun w' => pair_any p d i0 j0 bt ot N tc w' hd hid hjd (by rw [HNe.out]; exact Nat.le_refl _) hNc hc2)
            rw [← hT] at HPr
            have HRow : Hid (∀ q : Nat, rowE d ts (x.getD k 0) (x.getD (k + 1) 0) q = ts.getD (T + q) 0) := fun q => by
              rw [← HY0.out, ← HY1.out, hT]
              simp [rowE]
            have hTl := HT.out.len
            have HCl := hidP (fun w' (hx : Ext wr w') => clone_any (some ⟨bx, ox, none⟩) x.length c x w' ((HI.out.below HX.out).below hx) (fun e => by cases e) (by omega))
            clear hle hDs hT hb0 hb1
            go_wp2
            go_quiet (fail)
            go_wp2_with fail
            refine (HCl.out _ (Ext.drewN _ _)).mono ?_
            rintro e w2 ⟨a1, c1, rfl, ho1, hx1⟩
            have hXq : Ext w0 (wr.drewN nq) := HX.out.trans (Ext.drewN _ _)
            have HX2 := hidP (hXq.trans hx1)
            have hsq := hXq.size
            obtain ⟨g, rfl, hgB, hgl, e0, z0⟩ := ho1.cell k (by omega)
            obtain ⟨g', e', _, _, e1, z1⟩ := ho1.cell (k + 1) hlt
            simp only [Option.some.injEq, Addr.mk.injEq, and_true] at e'
            subst e'
            rw [← HY0.out] at e0
            rw [← HY1.out] at e1
            have hgw : w0.heap.size ≤ g := by omega
            have hbg : bx ≠ g := by
              have := HI.out.block_lt (by omega)
              omega
            have q0 := (HI.out.below HX2.out).atc k (by omega)
            have q1 := (HI.out.below HX2.out).atc (k + 1) hlt
            rw [← HY0.out] at q0
            rw [← HY1.out] at q1
            have hE : Ext w2 w2.drew := Ext.drew w2
            have hu := ((UpdI.start ho1.ints).store k (by omega) (j0 : Int)).store (k + 1) hlt (i0 : Int)
            rw [Nat.zero_add, Nat.zero_add] at hu
            have HU := hidP hu
            have HO1 := hidP ho1
            have HGw := hidP hgw
            clear hu ho1 hx1 hXq HCl q0' hgw hsq hE
            go_wp2
            go_region
            have hX3 : Ext w0 ((w2.setCell ⟨g, k, none⟩ (.int .i64 (j0 : Int))).setCell ⟨g, k + 1, none⟩ (.int .i64 (i0 : Int))).drew := Ext.trans (HU.out.below HX2.out HX2.out.size (fun b o e _ => by
              simp only [Option.some.injEq, Addr.mk.injEq, and_true] at e
              rw [← e.1]; exact HGw.out)) (Ext.drew _)
            have hO3 := (HU.out.own HO1.out).below (Ext.drew ((w2.setCell ⟨g, k, none⟩ (.int .i64 (j0 : Int))).setCell ⟨g, k + 1, none⟩ (.int .i64 (i0 : Int))))
            rw [HY0.out, HY1.out, swapA_set hlt, ← HY0.out, ← HY1.out] at hO3
            have HX3 := hidP hX3
            have HO3 := hidP hO3
            clear hX3 hO3 HU HO1 e0 e1 z0 z1
            obtain ⟨w3, hw3⟩ : ∃ x, x = ((w2.setCell ⟨g, k, none⟩ (.int .i64 (j0 : Int))).setCell ⟨g, k + 1, none⟩ (.int .i64 (i0 : Int))).drew := ⟨_, rfl⟩
            rw [← hw3] at HX3 HO3 ⊢
            clear hw3 q0 q1
            have hln : (strT d (rowE d ts) p f (swapA x k) v).length + (brkT d (rowE d ts) p f x k v d).length = (strT d (rowE d ts) p (f + 1) x v).length := by rw [HE.out, List.length_append]
            have HLn := hidP hln
            have HS1 := hidP (IH.out n L f1 f2 (some ⟨g, 0, none⟩) x.length c1 (swapA x k) v w3 (by have h1 := fuel_swap HDs.out; have h2 := HF.out; omega) (HC.out.below HX3.out) HO3.out.ints (fun e => by cases e) HO3.out.room2 (HW.out.swap hlt) (by rw [swapA_length hlt]; exact hx6) hv0 hv1 (by have := HNn.out; omega) (HT.out.below HX3.out) (HTb.out.below HX3.out))
            have HA3 := hidP (HA.out.below HX3.out)
            have hm1 := (HC.out.below HX3.out).m1.is
            have hm2 := (HC.out.below HX3.out).m2.is
            have N1 := hidP hm1
            have N2 := hidP hm2
            clear hln hm1 hm2 HO3
            obtain ⟨z0, z1, z2, z3, z4⟩ := HA3.out
            go_wp2_with fail
            refine HS1.out.mono ?_
            rintro e w4 ⟨rfl, ⟨n4, f14, f24, hn4, hC4, hnw4⟩, hx4⟩
            have HNw4 : Hid (∀ B, NewW B f1 → B ≤ w0.heap.size → NewW B f14) := fun B h1 h2 => hnw4 B h1 (fun b o e => by
              simp only [Option.some.injEq, Addr.mk.injEq, and_true] at e
              have := HGw.out
              omega) (Nat.le_trans h2 HX3.out.size)
            clear hnw4
            have HA4 := hidP (HA3.out.extM hx4 N1.out N2.out)
            have HX4 := hidP ((ExtM.of_ext (b1 := b1) (b2 := b2) HX3.out).trans hx4)
            have HC4 := hidP hC4
            have HN4 := hidP hn4
            clear z0 z1 z2 z3 z4 hx4 hC4 hn4 HS1 HA3 N1 N2
            have HI4 := hidP (HI.out.extM HX4.out M1.out M2.out)
            have q0 := HI4.out.atc k (by omega)
            have q1 := HI4.out.atc (k + 1) hlt
            rw [← HY0.out] at q0
            rw [← HY1.out] at q1
            have HQ0 := hidP (fun w' (hx : Ext w4 w') => (hx.cell (p := ⟨bx, ox + k, none⟩) (World.block_lt_of_cell? w4 _ q0)).trans q0)
            have HQ1 := hidP (fun w' (hx : Ext w4 w') => (hx.cell (p := ⟨bx, ox + (k + 1), none⟩) (World.block_lt_of_cell? w4 _ q1)).trans q1)
            have hE : Ext w4 w4.drew := Ext.drew w4
            go_wp2
            clear q0 q1
            (refine walkR_start (fun w' => Ext w4 w') 14 (by kernel_rfl) ?_; simp only [numbered, List.take_succ_cons, List.take_zero, Nat.zero_add, Nat.reduceAdd, List.length_cons, List.length_nil])
            (repeat (first | (refine walkR_still (v := ?_) rfl (by decide +kernel) rfl (fun _ _ _ h => h) hE ?_ ?_; rotate_left; (focus (intro w' hw'; have q0 := HQ0.out w' hw'; have q1 := HQ1.out w' hw'; obtain ⟨z0, z1, z2, z3, z4⟩ := HA4.out.below hw'; go_simp; all_goals (with_reducible rfl))); simp only [Act.put, List.setIfInBounds_toArray, List.set_cons_zero, List.set_cons_succ]) | (refine walkR_skip rfl (by decide +kernel) rfl (fun _ _ _ h => h) hE ?_; simp only [Act.put, List.setIfInBounds_toArray, List.set_cons_zero, List.set_cons_succ])))
            (refine walkR_later ?_; simp only [List.cons_append, List.nil_append]); (refine walkR_later ?_; simp only [List.cons_append, List.nil_append])
            (repeat (first | (refine walkR_still (v := ?_) rfl (by decide +kernel) rfl (fun _ _ _ h => h) hE ?_ ?_; rotate_left; (focus (intro w' hw'; skip; go_simp; all_goals (with_reducible rfl))); simp only [Act.put, List.setIfInBounds_toArray, List.set_cons_zero, List.set_cons_succ]) | (refine walkR_skip rfl (by decide +kernel) rfl (fun _ _ _ h => h) hE ?_; simp only [Act.put, List.setIfInBounds_toArray, List.set_cons_zero, List.set_cons_succ])))
            (refine walkR_only (fun w' => Ext w4 w') rfl (by decide +kernel) rfl (fun _ h => h) ?_; intro K hK; go_simp; refine (HPr.out _).mono ?_; rintro e w6 ⟨rfl, hx6⟩; refine hK _ _ (hE.trans hx6) ?_; clear hK K; (try simp only [Act.put, List.setIfInBounds_toArray, List.set_cons_zero, List.set_cons_succ]))
            have hE6 := hE.trans hx6
            clear hx6 hE HPr
            (repeat (first | (refine walkR_still (v := ?_) rfl (by decide +kernel) rfl (fun _ _ _ h => h) hE6 ?_ ?_; rotate_left; (focus (intro w' hw'; skip; go_simp; all_goals (with_reducible rfl))); simp only [Act.put, List.setIfInBounds_toArray, List.set_cons_zero, List.set_cons_succ]) | (refine walkR_skip rfl (by decide +kernel) rfl (fun _ _ _ h => h) hE6 ?_; simp only [Act.put, List.setIfInBounds_toArray, List.set_cons_zero, List.set_cons_succ])))
            (refine walkR_tail (by rfl) (by kernel_rfl) ?_; simp only [List.drop_succ_cons, List.drop_zero])
            have HC6 : Hid (∃ n' f1' f2', n' ≤ n + (strT d (rowE d ts) p f (swapA x k) v).length + (brkT d (rowE d ts) p f x k v 0).length ∧ Counts w6 b1 b2 n' (gM p (L ++ strT d (rowE d ts) p f (swapA x k) v ++ brkT d (rowE d ts) p f x k v 0)) f1' f2' ∧ ∀ B, NewW B f1 → B ≤ w0.heap.size → NewW B f1') :=
              ⟨n4, f14, f24, Nat.le_trans HN4.out (Nat.le_add_right _ _), by rw [show brkT d (rowE d ts) p f x k v 0 = [] from rfl, List.append_nil]; exact HC4.out.below hE6, HNw4.out⟩
            have HX6 := hidP (HX4.out.trans (ExtM.of_ext hE6))
            have HA6 := hidP (HA4.out.below hE6)
            clear hE6 HC4 HN4 HA4 HI4 HX4 HQ0 HQ1
            go_wp2
            have hdi : (d : Int) ≤ 28 := by omega
            clear hNp hgt
            go_loopw [63] (fun i wr => ∃ q : Nat, q ≤ d ∧ i = .int .i64 q ∧ Hid (∃ n' f1' f2', n' ≤ n + (strT d (rowE d ts) p f (swapA x k) v).length + (brkT d (rowE d ts) p f x k v q).length ∧ Counts wr b1 b2 n' (gM p (L ++ strT d (rowE d ts) p f (swapA x k) v ++ brkT d (rowE d ts) p f x k v q)) f1' f2' ∧ ∀ B, NewW B f1 → B ≤ w0.heap.size → NewW B f1') ∧ Hid (EnvAt wr bk p d (some ⟨bt, ot, none⟩) N tc b1 b2) ∧ Hid (ExtM b1 b2 w0 wr)) (fun i _ => d - (intOf i).toNat)
            case atStart => exact ⟨0, Nat.zero_le _, rfl, HC6, HA6, HX6⟩
            case round =>
              clear HC6 HA6 HX6
              obtain ⟨q, hq, rfl, HCq, HAq, HXq⟩ := hrel
              by_cases hql : q < d
              · have HTq := hidP (HT.out.extM HXq.out M1.out M2.out)
                have t0 := HTq.out.atc (T + q) (by omega)
                have hmr := HR.out (T + q) (by omega)
                have hmq2 := HRow.out q
                obtain ⟨mq, hmq⟩ : ∃ m, m = ts.getD (T + q) 0 := ⟨_, rfl⟩
                rw [← hmq] at t0 hmr hmq2
                rw [← Nat.add_assoc] at t0
                have HBs := hidP (brkT_succ d (rowE d ts) p f x k v q)
                rw [hmq2] at HBs
                clear hmq hmq2
                by_cases hm0 : mq = 0
                · subst hm0
                  rw [if_pos rfl, List.append_nil] at HBs
                  go_wp2
                  go_roundw
                  case rel => exact ⟨q + 1, by omega, by go_num, by rw [HBs.out]; exact HCq, HAq, HXq⟩
                  case measure => simp [intOf]; omega
                · rw [if_neg hm0] at HBs
                  have hmb : (mq != 0) = true := by simpa using hm0
                  have hvm0 : 0 ≤ v * mq := Int.mul_nonneg hv0 hmr.1
                  have hvm1 : v * mq ≤ 10007 * 10007 := Int.mul_le_mul (by omega) (by omega) hmr.1 (by omega)
                  have hvw : IntKind.i64.wrap (v * mq) = v * mq := wrap_in (by omega) (by omega)
                  have hpz : ¬ (p = 0) := by omega
                  have htm : (v * mq).tmod p = v * mq % p := Int.tmod_eq_emod_of_nonneg hvm0
                  have hu0 := Int.emod_nonneg (v * mq) hpz
                  have hu1 := Int.emod_lt_of_pos (v * mq) (show 0 < p by omega)
                  obtain ⟨u, hu⟩ : ∃ u, u = v * mq % p := ⟨_, rfl⟩
                  rw [← hu] at htm hu0 hu1 HBs
                  have hkw2 : IntKind.i64.wrap ((k : Int) + 2) = (k : Int) + 2 := wrap_in (by omega) (by omega)
                  have hk5 : (k : Int) + 2 ≤ (x.length : Int) := by omega
                  have hk6 : (0 : Int) ≤ (k : Int) + 2 := by omega
                  have hk7 : ((k : Int) + 2).toNat = k + 2 := by omega
                  have hk8 : (k : Int) ≤ (c : Int) := by omega
                  have hk9 : (x.length : Int) ≤ (c : Int) := by omega
                  have hk10 : (0 : Int) ≤ (k : Int) := by omega
                  have HIq := hidP (HI.out.extM HXq.out M1.out M2.out)
                  have HAw := hidP (fun w' (hx : Ext wr w') => HAq.out.below hx)
                  have hE : Ext wr wr.drew := Ext.drew wr
                  clear hu hvm0 hvm1
                  go_wp2
                  (refine walkR_start (fun w' => Ext wr w') 19 (by kernel_rfl) ?_; simp only [numbered, List.take_succ_cons, List.take_zero, Nat.zero_add, Nat.reduceAdd, List.length_cons, List.length_nil])
                  (repeat (first | (refine walkR_still (v := ?_) rfl (by decide +kernel) rfl (fun _ _ _ h => h) hE ?_ ?_; rotate_left; (focus (intro w' hw'; obtain ⟨z0, z1, z2, z3, z4⟩ := HAw.out w' hw'; go_simp; all_goals (with_reducible rfl))); simp only [Act.put, List.setIfInBounds_toArray, List.set_cons_zero, List.set_cons_succ]) | (refine walkR_skip rfl (by decide +kernel) rfl (fun _ _ _ h => h) hE ?_; simp only [Act.put, List.setIfInBounds_toArray, List.set_cons_zero, List.set_cons_succ])))
                  (refine walkR_later ?_; simp only [List.cons_append, List.nil_append])
                  (repeat (first | (refine walkR_still (v := ?_) rfl (by decide +kernel) rfl (fun _ _ _ h => h) hE ?_ ?_; rotate_left; (focus (intro w' hw'; obtain ⟨z0, z1, z2, z3, z4⟩ := HAw.out w' hw'; go_simp; all_goals (with_reducible rfl))); simp only [Act.put, List.setIfInBounds_toArray, List.set_cons_zero, List.set_cons_succ]) | (refine walkR_skip rfl (by decide +kernel) rfl (fun _ _ _ h => h) hE ?_; simp only [Act.put, List.setIfInBounds_toArray, List.set_cons_zero, List.set_cons_succ])))
                  (refine walkR_later ?_; simp only [List.cons_append, List.nil_append]); (refine walkR_later ?_; simp only [List.cons_append, List.nil_append])
                  (repeat (first | (refine walkR_still (v := ?_) rfl (by decide +kernel) rfl (fun _ _ _ h => h) hE ?_ ?_; rotate_left; (focus (intro w' hw'; obtain ⟨z0, z1, z2, z3, z4⟩ := HAw.out w' hw'; go_simp; all_goals (with_reducible rfl))); simp only [Act.put, List.setIfInBounds_toArray, List.set_cons_zero, List.set_cons_succ]) | (refine walkR_skip rfl (by decide +kernel) rfl (fun _ _ _ h => h) hE ?_; simp only [Act.put, List.setIfInBounds_toArray, List.set_cons_zero, List.set_cons_succ])))
                  (refine walkR_only (fun w' => Ext wr w') rfl (by decide +kernel) rfl ?_ ?_)
                  · exact fun _ h => h
                  intro K hK
                  go_simp
                  have hE5 : Ext wr (wr.alloc (.cells #[.int .i64 (q : Int)] 3)).drew := (Ext.alloc wr _).trans (Ext.drew _)
                  have HOne := hidP ((one_ints wr (q : Int) 3).below (Ext.drew (wr.alloc (.cells #[.int .i64 (q : Int)] 3))))
                  refine hK _ _ hE5 ?_
                  clear hK K hE
                  (try simp only [Act.put, List.setIfInBounds_toArray, List.set_cons_zero, List.set_cons_succ])
                  obtain ⟨w5, hw5⟩ : ∃ x, x = (wr.alloc (.cells #[.int .i64 (q : Int)] 3)).drew := ⟨_, rfl⟩
                  rw [← hw5] at hE5 HOne
                  first | rw [← hw5] | skip
                  clear hw5
                  obtain ⟨bq, hbq⟩ : ∃ b, b = wr.heap.size := ⟨_, rfl⟩
                  rw [← hbq] at HOne
                  simp only [← hbq]
                  clear hbq
                  obtain ⟨xa, hxa⟩ : ∃ xa, xa = (if c = k + 2 then (some ⟨bx, ox, none⟩ : Option Addr) else some ⟨bx, ox + (k + 2), none⟩) := ⟨_, rfl⟩
                  try simp only [← hxa]
                  have HXa : Hid (IntsAt w0 xa (x.length - (k + 2)) (x.drop (k + 2))) := by
                    show IntsAt _ _ _ _
                    rw [hxa]
                    split
                    · have e : x.length - (k + 2) = 0 := by omega
                      rw [e, List.drop_eq_nil_of_le (by omega)]
                      exact IntsAt.nil _ _
                    · have h := HI.out.part (k + 2) (x.length - (k + 2)) (by omega)
                      rwa [List.take_of_length_le (by rw [List.length_drop]; exact Nat.le_refl _)] at h
                  have HXn : Hid (xa = none → c - (k + 2) = 0) := fun e => by rw [hxa] at e; split at e <;> cases e
                  clear hxa
                  have HTk : Hid (IntsAt w0 (some ⟨bx, ox, none⟩) k (x.take k)) := by
                    have h := HI.out.part 0 k (by omega)
                    show IntsAt _ _ _ _
                    simpa using h
                  have HRows := hidP (fun (W : World) (hW : Ext w5 W) => (⟨rfl, fun i hi => by
                    have hm1 := M1.out
                    have hm2 := M2.out
                    have hxm := HXq.out.trans (ExtM.of_ext (b1 := b1) (b2 := b2) (hE5.trans hW))
                    have hall := ((Ext.alloc W (.cells #[.slice (some ⟨bx, ox, none⟩) k c, .slice (some ⟨bq, 0, none⟩) 1 1, .slice xa (x.length - (k + 2)) (c - (k + 2))] 22)))
                    have hc : ∀ j, (W.alloc (.cells #[.slice (some ⟨bx, ox, none⟩) k c, .slice (some ⟨bq, 0, none⟩) 1 1, .slice xa (x.length - (k + 2)) (c - (k + 2))] 22)).cell? ⟨W.heap.size, j, none⟩ = #[Value.slice (some ⟨bx, ox, none⟩) k c, .slice (some ⟨bq, 0, none⟩) 1 1, .slice xa (x.length - (k + 2)) (c - (k + 2))][j]? := fun j => cell_top _ _ _ _ _ rfl
                    have hlt2 : k ≤ x.length := by omega
                    match i, hi with
                    | 0, _ => exact ⟨W.heap.size, 0, some ⟨bx, ox, none⟩, c, rfl, by rw [hc]; simp [Nat.min_eq_left hlt2], by simpa [Nat.min_eq_left hlt2] using ((HTk.out.extM hxm hm1 hm2).below hall), fun e => by cases e⟩
                    | 1, _ => exact ⟨W.heap.size, 0, some ⟨bq, 0, none⟩, 1, rfl, by rw [hc]; simp, (HOne.out.below hW).below hall, fun e => by cases e⟩
                    | 2, _ => exact ⟨W.heap.size, 0, xa, c - (k + 2), rfl, by rw [hc]; simp, by simpa using ((HXa.out.extM hxm hm1 hm2).below hall), HXn.out⟩⟩ :
                      RowsI (W.alloc (.cells #[.slice (some ⟨bx, ox, none⟩) k c, .slice (some ⟨bq, 0, none⟩) 1 1, .slice xa (x.length - (k + 2)) (c - (k + 2))] 22)) (some ⟨W.heap.size, 0, none⟩) 3 [x.take k, [(q : Int)], x.drop (k + 2)]))
                  (refine walkR_only (fun w' => Ext wr w') rfl (by decide +kernel) rfl ?_ ?_)
                  · exact fun _ h => h
                  intro K hK
                  go_simp
                  have hE6 : Ext wr (w5.alloc (.cells #[.slice (some ⟨bx, ox, none⟩) k c, .slice (some ⟨bq, 0, none⟩) 1 1, .slice xa (x.length - (k + 2)) (c - (k + 2))] 22)) := hE5.trans (Ext.alloc _ _)
                  have hcl := cutA_length (k := (q : Int)) hlt
                  have hRw := concat_any (some ⟨w5.heap.size, 0, none⟩) 3 3 _ _ (HRows.out w5 (Ext.refl w5)) (by omega) (by rw [cutA_rows]; omega)
                  rw [cutA_rows] at hRw
                  have HCc := hidP hRw
                  refine hK _ _ hE6 ?_
                  clear hK K hRw HRows
                  (try simp only [Act.put, List.setIfInBounds_toArray, List.set_cons_zero, List.set_cons_succ])
                  (refine walkR_only (fun w' => Ext wr w') rfl (by decide +kernel) rfl (fun _ h => h) ?_; intro K hK; go_simp; refine (HCc.out).mono ?_; rintro e w7 ⟨a7, c7, rfl, ho7, hx7⟩; refine hK _ _ (hE6.trans hx7) ?_; clear hK K; (try simp only [Act.put, List.setIfInBounds_toArray, List.set_cons_zero, List.set_cons_succ]))
                  have hE7 := hE6.trans hx7
                  obtain ⟨n1, f11, f21, hn1, hC1, hnw1⟩ := HCq.out
                  have HNw1 := hidP hnw1
                  have HAb : Hid (∀ b o, a7 = some ⟨b, o, none⟩ → w0.heap.size ≤ b) := fun b o e => by
                    have h1 := (ho7.at_base b o e).1
                    have h2 := hE6.size
                    have h3 := HXq.out.size
                    omega
                  clear hnw1
                  have hbm := brkT_mono d (rowE d ts) p f x k v (show q + 1 ≤ d by omega)
                  have hbl : (brkT d (rowE d ts) p f x k v (q + 1)).length = (brkT d (rowE d ts) p f x k v q).length + (strT d (rowE d ts) p f (cutA x k (q : Int)) u).length := by rw [HBs.out, List.length_append]
                  have hxw := HXq.out.trans (ExtM.of_ext (b1 := b1) (b2 := b2) hE7)
                  have HS2 := hidP (IH.out n1 (L ++ strT d (rowE d ts) p f (swapA x k) v ++ brkT d (rowE d ts) p f x k v q) f11 f21 a7 (cutA x k (q : Int)).length c7 (cutA x k (q : Int)) u w7 (by have h1 := fuel_cut HDs.out hx6 (q : Int); have h2 := HF.out; omega) (hC1.below hE7) ho7.ints ho7.nilc ho7.room2 (HW.out.cut hlt hql) (by omega) hu0 hu1 (by have h1 := HNn.out; have h2 := HLn.out; omega) (HT.out.extM hxw M1.out M2.out) (HTb.out.extM hxw M1.out M2.out))
                  have hm1 := (hC1.below hE7).m1.is
                  have hm2 := (hC1.below hE7).m2.is
                  have N1 := hidP hm1
                  have N2 := hidP hm2
                  have HA7 := hidP (HAq.out.below hE7)
                  have HX7 := hidP hxw
                  have HBl := hidP (show n1 + (strT d (rowE d ts) p f (cutA x k (q : Int)) u).length ≤ n + (strT d (rowE d ts) p f (swapA x k) v).length + (brkT d (rowE d ts) p f x k v (q + 1)).length by omega)
                  clear hm1 hm2 hxw hbm hbl hn1 hC1 ho7 hx7 hE6 hE5 hE7 hcl HCc
                  (refine walkR_tail (by rfl) (by kernel_rfl) ?_; simp only [List.drop_succ_cons, List.drop_zero])
                  go_wp2_with fail
                  refine HS2.out.mono ?_
                  rintro e w8 ⟨rfl, ⟨n8, f18, f28, hn8, hC8, hnw8⟩, hx8⟩
                  have HNw8 : Hid (∀ B, NewW B f1 → B ≤ w0.heap.size → NewW B f18) := fun B h1 h2 => hnw8 B (HNw1.out B h1 h2) (fun b o e => Nat.le_trans h2 (HAb.out b o e)) (Nat.le_trans h2 HX7.out.size)
                  clear hnw8
                  have HC8 : Hid (∃ n' f1' f2', n' ≤ n + (strT d (rowE d ts) p f (swapA x k) v).length + (brkT d (rowE d ts) p f x k v (q + 1)).length ∧ Counts w8 b1 b2 n' (gM p (L ++ strT d (rowE d ts) p f (swapA x k) v ++ brkT d (rowE d ts) p f x k v (q + 1))) f1' f2' ∧ ∀ B, NewW B f1 → B ≤ w0.heap.size → NewW B f1') :=
                    ⟨n8, f18, f28, Nat.le_trans hn8 HBl.out, by rw [HBs.out, ← List.append_assoc]; exact hC8, HNw8.out⟩
                  have HA8 := hidP (HA7.out.extM hx8 N1.out N2.out)
                  have HX8 := hidP (HX7.out.trans hx8)
                  clear hn8 hC8 hx8
                  go_wp2
                  go_roundw
                  case rel => exact ⟨q + 1, by omega, by go_num, HC8, HA8, HX8⟩
                  case measure => simp [intOf]; omega
              · obtain rfl : q = d := by omega
                have HC8 : Hid (∃ n' f1' f2', n' ≤ n + (strT q (rowE q ts) p (f + 1) x v).length ∧ Counts wr b1 b2 n' (gM p (L ++ strT q (rowE q ts) p (f + 1) x v)) f1' f2' ∧ ∀ B, NewW B f1 → (∀ b o, some ⟨bx, ox, none⟩ = some (⟨b, o, none⟩ : Addr) → B ≤ b) → B ≤ w.heap.size → NewW B f1') := by
                  obtain ⟨n1, f11, f21, hn1, hC1, hnw1⟩ := HCq.out
                  refine ⟨n1, f11, f21, ?_, ?_, fun B h1 _ h3 => hnw1 B h1 (Nat.le_trans h3 HX0.out.size)⟩
                  · have := HLn.out; omega
                  · rw [HE.out, ← List.append_assoc]; exact hC1
                have HX8 := hidP ((ExtM.of_ext (b1 := b1) (b2 := b2) HX0.out).trans HXq.out)
                clear HCq HXq
                go_wp2
                refine bodyPost_ret (v := .tuple #[]) (by simp [results, Tryz.results52]) rfl ⟨rfl, HC8.out, HX8.out⟩
          · have hle2 := of_decide_eq_true hle
            have HJ2 : Hid (∀ j, j < k + 1 → x.getD j 0 ≤ x.getD (j + 1) 0) := by
              intro j hj
              rcases Nat.lt_succ_iff_lt_or_eq.1 hj with h3 | rfl
              · exact HJ.out j h3
              · rw [← HY0.out, ← HY1.out]; exact hle2
            clear hle
            go_wp2
            go_quiet (fail)
            go_wp2
            go_roundw
            case rel => exact ⟨k + 1, .inr (by omega), by go_num, HJ2, HX.out.trans (Ext.drewN _ _)⟩
            case measure => simp [intOf]; omega
        · have hki : ¬ ((k : Int) < (x.length : Int) - 1) := by omega
          have HE : Hid (strT d (rowE d ts) p (f + 1) x v = [(x, v)]) := strT_end v fun j hj => HJ.out j (by omega)
          have HAd := hidP (envAdd_new p d ta N tc b1 b2 n L f1 f2 a x.length c x v wr (HC.out.below HX.out) (wordB_key hd HW.out hx6) (HI.out.below HX.out) HNil.out (by have := HNn.out; omega) hp hp2 hv0 hv1 (HTb.out.below HX.out))
          obtain ⟨z0, z1, z2, z3, z4⟩ := HA.out.below HX.out
          go_wp2_with fail
          refine HAd.out.mono ?_
          rintro e w7 ⟨rfl, ⟨f1', f2', hC7, hnw⟩, hx7⟩
          have HNw := hidP hnw
          clear hnw
          rw [← HE.out] at hC7
          have HC7 := hidP hC7
          have HX7 := hidP (((ExtM.of_ext (b1 := b1) (b2 := b2) HX0.out).trans (ExtM.of_ext HX.out)).trans hx7)
          have hlen : (strT d (rowE d ts) p (f + 1) x v).length = 1 := by rw [HE.out]; rfl
          clear hC7 hx7
          go_wp2
          go_end0
          exact ⟨rfl, ⟨n + 1, f1', f2', by omega, HC7.out, fun B h1 h2 _ => HNw.out B h1 h2⟩, HX7.out⟩
end Go.Proofs.YtcfgcacmmmhjcaaGreatDoor

namespace Go.Proofs.YtcfgcacmmmhjcaaGreatDoor
open Go.RowKit

theorem StpAt.extM {b1 b2 : Nat} {w w' : World} {b : Nat} {a : Option Addr} {n c : Nat} {l : Int} (h : StpAt w b a n c l) (hx : ExtM b1 b2 w w') (m1 : IsMapAt w b1) (m2 : IsMapAt w b2) : StpAt w' b a n c l :=
  ⟨hx.cell m1 m2 h.c0, hx.cell m1 m2 h.c1⟩
theorem NewW.mono {B B' : Nat} {f : ByteArray → Option Value} (h : NewW B' f) (hb : B ≤ B') : NewW B f := fun s b o n c e => Nat.le_trans hb (h s b o n c e)
theorem two_rows (W : World) (a a' : Option Addr) (c c' : Nat) (x y : List Int) (hx : IntsAt W a x.length x) (hy : IntsAt W a' y.length y) (hn : a = none → c = 0) (hn' : a' = none → c' = 0) (E : TypeId) :
    RowsI (W.alloc (.cells #[.slice a x.length c, .slice a' y.length c'] E)) (some ⟨W.heap.size, 0, none⟩) 2 [x, y] := by
  have hall := Ext.alloc W (.cells #[.slice a x.length c, .slice a' y.length c'] E)
  have hc : ∀ j, (W.alloc (.cells #[.slice a x.length c, .slice a' y.length c'] E)).cell? ⟨W.heap.size, j, none⟩ = #[Value.slice a x.length c, .slice a' y.length c'][j]? := fun j => cell_top _ _ _ _ _ rfl
  refine ⟨rfl, fun i hi => ?_⟩
  match i, hi with
  | 0, _ => exact ⟨W.heap.size, 0, a, c, rfl, by rw [hc]; simp, hx.below hall, hn⟩
  | 1, _ => exact ⟨W.heap.size, 0, a', c', rfl, by rw [hc]; simp, hy.below hall, hn'⟩
theorem two_flat (x y : List Int) : [x, y].flatten = x ++ y := by simp
theorem mulRow_nil (p : Int) (d : Nat) (t : List Int) (s : Tm) : mulRow p d t s [] = [] := rfl
theorem wordOf {p : Int} {d : Nat} {us : List Tm} (h : EnvP p d us) {k : Nat} (hk : k < us.length) : WordA d (wayAt us k) ∧ (wayAt us k).length ≤ degE us := by
  have hm : us.getD k ([], 0) ∈ us := by rw [getTm hk]; exact List.getElem_mem hk
  exact ⟨(wordB_parts.1 (h.at hk).1).2.1, degE_mem hm⟩

set_option maxRecDepth 100000 in
set_option maxHeartbeats 8000000 in
theorem mulEnvIn_any (p : Int) (D : Nat) (ta : Option Addr) (tn tc : Nat) (ts : List Int) (hD28 : D ≤ 28) (hNe : tn = D * D * D) (htc : tn ≤ tc) (htc2 : tc ≤ 1000000000000) (p2 : 2 ≤ p) (p7 : p ≤ 10007) (hRs : Res p ts)
    (a : Option Addr) (n c : Nat) (xs : List Tm) (a' : Option Addr) (n' c' : Nat) (ys : List Tm) (w : World) (hc : IntsAt w ta tn ts) (h : StepsAt w a n xs) (h' : StepsAt w a' n' ys) (hU : EnvP p D xs) (hV : EnvP p D ys) (hdeg : degE xs + degE ys ≤ 6) (ht : Tab w) :
    Calls Tryz.prog 57 #[algV p D ta tn tc, .slice a n c, .slice a' n' c'] w fun e w' => ∃ b q f1 f2, e = .returned (envV p D ta tn tc b (b + 1)) ∧ q ≤ 50000000000 * (300 * n) ∧ Counts w' b (b + 1) q (gM p (mulE p D ts xs ys)) f1 f2 ∧ w.heap.size ≤ b ∧ Ext w w' := by
  have hxa := Ext.alloc w (.cells #[.int .i64 p, .int .i64 (D : Int), .slice ta tn tc] 28)
  have hxb := Ext.alloc (w.alloc (.cells #[.int .i64 p, .int .i64 (D : Int), .slice ta tn tc] 28)) (.cells #[.int .i64 0, .int .i64 0, .slice none 0 0, .map none, .map none] 56)
  have HAl := hidP ((AlgAt.new w _ rfl p (D : Int) ta tn tc 28).below hxb)
  have hsz : (w.alloc (.cells #[.int .i64 p, .int .i64 (D : Int), .slice ta tn tc] 28)).heap.size = w.heap.size + 1 := by simp
  have HZ := hidP (fun w' (hx : Ext ((w.alloc (.cells #[.int .i64 p, .int .i64 (D : Int), .slice ta tn tc] 28)).alloc (.cells #[.int .i64 0, .int .i64 0, .slice none 0 0, .map none, .map none] 56)) w') => res5 hx (w.heap.size + 1) hsz.symm)
  have H := hidP (h.below (hxa.trans hxb))
  have H' := hidP (h'.below (hxa.trans hxb))
  have HTs := hidP (hc.below (hxa.trans hxb))
  have HTb := hidP (ht.below (hxa.trans hxb))
  have HX0 := hidP (hxa.trans hxb)
  have HU := hidP hU
  have HV := hidP hV
  have HNe := hidP hNe
  have HRs := hidP hRs
  have hnl := h.len
  have hnl' := h'.len
  have hu3 := hU.len
  have hv3 := hV.len
  have HBl : Hid (((w.alloc (.cells #[.int .i64 p, .int .i64 (D : Int), .slice ta tn tc] 28)).alloc (.cells #[.int .i64 0, .int .i64 0, .slice none 0 0, .map none, .map none] 56)).heap[w.heap.size + 1]? = some (.cells #[.int .i64 0, .int .i64 0, .slice none 0 0, .map none, .map none] 56 (0, 0))) := by
    show _ = _
    rw [← hsz]
    exact heap_alloc_new _ _
  have HZs : Hid (w.heap.size + 1 < ((w.alloc (.cells #[.int .i64 p, .int .i64 (D : Int), .slice ta tn tc] 28)).alloc (.cells #[.int .i64 0, .int .i64 0, .slice none 0 0, .map none, .map none] 56)).heap.size) := by show _ < _; simp
  clear hc h h' hU hV ht hNe hRs hxa hxb hsz
  obtain ⟨w0, hw0⟩ : ∃ w0, w0 = (w.alloc (.cells #[.int .i64 p, .int .i64 (D : Int), .slice ta tn tc] 28)).alloc (.cells #[.int .i64 0, .int .i64 0, .slice none 0 0, .map none, .map none] 56) := ⟨_, rfl⟩
  rw [← hw0] at HAl HZ H H' HTs HTb HX0 HZs HBl
  have HN := hidP (newEnv_any p D ta tn tc w0)
  obtain ⟨f0, f1, f2⟩ := HAl.out
  go_enter Tryz.func57, Tryz.ntmps57
  go_wp2_with fail
  first | rw [← hw0] | skip
  clear hw0
  refine HN.out.mono ?_
  rintro e w4 ⟨b, rfl, hC4, hb4, hx4⟩
  have hx5 := Ext.alloc w4 (.cells #[.int .i64 p, .int .i64 (D : Int), .slice ta tn tc, .map (some b), .map (some (b + 1))] 56)
  have HY5 := hidP (hx4.trans hx5)
  have HC5 : Hid (∃ q f1 f2, q ≤ 50000000000 * (300 * 0) ∧ Counts (w4.alloc (.cells #[.int .i64 p, .int .i64 (D : Int), .slice ta tn tc, .map (some b), .map (some (b + 1))] 56)) b (b + 1) q (gM p (mulE p D ts (xs.take 0) ys)) f1 f2 ∧ NewW w0.heap.size f1) := by
    refine ⟨0, fun _ => none, fun _ => none, by omega, ?_, NewW.none _⟩
    rw [List.take_zero, show gM p (mulE p D ts [] ys) = fun _ => 0 from funext fun x => by simp [gM, cntSum, mulE]]
    exact hC4.below hx5
  have HA5 := hidP (EnvAt.new w4 _ rfl p D ta tn tc b (b + 1) 56)
  have HB : Hid (w0.heap.size ≤ b) := hb4
  obtain ⟨w5, hw5⟩ : ∃ w5, w5 = w4.alloc (.cells #[.int .i64 p, .int .i64 (D : Int), .slice ta tn tc, .map (some b), .map (some (b + 1))] 56) := ⟨_, rfl⟩
  rw [← hw5] at HC5 HA5 HY5
  obtain ⟨bk, hbk⟩ : ∃ bk, bk = w4.heap.size := ⟨_, rfl⟩
  rw [← hbk] at HA5
  clear hC4 hb4 hx4 hx5 HN f0 f1 f2
  go_wp2
  first | rw [← hw5] | skip
  simp only [← hbk]
  clear hw5 hbk
  go_loopw [16] (fun i wr => ∃ k : Nat, k ≤ n ∧ i = .int .i64 k ∧ Hid (∃ q f1 f2, q ≤ 50000000000 * (300 * k) ∧ Counts wr b (b + 1) q (gM p (mulE p D ts (xs.take k) ys)) f1 f2 ∧ NewW w0.heap.size f1) ∧ Hid (EnvAt wr bk p D ta tn tc b (b + 1)) ∧ Hid (Ext w0 wr)) (fun i _ => n - (intOf i).toNat)
  case atStart => exact ⟨0, Nat.zero_le _, rfl, HC5, HA5, HY5⟩
  case round =>
    clear HC5 HA5 HY5
    obtain ⟨k, hk, rfl, HCn, HA, HX⟩ := hrel
    by_cases hlt : k < n
    · obtain ⟨bu, o, aw, cw, W, L, rfl, HWy, HLy, hwl, HNl, hq⟩ := (H.out.below HX.out).way k hlt
      have HQ := hidP hq
      obtain ⟨q1, q2, _⟩ := hq wr (Ext.refl wr)
      have hat := HU.out.at (k := k) (by omega)
      have hwo := wordOf HU.out (k := k) (by omega)
      rw [HWy.out] at hwo
      rw [HLy.out] at hat
      have hL := hat.2
      have HWd := hidP hwo.1
      have hWl := hwo.2
      have hx5 := Ext.alloc wr (.cells #[.slice aw W.length cw, .int .i64 L] 62)
      have HS := hidP (StpAt.new wr _ rfl aw W.length cw L 62)
      have HI5 := hidP ((HQ.out wr (Ext.refl wr)).2.2.below hx5)
      have HA5 := hidP (HA.out.below hx5)
      have HX5 := hidP (HX.out.trans hx5)
      have HSn : Hid (gM p (mulE p D ts (xs.take (k + 1)) ys) = gM p (mulE p D ts (xs.take k) ys ++ mulRow p D ts (W, L) (ys.take n'))) := by
        show _ = _
        rw [mulE_take p D ts xs ys (by omega), HWy.out, HLy.out, List.take_of_length_le (show ys.length ≤ n' by omega)]
      have HC5 : Hid (∃ q f1 f2, q ≤ 50000000000 * (300 * k + 0) ∧ Counts (wr.alloc (.cells #[.slice aw W.length cw, .int .i64 L] 62)) b (b + 1) q (gM p (mulE p D ts (xs.take k) ys ++ mulRow p D ts (W, L) (ys.take 0))) f1 f2 ∧ NewW w0.heap.size f1) := by
        obtain ⟨q, f1, f2, hq, hC, hW⟩ := HCn.out
        exact ⟨q, f1, f2, by omega, by rw [List.take_zero, mulRow_nil, List.append_nil]; exact hC.below hx5, hW⟩
      obtain ⟨w5, hw5⟩ : ∃ w5, w5 = wr.alloc (.cells #[.slice aw W.length cw, .int .i64 L] 62) := ⟨_, rfl⟩
      rw [← hw5] at HS HI5 HA5 HX5 HC5
      obtain ⟨bs, hbs⟩ : ∃ bs, bs = wr.heap.size := ⟨_, rfl⟩
      rw [← hbs] at HS
      clear hq hat hwo hx5 HA HX HCn HQ
      go_wp2
      first | rw [← hw5] | skip
      simp only [← hbs]
      clear hw5 hbs q1 q2
      go_loopw [22] (fun i wr => ∃ j : Nat, j ≤ n' ∧ i = .int .i64 j ∧ Hid (∃ q f1 f2, q ≤ 50000000000 * (300 * k + j) ∧ Counts wr b (b + 1) q (gM p (mulE p D ts (xs.take k) ys ++ mulRow p D ts (W, L) (ys.take j))) f1 f2 ∧ NewW w0.heap.size f1) ∧ Hid (EnvAt wr bk p D ta tn tc b (b + 1)) ∧ Hid (StpAt wr bs aw W.length cw L) ∧ Hid (IntsAt wr aw W.length W) ∧ Hid (Ext w0 wr)) (fun i _ => n' - (intOf i).toNat)
      case atStart => exact ⟨0, Nat.zero_le _, rfl, HC5, HA5, HS, HI5, HX5⟩
      case round =>
        clear HC5 HA5 HS HI5 HX5
        obtain ⟨j, hj, rfl, HCn, HA, HS, HI, HX⟩ := hrel
        by_cases hlt' : j < n'
        · obtain ⟨bv, o', av, cv, V, M, rfl, HVy, HMy, hvl, HNv, hq⟩ := (H'.out.below HX.out).way j hlt'
          have HQ := hidP hq
          obtain ⟨q1, q2, _⟩ := hq wr (Ext.refl wr)
          have hat := HV.out.at (k := j) (by omega)
          have hwo := wordOf HV.out (k := j) (by omega)
          rw [HVy.out] at hwo
          rw [HMy.out] at hat
          have hM := hat.2
          have HVd := hidP hwo.1
          have hVl := hwo.2
          have h6 : (W ++ V).length ≤ 6 := by rw [List.length_append]; omega
          have hm0 : 0 ≤ L * M := Int.mul_nonneg (by omega) (by omega)
          have hm1 : L * M ≤ 10007 * 10007 := Int.mul_le_mul (by omega) (by omega) (by omega) (by omega)
          have hmw : IntKind.i64.wrap (L * M) = L * M := wrap_in (by omega) (by omega)
          have hpz : ¬ (p = 0) := by omega
          have htm : (L * M).tmod p = L * M % p := Int.tmod_eq_emod_of_nonneg hm0
          have hv0 := Int.emod_nonneg (L * M) hpz
          have hv1 := Int.emod_lt_of_pos (L * M) (show 0 < p by omega)
          have HSn2 : Hid (mulRow p D ts (W, L) (ys.take (j + 1)) = mulRow p D ts (W, L) (ys.take j) ++ strE p D ts (W ++ V) (L * M % p)) := by
            show _ = _
            rw [mulRow_take p D ts (W, L) ys (by omega), HVy.out, HMy.out]
          obtain ⟨v, hv⟩ : ∃ v, v = L * M % p := ⟨_, rfl⟩
          rw [← hv] at htm hv0 hv1 HSn2
          have hx6 := Ext.alloc wr (.cells #[.slice av V.length cv, .int .i64 M] 62)
          have HS2 := hidP (StpAt.new wr _ rfl av V.length cv M 62)
          have HIv := hidP ((HQ.out wr (Ext.refl wr)).2.2.below hx6)
          have HIw := hidP (HI.out.below hx6)
          have HSw := hidP (HS.out.below hx6)
          have HA6 := hidP (HA.out.below hx6)
          have HX6 := hidP (HX.out.trans hx6)
          have HC6 : Hid (∃ q f1 f2, q ≤ 50000000000 * (300 * k + j) ∧ Counts (wr.alloc (.cells #[.slice av V.length cv, .int .i64 M] 62)) b (b + 1) q (gM p (mulE p D ts (xs.take k) ys ++ mulRow p D ts (W, L) (ys.take j))) f1 f2 ∧ NewW w0.heap.size f1) := by
            obtain ⟨q, f1, f2, hq, hC, hW⟩ := HCn.out
            exact ⟨q, f1, f2, hq, hC.below hx6, hW⟩
          clear hq hat hwo hx6 HA HX HCn HS HI hm0 hm1 hv
          go_wp2
          obtain ⟨w6, hw6⟩ : ∃ w6, w6 = wr.alloc (.cells #[.slice av V.length cv, .int .i64 M] 62) := ⟨_, rfl⟩
          rw [← hw6] at HS2 HIv HIw HSw HA6 HX6 HC6
          first | rw [← hw6] | skip
          obtain ⟨bz, hbz⟩ : ∃ bz, bz = wr.heap.size := ⟨_, rfl⟩
          rw [← hbz] at HS2
          simp only [← hbz]
          clear hw6 hbz q1 q2
          have HAl6 := hidP (fun w' (hx : Ext w6 w') => HAl.out.below (HX6.out.trans hx))
          have hE : Ext w6 w6.drew := Ext.drew w6
          (refine walkR_start (fun w' => Ext w6 w') 15 (by kernel_rfl) ?_; simp only [numbered, List.take_succ_cons, List.take_zero, Nat.zero_add, Nat.reduceAdd, List.length_cons, List.length_nil])
          (repeat (first | (refine walkR_still (v := ?_) rfl (by decide +kernel) rfl (fun _ _ _ h => h) hE ?_ ?_; rotate_left; (focus (intro w' hw'; obtain ⟨z0, z1, z2, z3, z4⟩ := HA6.out.below hw'; obtain ⟨s0, s1⟩ := HSw.out.below hw'; obtain ⟨t0, t1⟩ := HS2.out.below hw'; obtain ⟨g0, g1, g2⟩ := HAl6.out w' hw'; go_simp; all_goals (with_reducible rfl))); simp only [Act.put, List.setIfInBounds_toArray, List.set_cons_zero, List.set_cons_succ]) | (refine walkR_skip rfl (by decide +kernel) rfl (fun _ _ _ h => h) hE ?_; simp only [Act.put, List.setIfInBounds_toArray, List.set_cons_zero, List.set_cons_succ])))
          (refine walkR_later ?_; simp only [List.cons_append, List.nil_append]); (refine walkR_later ?_; simp only [List.cons_append, List.nil_append])
          (repeat (first | (refine walkR_still (v := ?_) rfl (by decide +kernel) rfl (fun _ _ _ h => h) hE ?_ ?_; rotate_left; (focus (intro w' hw'; obtain ⟨z0, z1, z2, z3, z4⟩ := HA6.out.below hw'; obtain ⟨s0, s1⟩ := HSw.out.below hw'; obtain ⟨t0, t1⟩ := HS2.out.below hw'; obtain ⟨g0, g1, g2⟩ := HAl6.out w' hw'; go_simp; all_goals (with_reducible rfl))); simp only [Act.put, List.setIfInBounds_toArray, List.set_cons_zero, List.set_cons_succ]) | (refine walkR_skip rfl (by decide +kernel) rfl (fun _ _ _ h => h) hE ?_; simp only [Act.put, List.setIfInBounds_toArray, List.set_cons_zero, List.set_cons_succ])))
          have hE7 : Ext w6 (w6.alloc (.cells #[.slice aw W.length cw, .slice av V.length cv] 22)).drew := (Ext.alloc w6 _).trans (Ext.drew _)
          have hRw := concat_any (some ⟨w6.heap.size, 0, none⟩) 2 2 _ _ ((two_rows w6 aw av cw cv W V HIw.out HIv.out HNl.out HNv.out 22).below (Ext.drew _)) (by omega) (by rw [two_flat]; omega)
          rw [two_flat] at hRw
          have HCc := hidP hRw
          clear hRw hE
          (refine walkR_only (fun w' => Ext w6 w') rfl (by decide +kernel) rfl ?_ ?_)
          · exact fun _ h => h
          intro K hK
          go_simp
          refine hK _ _ hE7 ?_
          clear hK K
          (try simp only [Act.put, List.setIfInBounds_toArray, List.set_cons_zero, List.set_cons_succ])
          (refine walkR_only (fun w' => Ext w6 w') rfl (by decide +kernel) rfl (fun _ h => h) ?_; intro K hK; go_simp; refine (HCc.out).mono ?_; rintro e w8 ⟨a8, c8, rfl, ho8, hx8⟩; refine hK _ _ (hE7.trans hx8) ?_; clear hK K; (try simp only [Act.put, List.setIfInBounds_toArray, List.set_cons_zero, List.set_cons_succ]))
          have hE8 := hE7.trans hx8
          rw [List.length_append] at ho8
          try rw [List.length_append]
          obtain ⟨q, f1, f2, hq, hC, hW⟩ := HC6.out
          have HNw := hidP hW
          have HAb : Hid (∀ b o, a8 = some ⟨b, o, none⟩ → w0.heap.size ≤ b) := fun b o e => by
            have h1 := (ho8.at_base b o e).1
            have h2 := HX6.out.size
            have h3 := hE7.size
            omega
          clear hW
          have hlv := strT_leaves D (rowE D ts) p hD28 112 (W ++ V) v h6
          have HAd := hidP (addProduct_new p D ta tn tc ts b (b + 1) hD28 HNe.out htc htc2 p2 p7 HRs.out 112 q _ f1 f2 a8 (W.length + V.length) c8 (W ++ V) v w8 (fuel_ok h6) (hC.below hE8) ho8.ints ho8.nilc ho8.room2 (HWd.out.app HVd.out) h6 hv0 hv1 (by omega) (HTs.out.below (HX6.out.trans hE8)) (HTb.out.below (HX6.out.trans hE8)))
          have HM1 := hidP ((hC.below hE8).m1.is)
          have HM2 := hidP ((hC.below hE8).m2.is)
          have HBn := hidP (show q + (strT D (rowE D ts) p 112 (W ++ V) v).length ≤ 50000000000 * (300 * k + (j + 1)) by omega)
          have HA8 := hidP (HA6.out.below hE8)
          have HSw8 := hidP (HSw.out.below hE8)
          have HI8 := hidP (HIw.out.below hE8)
          have HX8 := hidP (HX6.out.trans hE8)
          clear hq hC hlv ho8 hx8 hE7 hE8 HCc HC6 HA6 HSw HIw HX6 HS2 HIv HAl6
          (refine walkR_tail (by rfl) (by kernel_rfl) ?_; simp only [List.drop_succ_cons, List.drop_zero])
          go_wp2_with fail
          refine HAd.out.mono ?_
          rintro e w9 ⟨rfl, ⟨n9, f19, f29, hn9, hC9, hnw9⟩, hx9⟩
          have HNw9 := hidP (hnw9 w0.heap.size HNw.out HAb.out HX8.out.size)
          clear hnw9
          have HC9 : Hid (∃ q f1 f2, q ≤ 50000000000 * (300 * k + (j + 1)) ∧ Counts w9 b (b + 1) q (gM p (mulE p D ts (xs.take k) ys ++ mulRow p D ts (W, L) (ys.take (j + 1)))) f1 f2 ∧ NewW w0.heap.size f1) := ⟨n9, f19, f29, Nat.le_trans hn9 HBn.out, by rw [HSn2.out, ← List.append_assoc]; exact hC9, HNw9.out⟩
          have HA9 := hidP (HA8.out.extM hx9 HM1.out HM2.out)
          have HS9 := hidP (HSw8.out.extM hx9 HM1.out HM2.out)
          have HI9 := hidP (HI8.out.extM hx9 HM1.out HM2.out)
          have HX9 : Hid (Ext w0 w9) := hidP (hx9.below HX8.out HB.out (Nat.le_succ_of_le HB.out) HX8.out.size)
          clear hn9 hC9 hx9
          go_wp2
          go_roundw
          case rel => exact ⟨j + 1, by omega, by go_num, HC9, HA9, HS9, HI9, HX9⟩
          case measure => simp [intOf]; omega
        · obtain rfl : n' = j := by omega
          have HC9 : Hid (∃ q f1 f2, q ≤ 50000000000 * (300 * (k + 1)) ∧ Counts wr b (b + 1) q (gM p (mulE p D ts (xs.take (k + 1)) ys)) f1 f2 ∧ NewW w0.heap.size f1) := by
            obtain ⟨q, f1, f2, hq, hC, hW⟩ := HCn.out
            exact ⟨q, f1, f2, by omega, by rw [HSn.out]; exact hC, hW⟩
          clear HCn
          go_wp2
          go_roundw
          case rel => exact ⟨k + 1, by omega, by go_num, HC9, HA, HX⟩
          case measure => simp [intOf]; omega
    · obtain rfl : n = k := by omega
      have HTk : Hid (xs.take n = xs) := List.take_of_length_le (by omega)
      rw [HTk.out] at HCn
      obtain ⟨q, f1, f2, hq, hC, hW⟩ := HCn.out
      have HNw := hidP hW
      clear hW
      obtain ⟨z0, z1, z2, z3, z4⟩ := HA.out
      obtain ⟨⟨c0, c1, c2, c3, c4⟩, y0, y1, y2, y3, y4⟩ := HZ.out wr HX.out
      have HCq := hidP hC
      have HBq := hidP hq
      have hbne : b ≠ w.heap.size + 1 ∧ b + 1 ≠ w.heap.size + 1 ∧ bk ≠ w.heap.size + 1 := by
        have h1 := HB.out
        have h2 := HZs.out
        refine ⟨by omega, by omega, fun e => ?_⟩
        rw [e, c0] at z0
        simp at z0
        omega
      obtain ⟨hb1, hb2, hb3⟩ := hbne
      clear hC hq HCn
      have hblk : ∃ E, wr.heap[w.heap.size + 1]? = some (.cells #[.int .i64 0, .int .i64 0, .slice none 0 0, .map none, .map none] E (0, 0)) := by
        refine ⟨56, ?_⟩
        rw [HX.out.block _ HZs.out]
        exact HBl.out
      obtain ⟨E, hblk⟩ := hblk
      have hgr : wr.grownBy (((((wr.setCell ⟨w.heap.size + 1, 0, none⟩ (.int .i64 p)).setCell ⟨w.heap.size + 1, 1, none⟩ (.int .i64 (D : Int))).setCell ⟨w.heap.size + 1, 2, none⟩ (.slice ta tn tc)).setCell ⟨w.heap.size + 1, 3, none⟩ (.map (some b))).setCell ⟨w.heap.size + 1, 4, none⟩ (.map (some (b + 1)))) (some (w.heap.size + 1)) := grown_trans (grown_trans (grown_trans (grown_trans (grown_set _ _ _ _) (grown_set _ _ _ _)) (grown_set _ _ _ _)) (grown_set _ _ _ _)) (grown_set _ _ _ _)
      have HC9 := hidP (HCq.out.keptG hgr (HNw.out.mono (by have := HZs.out; omega)) hb1 hb2)
      have hb : w.heap.size ≤ w.heap.size + 1 := Nat.le_succ _
      have HX9 := hidP (((((Ext.setNew (HX0.out.trans HX.out) (w.heap.size + 1) 0 hb (.int .i64 p)).setNew (w.heap.size + 1) 1 hb (.int .i64 (D : Int))).setNew (w.heap.size + 1) 2 hb (.slice ta tn tc)).setNew (w.heap.size + 1) 3 hb (.map (some b))).setNew (w.heap.size + 1) 4 hb (.map (some (b + 1))))
      have HBb : Hid (w.heap.size ≤ b) := by have := HB.out; have := HZs.out; show _ ≤ _; omega
      clear hgr
      go_wp2
      refine bodyPost_ret (v := envV p D ta tn tc b (b + 1)) (by simp [results, Tryz.results57, go_sem, World.setCell, World.cell?, Array.getElem?_modify, hblk]) rfl ⟨b, q, f1, f2, rfl, HBq.out, HC9.out, HBb.out, HX9.out⟩
set_option maxRecDepth 100000 in
set_option maxHeartbeats 4000000 in
theorem mulEnv_any (p d : Int) (ta : Option Addr) (tn tc : Nat) (ts : List Int) (a : Option Addr) (n c : Nat) (xs : List Tm) (a' : Option Addr) (n' c' : Nat) (ys : List Tm) (w : World) (hc : IntsAt w ta tn ts) (h : StepsAt w a n xs) (h' : StepsAt w a' n' ys)
    (htc : tn ≤ tc) (htc2 : tc ≤ 1000000000000) (hn : n ≤ 1000000000000) (hn' : n' ≤ 1000000000000) (_hm : MaxL w) (ht : Tab w) :
    EnvRes 26 #[algV p d ta tn tc, .slice a n c, .slice a' n' c'] w (mulRE p d ts xs ys) := by
  unfold EnvRes
  have hx1 := Ext.alloc w (.cells #[.int .i64 p, .int .i64 d, .slice ta tn tc] 28)
  have HC := hidP (fun w' (hx : Ext (w.alloc (.cells #[.int .i64 p, .int .i64 d, .slice ta tn tc] 28)) w') => (AlgAt.new w _ rfl p d ta tn tc 28).below hx)
  have HX1 := hidP hx1
  have H := hidP (h.below hx1)
  have H' := hidP (h'.below hx1)
  have HTs := hidP (hc.below hx1)
  have HAk := hidP (envOk_any p d ta tn tc ts a n c xs _ (hc.below hx1) htc htc2 (h.below hx1).terms hn)
  have HTb := hidP (ht.below hx1)
  have hs1 : w.heap.size ≤ (w.alloc (.cells #[.int .i64 p, .int .i64 d, .slice ta tn tc] 28)).heap.size := hx1.size
  clear hc h h' hx1 ht
  obtain ⟨w1, hw1⟩ : ∃ w1, w1 = w.alloc (.cells #[.int .i64 p, .int .i64 d, .slice ta tn tc] 28) := ⟨_, rfl⟩
  rw [← hw1] at HC HX1 H H' HTs HAk hs1 HTb
  have HS1 := hidP hs1
  clear hs1
  obtain ⟨f0, f1, f2⟩ := HC.out w1 (Ext.refl w1)
  cases hT : (algB p d ts && envB p d xs)
  · have HR : Hid (mulRE p d ts xs ys = (false, [])) := by
      show _ = _
      unfold mulRE
      rw [hT]
      rfl
    rw [hT] at HAk
    clear hT
    go_enter Tryz.func26, Tryz.ntmps26
    go_wp2_with fail
    rw [← hw1]
    clear hw1
    refine HAk.out.mono ?_
    rintro e w2 ⟨rfl, hx⟩
    have HX := hidP hx
    clear hx
    go_wp2
    refine bodyPost_ret (v := .tuple #[.slice none 0 0, .bool false]) (by simp [results, Tryz.results26, go_sem]) rfl ?_
    refine ⟨none, 0, 0, [], by rw [HR.out], ?_, HX1.out.trans HX.out⟩
    rw [HR.out]
    exact OwnK.nil stepK _ _ _
  · have hT2 : algB p d ts = true := by
      simp only [Bool.and_eq_true] at hT
      exact hT.1
    have hP1 : envB p d xs = true := by
      simp only [Bool.and_eq_true] at hT
      exact hT.2
    obtain ⟨hh, -⟩ := algB_true.1 hT2
    obtain ⟨hpp, hd0, hd1, htl, hrs⟩ := headB_true hh
    obtain ⟨p2, p7⟩ := prime_bounds hpp
    obtain ⟨D, hD⟩ : ∃ D : Nat, d = D := ⟨d.toNat, by omega⟩
    subst hD
    have HTl := hidP htl
    have HRs := hidP hrs
    clear htl hrs hh hpp
    rw [hT] at HAk
    have HL := hidP (fun w' (hx : Ext w1 w') => envOk_any p (D : Int) ta tn tc ts a' n' c' ys w' (HTs.out.below hx) htc htc2 (H'.out.below hx).terms (by omega))
    cases hQ : envB p D ys
    · have HR : Hid (mulRE p (D : Int) ts xs ys = (false, [])) := by
        show _ = _
        unfold mulRE
        rw [hT, hQ]
        rfl
      rw [hT2, hQ, Bool.true_and] at HL
      clear hT hT2 hP1 hQ
      go_enter Tryz.func26, Tryz.ntmps26
      go_wp2_with fail
      rw [← hw1]
      clear hw1
      refine HAk.out.mono ?_
      rintro e w2 ⟨rfl, hx⟩
      obtain ⟨g0, g1, g2⟩ := HC.out w2 hx
      have HX := hidP hx
      clear hx f0 f1 f2
      go_wp2_with fail
      refine (HL.out _ HX.out).mono ?_
      rintro e w3 ⟨rfl, hx⟩
      have HX3 := hidP (HX.out.trans hx)
      clear hx g0 g1 g2
      go_wp2
      refine bodyPost_ret (v := .tuple #[.slice none 0 0, .bool false]) (by simp [results, Tryz.results26, go_sem]) rfl ?_
      refine ⟨none, 0, 0, [], by rw [HR.out], ?_, HX1.out.trans HX3.out⟩
      rw [HR.out]
      exact OwnK.nil stepK _ _ _
    · have HU := hidP (envB_iff.1 hP1)
      have HV := hidP (envB_iff.1 hQ)
      rw [hT2, hQ, Bool.true_and] at HL
      have hnl := H.out.len
      have hnl' := H'.out.len
      have hu3 := HU.out.len
      have hv3 := HV.out.len
      have HNe : Hid (tn = D * D * D) := (algB_parts hT2 HTs.out.len).2.2.2.1
      have hdx : degE xs ≤ 6 := degE_bound _ _ (Nat.zero_le _) fun q hq => (wordB_parts.1 (HU.out.word q hq)).1
      have hdy : degE ys ≤ 6 := degE_bound _ _ (Nat.zero_le _) fun q hq => (wordB_parts.1 (HV.out.word q hq)).1
      have hsum : IntKind.i64.wrap ((degE xs : Int) + (degE ys : Int)) = (degE xs : Int) + (degE ys : Int) := wrap_in (by omega) (by omega)
      have HD1 := hidP (fun w' (hx : Ext w1 w') => degreeOf_any a n c xs w' (H.out.below hx) (by omega) (fun k hk => by
        have h1 := HU.out.at (k := k) (by omega)
        have h2 := (wordB_parts.1 h1.1).1
        omega))
      have HD2 := hidP (fun w' (hx : Ext w1 w') => degreeOf_any a' n' c' ys w' (H'.out.below hx) (by omega) (fun k hk => by
        have h1 := HV.out.at (k := k) (by omega)
        have h2 := (wordB_parts.1 h1.1).1
        omega))
      by_cases hdg : degE xs + degE ys ≤ 6
      · have HR2 : Hid (mulRE p (D : Int) ts xs ys = giveR (putsM p [] (mulE p D ts xs ys))) := by
          show _ = _
          unfold mulRE
          rw [hT, hQ, Int.toNat_natCast]
          simp only [if_true]
          exact if_pos hdg
        clear hT hT2 hP1 hQ
        go_enter Tryz.func26, Tryz.ntmps26
        go_wp2_with fail
        rw [← hw1]
        clear hw1
        refine HAk.out.mono ?_
        rintro e w2 ⟨rfl, hx⟩
        obtain ⟨g0, g1, g2⟩ := HC.out w2 hx
        have HX := hidP hx
        clear hx f0 f1 f2
        go_wp2_with fail
        refine (HL.out _ HX.out).mono ?_
        rintro e w3 ⟨rfl, hx⟩
        have HY3 := hidP (HX.out.trans hx)
        have HX3 := hidP (HX1.out.trans (HX.out.trans hx))
        clear hx g0 g1 g2
        go_wp2_with fail
        refine (HD1.out _ HY3.out).mono ?_
        rintro e w3a ⟨rfl, hx⟩
        have HY3a := hidP (HY3.out.trans hx)
        have HX3a := hidP (HX3.out.trans hx)
        clear hx
        go_wp2_with fail
        refine (HD2.out _ HY3a.out).mono ?_
        rintro e w3b ⟨rfl, hx⟩
        have HY3b := hidP (HY3a.out.trans hx)
        have HX3b := hidP (HX3a.out.trans hx)
        clear hx
        have hd6 : ¬ (6 < (degE xs : Int) + (degE ys : Int)) := by omega
        obtain ⟨g0, g1, g2⟩ := HC.out w3b HY3b.out
        have HMu := hidP (mulEnvIn_any p D ta tn tc ts (by omega) HNe.out htc htc2 p2 p7 HRs.out a n c xs a' n' c' ys w3b (HTs.out.below HY3b.out) (H.out.below HY3b.out) (H'.out.below HY3b.out) HU.out HV.out hdg (HTb.out.below HY3b.out))
        go_wp2_with fail
        refine HMu.out.mono ?_
        rintro e w4 ⟨b, q, f1, f2, rfl, hq, hC4, hb4, hx4⟩
        have hcn := norm_count (p := p) (d := D) (by omega) (l := putsM p [] (mulE p D ts xs ys)) ((NormM.nil p).puts (by omega) _) (fun q hq => by
          rcases mem_putsM _ hq with ⟨s, hs, _⟩ | ⟨s, hs, e⟩
          · simp at hs
          · rw [← e]; exact mulE_word (t := ts) (by omega) HU.out HV.out hdg s hs)
        have HCh := hidP (envChecked_any p D ta tn tc b (b + 1) q (mulE p D ts xs ys) f1 f2 w4 hC4 (by omega) (by omega))
        rw [← HR2.out] at HCh
        unfold EnvRes at HCh
        have HX4 := hidP (HX3b.out.trans hx4)
        clear hq hC4 hb4 hx4 hcn g0 g1 g2 HMu
        go_wp2_with fail
        refine HCh.out.mono ?_
        rintro e w8 ⟨a8, n8, c8, hs8, rfl, ho8, hx8⟩
        have HO8 := hidP (ho8.weaken (B' := w.heap.size) HX4.out.size (Nat.le_refl _))
        have HX9 := hidP (HX4.out.trans hx8)
        clear ho8 hx8
        go_wp2
        refine bodyPost_ret (v := .tuple #[.slice a8 n8 c8, .bool (mulRE p (D : Int) ts xs ys).1]) (by simp [results, Tryz.results26, go_sem]) rfl ⟨a8, n8, c8, hs8, rfl, HO8.out, HX9.out⟩
      · have HR : Hid (mulRE p (D : Int) ts xs ys = (false, [])) := by
          show _ = _
          unfold mulRE
          rw [hT, hQ]
          simp only [if_true]
          exact if_neg hdg
        have hd6 : 6 < (degE xs : Int) + (degE ys : Int) := by omega
        clear hT hT2 hP1 hQ
        go_enter Tryz.func26, Tryz.ntmps26
        go_wp2_with fail
        rw [← hw1]
        clear hw1
        refine HAk.out.mono ?_
        rintro e w2 ⟨rfl, hx⟩
        obtain ⟨g0, g1, g2⟩ := HC.out w2 hx
        have HX := hidP hx
        clear hx f0 f1 f2
        go_wp2_with fail
        refine (HL.out _ HX.out).mono ?_
        rintro e w3 ⟨rfl, hx⟩
        have HY3 := hidP (HX.out.trans hx)
        have HX3 := hidP (HX1.out.trans (HX.out.trans hx))
        clear hx g0 g1 g2
        go_wp2_with fail
        refine (HD1.out _ HY3.out).mono ?_
        rintro e w3a ⟨rfl, hx⟩
        have HY3a := hidP (HY3.out.trans hx)
        have HX3a := hidP (HX3.out.trans hx)
        clear hx
        go_wp2_with fail
        refine (HD2.out _ HY3a.out).mono ?_
        rintro e w3b ⟨rfl, hx⟩
        have HY3b := hidP (HY3a.out.trans hx)
        have HX3b := hidP (HX3a.out.trans hx)
        clear hx
        go_wp2
        refine bodyPost_ret (v := .tuple #[.slice none 0 0, .bool false]) (by simp [results, Tryz.results26, go_sem]) rfl ?_
        refine ⟨none, 0, 0, [], by rw [HR.out], ?_, HX3b.out⟩
        rw [HR.out]
        exact OwnK.nil stepK _ _ _
end Go.Proofs.YtcfgcacmmmhjcaaGreatDoor

namespace Go.Proofs.YtcfgcacmmmhjcaaGreatDoor
open Go.RowKit

theorem wp_append_any {o : Oper} {a : Act} {K : Act → World → Prop} {Q : Exit → Act → World → Prop} {w : World} (s x : Operand)
    (ho : o.op = .call { callee := .builtin .append, args := #[s, x], argTypes := #[22, 22] })
    (B : Nat) (av : Option Addr) (nv cv : Nat) (xs : List Int) (hs : a.eval s = .slice av nv cv) (hown : OwnI w B av nv cv xs)
    (ax : Option Addr) (m c : Nat) (ys : List Int) (hx : a.eval x = .slice ax m c) (hys : IntsAt w ax m ys) (hnil : ax = none → c = 0) (hsm : nv + m ≤ 1000000000000) (hB : B ≤ w.heap.size)
    (h : ∀ a' c' w', OwnI w' B a' (nv + m) c' (xs ++ ys) → w.grownBy w' (Value.slice av nv cv).ownBlock → K (a.put o.dst (.slice a' (nv + m) c')) w') : o.wp Tryz.prog a w K Q := by
  cases ax with
  | none =>
    obtain ⟨i, hi, hz0, hz1, hz2⟩ := info_parts Tryz.info3
    have hc := hnil rfl
    subst hc
    have hm : m = 0 := by
      rcases Nat.eq_zero_or_pos m with h0 | h0
      · exact h0
      · obtain ⟨_, _, e, _⟩ := hys.get 0 h0
        cases e
    subst hm
    have hy : ys = [] := List.eq_nil_of_length_eq_zero hys.len
    subst hy
    have hrun := run_append_owned_none (P := Tryz.prog) (w := w) B 22 o.type 3 i 1 Tryz.underlying22 hi _ nv (ivs xs) hown.row
    have := h av cv w (by simpa using hown) ⟨rfl, rfl, rfl, Nat.le_refl _, fun _ _ _ => rfl⟩
    unfold Oper.wp
    simp [execOp, ho, resolve, invoke, builtin, hs, hx, hrun, Result.andThen]
    rw [Nat.add_zero] at this
    exact this
  | some ad => exact wp_append_ints s x ho B av nv cv xs hs hown ad m c ys hx hys hsm hB h
set_option maxHeartbeats 2000000 in
theorem l11Degree_any (a : Option Addr) (n c : Nat) (us : List Tm) (w : World) (h : StepsAt w a n us) (hn : n ≤ 1000000) (hw : ∀ k, k < n → (wayAt us k).length ≤ 1000000) :
    Calls Tryz.prog 54 #[.slice a n c] w fun e w' => e = .returned (.int .i64 (degE us)) ∧ Ext w w' := by
  have H := hidP h
  have hnl := h.len
  have HB : Hid (∀ k, degE (us.take k) ≤ 1000000) := fun k => by
    refine degE_bound _ _ (Nat.zero_le _) fun q hq => ?_
    obtain ⟨i, hi, rfl⟩ := List.mem_iff_getElem.1 (List.mem_of_mem_take hq)
    have := hw i (by omega)
    unfold wayAt at this
    rwa [getTm hi] at this
  clear h hw
  go_enter Tryz.func54, Tryz.ntmps54
  go_wp2
  go_loopw [3, 4] (fun s i wr => ∃ k : Nat, k ≤ n ∧ i = .int .i64 k ∧ s = .int .i64 (degE (us.take k)) ∧ Hid (Ext w wr)) (fun _ i _ => n - (intOf i).toNat)
  case atStart => exact ⟨0, Nat.zero_le _, rfl, rfl, Ext.refl _⟩
  case round =>
    obtain ⟨k, hk, rfl, rfl, HX⟩ := hrel
    have hdb := HB.out k
    by_cases hlt : k < n
    · obtain ⟨b0, o, aw, cw, W, Ln, rfl, HWy, HL, hwl, HNl, hq⟩ := (H.out.below HX.out).way k hlt
      obtain ⟨q1, q2, _⟩ := hq wr (Ext.refl wr)
      have HD : Hid (degE (us.take (k + 1)) = max (degE (us.take k)) W.length) := by
        show _ = _
        rw [List.take_succ_eq_append_getElem (by omega), degE_snoc, ← HWy.out]
        unfold wayAt
        rw [getTm (by omega)]
      clear hq
      generalize degE (us.take k) = D at *
      by_cases hgt : D < W.length
      · have hgt2 : (D : Int) < (W.length : Int) := by omega
        go_wp2
        go_roundw
        case rel => exact ⟨k + 1, by omega, by go_num, congrArg (Value.int .i64) (by rw [HD.out]; omega), HX⟩
        case measure => simp [intOf]; omega
      · have hgt2 : ¬ ((D : Int) < (W.length : Int)) := by omega
        go_wp2
        go_roundw
        case rel => exact ⟨k + 1, by omega, by go_num, congrArg (Value.int .i64) (by rw [HD.out]; omega), HX⟩
        case measure => simp [intOf]; omega
    · obtain rfl : k = n := by omega
      have HT : Hid (us.take k = us) := List.take_of_length_le (by omega)
      rw [HT.out]
      go_wp2
      go_ret
      exact ⟨rfl, HX.out⟩
theorem mul_word {p : Int} {D : Nat} {ts : List Int} {xs ys : List Tm} (hp : 0 < p) (hU : EnvP p D xs) (hV : EnvP p D ys) (hdeg : degE xs + degE ys ≤ 6) {k j : Nat} {s : Tm} (hs : s ∈ xs) : ∀ q ∈ mulE p D ts (xs.take k) ys ++ mulRow p D ts s (ys.take j), wordB D q.1 = true := fun q hq => by
  refine mulE_word (t := ts) hp hU hV hdeg q ?_
  unfold mulE
  rw [List.mem_flatMap]
  rcases List.mem_append.1 hq with h | h
  · unfold mulE at h
    rw [List.mem_flatMap] at h
    obtain ⟨r, hr, h⟩ := h
    exact ⟨r, List.mem_of_mem_take hr, h⟩
  · refine ⟨s, hs, ?_⟩
    unfold mulRow at h ⊢
    rw [List.mem_flatMap] at h ⊢
    obtain ⟨r, hr, h⟩ := h
    exact ⟨r, List.mem_of_mem_take hr, h⟩
theorem wordOf2 {p : Int} {d : Nat} {us : List Tm} (h : EnvP p d us) {k : Nat} (hk : k < us.length) : WordA d (wayAt us k) ∧ (wayAt us k).length ≤ degE us := by
  have hm : us.getD k ([], 0) ∈ us := by rw [getTm hk]; exact List.getElem_mem hk
  exact ⟨(wordB_parts.1 (h.at hk).1).2.1, degE_mem hm⟩

set_option maxRecDepth 100000 in
set_option maxHeartbeats 8000000 in
theorem l11Mul_any (p : Int) (D : Nat) (ta : Option Addr) (tn tc : Nat) (ts : List Int) (hD28 : D ≤ 28) (hNe : tn = D * D * D) (htc : tn ≤ tc) (htc2 : tc ≤ 1000000000000) (p2 : 2 ≤ p) (p7 : p ≤ 10007) (hRs : Res p ts)
    (a : Option Addr) (n c : Nat) (xs : List Tm) (a' : Option Addr) (n' c' : Nat) (ys : List Tm) (w : World) (hc : IntsAt w ta tn ts) (h : StepsAt w a n xs) (h' : StepsAt w a' n' ys) (hU : EnvP p D xs) (hV : EnvP p D ys) (hdeg : degE xs + degE ys ≤ 6) :
    Calls Tryz.prog 55 #[algV p D ta tn tc, .slice a n c, .slice a' n' c'] w fun e w' => ∃ g q c' hs, e = .returned (.slice (some ⟨g, 0, none⟩) q c') ∧ OwnK stepK w' w.heap.size w'.heap.size (some ⟨g, 0, none⟩) q c' hs (putsM p [] (mulE p D ts xs ys)) ∧ Ext w w' := by
  have hxa := Ext.alloc w (.cells #[.int .i64 p, .int .i64 (D : Int), .slice ta tn tc] 28)
  have HAl := hidP (AlgAt.new w _ rfl p (D : Int) ta tn tc 28)
  have H := hidP (h.below hxa)
  have H' := hidP (h'.below hxa)
  have HTs := hidP (hc.below hxa)
  have HX0 := hidP hxa
  have HU := hidP hU
  have HV := hidP hV
  have HNe := hidP hNe
  have HRs := hidP hRs
  have hnl := h.len
  have hnl' := h'.len
  have hu3 := hU.len
  have hv3 := hV.len
  clear hc h h' hU hV hNe hRs hxa
  obtain ⟨w0, hw0⟩ : ∃ w0, w0 = w.alloc (.cells #[.int .i64 p, .int .i64 (D : Int), .slice ta tn tc] 28) := ⟨_, rfl⟩
  rw [← hw0] at HAl H H' HTs HX0
  have HM0 : Hid (OwnK stepK (w0.alloc (.cells #[] 62)) w0.heap.size (w0.alloc (.cells #[] 62)).heap.size (some ⟨w0.heap.size, 0, none⟩) 0 0 [] (putsM p [] (mulE p D ts (xs.take 0) ys))) := OwnK.made0 stepK w0
  have HX1 := hidP (Ext.alloc w0 (.cells #[] 62))
  go_enter Tryz.func55, Tryz.ntmps55
  go_wp2
  first | rw [← hw0] | skip
  have hsw : w0.heap.size = w.heap.size + 1 := by rw [hw0]; simp
  have HSw := hidP hsw
  clear hw0 hsw
  try rw [← HSw.out]
  go_loopw [7, 8] (fun out i wr => ∃ (k g co q : Nat) (hs : List Hdr), k ≤ n ∧ out = .slice (some ⟨g, 0, none⟩) q co ∧ i = .int .i64 k ∧ Hid (OwnK stepK wr w0.heap.size wr.heap.size (some ⟨g, 0, none⟩) q co hs (putsM p [] (mulE p D ts (xs.take k) ys))) ∧ Hid (Ext w0 wr)) (fun _ i _ => n - (intOf i).toNat)
  case atStart => exact ⟨0, _, _, _, [], Nat.zero_le _, rfl, rfl, HM0, HX1⟩
  case round =>
    clear HM0 HX1
    obtain ⟨k, g, co, q, hs, hk, rfl, rfl, HO, HX⟩ := hrel
    by_cases hlt : k < n
    · obtain ⟨bu, o, aw, cw, W, L, rfl, HWy, HLy, hwl, HNl, hq⟩ := (H.out.below HX.out).way k hlt
      have HQ := hidP (fun w' (hx : Ext w0 w') => (by
        have h := (H.out.below hx).way k hlt
        exact h))
      have hat := HU.out.at (k := k) (by omega)
      have hwo := wordOf2 HU.out (k := k) (by omega)
      have hmem : (W, L) ∈ xs := by
        have hm : xs.getD k ([], 0) ∈ xs := by rw [getTm (by omega)]; exact List.getElem_mem (by omega)
        have e : xs.getD k ([], 0) = (W, L) := Prod.ext HWy.out HLy.out
        rwa [e] at hm
      have HMem := hidP hmem
      rw [HWy.out] at hwo
      rw [HLy.out] at hat
      have hL := hat.2
      have HWd := hidP hwo.1
      have hWl := hwo.2
      have HSn : Hid (putsM p [] (mulE p D ts (xs.take (k + 1)) ys) = putsM p [] (mulE p D ts (xs.take k) ys ++ mulRow p D ts (W, L) (ys.take n'))) := by
        show _ = _
        rw [mulE_take p D ts xs ys (by omega), HWy.out, HLy.out, List.take_of_length_le (show ys.length ≤ n' by omega)]
      have HO0 : Hid (OwnK stepK wr w0.heap.size wr.heap.size (some ⟨g, 0, none⟩) q co hs (putsM p [] (mulE p D ts (xs.take k) ys ++ mulRow p D ts (W, L) (ys.take 0)))) := by
        show OwnK _ _ _ _ _ _ _ _ _
        rw [List.take_zero, show mulRow p D ts (W, L) [] = [] from rfl, List.append_nil]
        exact HO.out
      clear hat hwo hmem HO hq HQ
      go_wp2
      go_loopw [7, 9] (fun out i wr => ∃ (j g co q : Nat) (hs : List Hdr), j ≤ n' ∧ out = .slice (some ⟨g, 0, none⟩) q co ∧ i = .int .i64 j ∧ Hid (OwnK stepK wr w0.heap.size wr.heap.size (some ⟨g, 0, none⟩) q co hs (putsM p [] (mulE p D ts (xs.take k) ys ++ mulRow p D ts (W, L) (ys.take j)))) ∧ Hid (Ext w0 wr)) (fun _ i _ => n' - (intOf i).toNat)
      case atStart => exact ⟨0, g, co, q, hs, Nat.zero_le _, rfl, rfl, HO0, HX⟩
      case round =>
        clear HO0 HX
        obtain ⟨j, g, co, q, hs, hj, rfl, rfl, HO, HX⟩ := hrel
        by_cases hlt' : j < n'
        · obtain ⟨bu', o1, aw1, cw1, W1, L1, e1, HWy1, HLy1, _, HNl1, hq1⟩ := (H.out.below HX.out).way k hlt
          simp only [Option.some.injEq, Addr.mk.injEq, and_true] at e1
          obtain ⟨rfl, rfl⟩ := e1
          obtain rfl : W = W1 := HWy.out.symm.trans HWy1.out
          obtain rfl : L = L1 := HLy.out.symm.trans HLy1.out
          have HQ := hidP hq1
          obtain ⟨bv, o', av, cv, V, M, rfl, HVy, HMy, hvl, HNv, hq2⟩ := (H'.out.below HX.out).way j hlt'
          have HQ2 := hidP hq2
          have hat := HV.out.at (k := j) (by omega)
          have hwo := wordOf2 HV.out (k := j) (by omega)
          rw [HVy.out] at hwo
          rw [HMy.out] at hat
          have hM := hat.2
          have HVd := hidP hwo.1
          have hVl := hwo.2
          have h6 : W.length + V.length ≤ 6 := by omega
          have hm0 : 0 ≤ L * M := Int.mul_nonneg (by omega) (by omega)
          have hm1 : L * M ≤ 10007 * 10007 := Int.mul_le_mul (by omega) (by omega) (by omega) (by omega)
          have hmw : IntKind.i64.wrap (L * M) = L * M := wrap_in (by omega) (by omega)
          have hpz : ¬ (p = 0) := by omega
          have htm : (L * M).tmod p = L * M % p := Int.tmod_eq_emod_of_nonneg hm0
          have hv0 := Int.emod_nonneg (L * M) hpz
          have hv1 := Int.emod_lt_of_pos (L * M) (show 0 < p by omega)
          have HSn2 : Hid (mulRow p D ts (W, L) (ys.take (j + 1)) = mulRow p D ts (W, L) (ys.take j) ++ strE p D ts (W ++ V) (L * M % p)) := by
            show _ = _
            rw [mulRow_take p D ts (W, L) ys (by omega), HVy.out, HMy.out]
          obtain ⟨v, hv⟩ : ∃ v, v = L * M % p := ⟨_, rfl⟩
          rw [← hv] at htm hv0 hv1 HSn2
          have HLi := hidP (fun w' (hx : Ext wr w') => l1Ints_any aw1 W.length cw1 W w' (HQ.out w' hx).2.2 HNl1.out (by omega))
          have hnm2 := (NormM.nil p).puts (show 0 < p by omega) (mulE p D ts (xs.take k) ys ++ mulRow p D ts (W, L) (ys.take j))
          have hwx2 := words_puts (p := p) (d := D) (xs := []) (A := mulE p D ts (xs.take k) ys ++ mulRow p D ts (W, L) (ys.take j)) (fun q hq => by simp at hq) (mul_word (by omega) HU.out HV.out hdeg HMem.out)
          have hgl := HO.out.base_lt g 0 rfl
          have HSt := hidP (fun w' (hx : Ext wr w') (a7 : Option Addr) (c7 : Nat) (ho7 : OwnI w' wr.heap.size a7 (W.length + V.length) c7 (W ++ V)) => l11Straight_any p D ta tn tc ts hD28 HNe.out htc htc2 p2 p7 HRs.out 112 w0.heap.size g q co hs _ a7 (W.length + V.length) c7 (W ++ V) v w' (fuel_ok (by rw [List.length_append]; exact h6)) ((HO.out.below hx).weaken (Nat.le_refl _) hx.size) hnm2 hwx2 ho7.ints ho7.nilc ho7.room2 (fun b o e => by have := (ho7.at_base b o e).1; omega) (HWd.out.app HVd.out) (by rw [List.length_append]; exact h6) hv0 hv1 (HX.out.trans hx).size (HTs.out.below (HX.out.trans hx)) (fun h0 b o e => by
            have h := HTs.out
            rw [e] at h
            have := h.block_lt h0
            omega))
          have HG := hidP (fun w' (hx : Ext wr w') => HAl.out.below (HX.out.trans hx))
          have hgw : Hid (w0.heap.size ≤ g) := hgl.1
          have hE : Ext wr wr.drew := Ext.drew wr
          clear hq1 hq2 hat hwo hm0 hm1 hv hnm2 hwx2 hgl
          go_wp2
          (refine walkR_start (fun w' => Ext wr w') 28 (by kernel_rfl) ?_; simp only [numbered, List.take_succ_cons, List.take_zero, Nat.zero_add, Nat.reduceAdd, List.length_cons, List.length_nil])
          (repeat (first | (refine walkR_still (v := ?_) rfl (by decide +kernel) rfl (fun _ _ _ h => h) hE ?_ ?_; rotate_left; (focus (intro w' hw'; obtain ⟨q1, q2, _⟩ := HQ.out w' hw'; obtain ⟨r1, r2, _⟩ := HQ2.out w' hw'; obtain ⟨g0, g1, g2⟩ := HG.out w' hw'; go_simp; all_goals (with_reducible rfl))); simp only [Act.put, List.setIfInBounds_toArray, List.set_cons_zero, List.set_cons_succ]) | (refine walkR_skip rfl (by decide +kernel) rfl (fun _ _ _ h => h) hE ?_; simp only [Act.put, List.setIfInBounds_toArray, List.set_cons_zero, List.set_cons_succ])))
          (refine walkR_later ?_; simp only [List.cons_append, List.nil_append])
          (repeat (first | (refine walkR_still (v := ?_) rfl (by decide +kernel) rfl (fun _ _ _ h => h) hE ?_ ?_; rotate_left; (focus (intro w' hw'; obtain ⟨q1, q2, _⟩ := HQ.out w' hw'; obtain ⟨r1, r2, _⟩ := HQ2.out w' hw'; obtain ⟨g0, g1, g2⟩ := HG.out w' hw'; go_simp; all_goals (with_reducible rfl))); simp only [Act.put, List.setIfInBounds_toArray, List.set_cons_zero, List.set_cons_succ]) | (refine walkR_skip rfl (by decide +kernel) rfl (fun _ _ _ h => h) hE ?_; simp only [Act.put, List.setIfInBounds_toArray, List.set_cons_zero, List.set_cons_succ])))
          (refine walkR_later ?_; simp only [List.cons_append, List.nil_append])
          (repeat (first | (refine walkR_still (v := ?_) rfl (by decide +kernel) rfl (fun _ _ _ h => h) hE ?_ ?_; rotate_left; (focus (intro w' hw'; obtain ⟨q1, q2, _⟩ := HQ.out w' hw'; obtain ⟨r1, r2, _⟩ := HQ2.out w' hw'; obtain ⟨g0, g1, g2⟩ := HG.out w' hw'; go_simp; all_goals (with_reducible rfl))); simp only [Act.put, List.setIfInBounds_toArray, List.set_cons_zero, List.set_cons_succ]) | (refine walkR_skip rfl (by decide +kernel) rfl (fun _ _ _ h => h) hE ?_; simp only [Act.put, List.setIfInBounds_toArray, List.set_cons_zero, List.set_cons_succ])))
          (refine walkR_only (fun w' => Ext wr w') rfl (by decide +kernel) rfl (fun _ h => h) ?_; intro K hK; go_simp; refine (HLi.out _ hE).mono ?_; rintro e w6 ⟨a6, c6, rfl, ho6, hx6'⟩; refine hK _ _ (hE.trans hx6') ?_; clear hK K; (try simp only [Act.put, List.setIfInBounds_toArray, List.set_cons_zero, List.set_cons_succ]))
          have hE6 := hE.trans hx6'
          have HO6 := hidP ho6
          clear ho6 hx6' hE
          (refine walkR_only (fun w' => Ext wr w') rfl (by decide +kernel) rfl ?_ ?_)
          · exact fun _ h => h
          intro K hK
          refine wp_append_any (.tmp 30) (.tmp 35) rfl wr.heap.size a6 W.length c6 W rfl HO6.out av V.length cv V rfl (HQ2.out _ hE6).2.2 HNv.out (by omega) hE6.size ?_
          intro a8 c8 w8 ho8 hg8
          have hE8 : Ext wr w8 := grown_ext hg8 hE6 hE6.size (fun q e => HO6.out.addr_base q e)
          have HS8 := hidP (HSt.out w8 hE8 a8 c8 ho8)
          have HX8 := hidP (HX.out.trans hE8)
          refine hK _ _ hE8 ?_
          clear hK K ho8 hg8 hE6 hE8 HSt HLi
          (try simp only [Act.put, List.setIfInBounds_toArray, List.set_cons_zero, List.set_cons_succ])
          (refine walkR_tail (by rfl) (by kernel_rfl) ?_; simp only [List.drop_succ_cons, List.drop_zero])
          go_wp2_with fail
          refine HS8.out.mono ?_
          rintro e w9 ⟨g2, n2, c2, hs2, rfl, ho9, hg9, _⟩
          rw [← putsM_append, List.append_assoc, ← HSn2.out] at ho9
          have HO9 := hidP ho9
          have HX9 : Hid (Ext w0 w9) := Below.past_block2 HX8.out hg9 HX8.out.size hgw.out
          clear ho9 hg9
          go_wp2
          go_roundw
          case rel => exact ⟨j + 1, g2, c2, n2, hs2, by omega, rfl, by go_num, HO9, HX9⟩
          case measure => simp [intOf]; omega
        · obtain rfl : n' = j := by omega
          rw [← HSn.out] at HO
          go_wp2
          go_roundw
          case rel => exact ⟨k + 1, g, co, q, hs, by omega, rfl, by go_num, HO, HX⟩
          case measure => simp [intOf]; omega
    · obtain rfl : n = k := by omega
      have HTk : Hid (xs.take n = xs) := List.take_of_length_le (by omega)
      rw [HTk.out] at HO
      have HO2 := hidP (HO.out.weaken (B' := w.heap.size) (by have := HSw.out; omega) (Nat.le_refl _))
      go_wp2
      go_ret
      exact ⟨g, q, co, hs, rfl, HO2.out, HX0.out.trans HX.out⟩
end Go.Proofs.YtcfgcacmmmhjcaaGreatDoor

namespace Go.Proofs.YtcfgcacmmmhjcaaGreatDoor
open Go.RowKit

set_option maxRecDepth 100000 in
set_option maxHeartbeats 4000000 in
theorem sMulEnv_any (p d : Int) (ta : Option Addr) (tn tc : Nat) (ts : List Int) (a : Option Addr) (n c : Nat) (xs : List Tm) (a' : Option Addr) (n' c' : Nat) (ys : List Tm) (w : World) (hc : IntsAt w ta tn ts) (h : StepsAt w a n xs) (h' : StepsAt w a' n' ys)
    (htc : tn ≤ tc) (htc2 : tc ≤ 1000000000000) (hn : n ≤ 1000000000000) (hn' : n' ≤ 1000000000000) :
    EnvRes 25 #[algV p d ta tn tc, .slice a n c, .slice a' n' c'] w (mulRE p d ts xs ys) := by
  unfold EnvRes
  have hx1 := Ext.alloc w (.cells #[.int .i64 p, .int .i64 d, .slice ta tn tc] 28)
  have HC := hidP (fun w' (hx : Ext (w.alloc (.cells #[.int .i64 p, .int .i64 d, .slice ta tn tc] 28)) w') => (AlgAt.new w _ rfl p d ta tn tc 28).below hx)
  have HX1 := hidP hx1
  have H := hidP (h.below hx1)
  have H' := hidP (h'.below hx1)
  have HTs := hidP (hc.below hx1)
  have HAk := hidP (sEnvOk_any p d ta tn tc ts a n c xs _ (hc.below hx1) htc htc2 (h.below hx1).terms hn)
  have hs1 : w.heap.size ≤ (w.alloc (.cells #[.int .i64 p, .int .i64 d, .slice ta tn tc] 28)).heap.size := hx1.size
  clear hc h h' hx1
  obtain ⟨w1, hw1⟩ : ∃ w1, w1 = w.alloc (.cells #[.int .i64 p, .int .i64 d, .slice ta tn tc] 28) := ⟨_, rfl⟩
  rw [← hw1] at HC HX1 H H' HTs HAk hs1
  have HS1 := hidP hs1
  clear hs1
  obtain ⟨f0, f1, f2⟩ := HC.out w1 (Ext.refl w1)
  cases hT : (algB p d ts && envB p d xs)
  · have HR : Hid (mulRE p d ts xs ys = (false, [])) := by
      show _ = _
      unfold mulRE
      rw [hT]
      rfl
    rw [hT] at HAk
    clear hT
    go_enter Tryz.func25, Tryz.ntmps25
    go_wp2_with fail
    rw [← hw1]
    clear hw1
    refine HAk.out.mono ?_
    rintro e w2 ⟨rfl, hx⟩
    have HX := hidP hx
    clear hx
    go_wp2
    refine bodyPost_ret (v := .tuple #[.slice none 0 0, .bool false]) (by simp [results, Tryz.results25, go_sem]) rfl ?_
    refine ⟨none, 0, 0, [], by rw [HR.out], ?_, HX1.out.trans HX.out⟩
    rw [HR.out]
    exact OwnK.nil stepK _ _ _
  · have hT2 : algB p d ts = true := by
      simp only [Bool.and_eq_true] at hT
      exact hT.1
    have hP1 : envB p d xs = true := by
      simp only [Bool.and_eq_true] at hT
      exact hT.2
    obtain ⟨hh, -⟩ := algB_true.1 hT2
    obtain ⟨hpp, hd0, hd1, htl, hrs⟩ := headB_true hh
    obtain ⟨p2, p7⟩ := prime_bounds hpp
    obtain ⟨D, hD⟩ : ∃ D : Nat, d = D := ⟨d.toNat, by omega⟩
    subst hD
    have HTl := hidP htl
    have HRs := hidP hrs
    clear htl hrs hh hpp
    rw [hT] at HAk
    have HL := hidP (fun w' (hx : Ext w1 w') => l11Ok_any p (D : Int) ta tn tc a' n' c' ys w' (H'.out.below hx).terms (by omega) (by omega) (by omega) (by omega) (by omega))
    cases hQ : envB p D ys
    · have HR : Hid (mulRE p (D : Int) ts xs ys = (false, [])) := by
        show _ = _
        unfold mulRE
        rw [hT, hQ]
        rfl
      rw [hQ] at HL
      clear hT hT2 hP1 hQ
      go_enter Tryz.func25, Tryz.ntmps25
      go_wp2_with fail
      rw [← hw1]
      clear hw1
      refine HAk.out.mono ?_
      rintro e w2 ⟨rfl, hx⟩
      obtain ⟨g0, g1, g2⟩ := HC.out w2 hx
      have HX := hidP hx
      clear hx f0 f1 f2
      go_wp2_with fail
      refine (HL.out _ HX.out).mono ?_
      rintro e w3 ⟨rfl, hx⟩
      have HX3 := hidP (HX.out.trans hx)
      clear hx g0 g1 g2
      go_wp2
      refine bodyPost_ret (v := .tuple #[.slice none 0 0, .bool false]) (by simp [results, Tryz.results25, go_sem]) rfl ?_
      refine ⟨none, 0, 0, [], by rw [HR.out], ?_, HX1.out.trans HX3.out⟩
      rw [HR.out]
      exact OwnK.nil stepK _ _ _
    · have HU := hidP (envB_iff.1 hP1)
      have HV := hidP (envB_iff.1 hQ)
      rw [hQ] at HL
      have hnl := H.out.len
      have hnl' := H'.out.len
      have hu3 := HU.out.len
      have hv3 := HV.out.len
      have HNe : Hid (tn = D * D * D) := (algB_parts hT2 HTs.out.len).2.2.2.1
      have hdx : degE xs ≤ 6 := degE_bound _ _ (Nat.zero_le _) fun q hq => (wordB_parts.1 (HU.out.word q hq)).1
      have hdy : degE ys ≤ 6 := degE_bound _ _ (Nat.zero_le _) fun q hq => (wordB_parts.1 (HV.out.word q hq)).1
      have hsum : IntKind.i64.wrap ((degE xs : Int) + (degE ys : Int)) = (degE xs : Int) + (degE ys : Int) := wrap_in (by omega) (by omega)
      have HD1 := hidP (fun w' (hx : Ext w1 w') => l11Degree_any a n c xs w' (H.out.below hx) (by omega) (fun k hk => by
        have h1 := HU.out.at (k := k) (by omega)
        have h2 := (wordB_parts.1 h1.1).1
        omega))
      have HD2 := hidP (fun w' (hx : Ext w1 w') => l11Degree_any a' n' c' ys w' (H'.out.below hx) (by omega) (fun k hk => by
        have h1 := HV.out.at (k := k) (by omega)
        have h2 := (wordB_parts.1 h1.1).1
        omega))
      by_cases hdg : degE xs + degE ys ≤ 6
      · have HR2 : Hid (mulRE p (D : Int) ts xs ys = giveR (putsM p [] (mulE p D ts xs ys))) := by
          show _ = _
          unfold mulRE
          rw [hT, hQ, Int.toNat_natCast]
          simp only [if_true]
          exact if_pos hdg
        clear hT hT2 hP1 hQ
        have HMl := hidP (fun w' (hx : Ext w1 w') => l11Mul_any p D ta tn tc ts (by omega) HNe.out htc htc2 p2 p7 HRs.out a n c xs a' n' c' ys w' (HTs.out.below hx) (H.out.below hx) (H'.out.below hx) HU.out HV.out hdg)
        go_enter Tryz.func25, Tryz.ntmps25
        go_wp2_with fail
        rw [← hw1]
        clear hw1
        refine HAk.out.mono ?_
        rintro e w2 ⟨rfl, hx⟩
        obtain ⟨g0, g1, g2⟩ := HC.out w2 hx
        have HX := hidP hx
        clear hx f0 f1 f2
        go_wp2_with fail
        refine (HL.out _ HX.out).mono ?_
        rintro e w3 ⟨rfl, hx⟩
        have HY3 := hidP (HX.out.trans hx)
        have HX3 := hidP (HX1.out.trans (HX.out.trans hx))
        clear hx g0 g1 g2
        go_wp2_with fail
        refine (HD1.out _ HY3.out).mono ?_
        rintro e w3a ⟨rfl, hx⟩
        have HY3a := hidP (HY3.out.trans hx)
        have HX3a := hidP (HX3.out.trans hx)
        clear hx
        go_wp2_with fail
        refine (HD2.out _ HY3a.out).mono ?_
        rintro e w3b ⟨rfl, hx⟩
        have HY3b := hidP (HY3a.out.trans hx)
        have HX3b := hidP (HX3a.out.trans hx)
        clear hx
        have hd6 : ¬ (6 < (degE xs : Int) + (degE ys : Int)) := by omega
        have hE : Ext w3b w3b.drew := Ext.drew w3b
        go_wp2
        (refine walkR_start (fun w' => Ext w3b w') 8 (by kernel_rfl) ?_; simp only [numbered, List.take_succ_cons, List.take_zero, Nat.zero_add, Nat.reduceAdd, List.length_cons, List.length_nil])
        (repeat (first | (refine walkR_still (v := ?_) rfl (by decide +kernel) rfl (fun _ _ _ h => h) hE ?_ ?_; rotate_left; (focus (intro w' hw'; obtain ⟨g0, g1, g2⟩ := HC.out w' (HY3b.out.trans hw'); go_simp; all_goals (with_reducible rfl))); simp only [Act.put, List.setIfInBounds_toArray, List.set_cons_zero, List.set_cons_succ]) | (refine walkR_skip rfl (by decide +kernel) rfl (fun _ _ _ h => h) hE ?_; simp only [Act.put, List.setIfInBounds_toArray, List.set_cons_zero, List.set_cons_succ])))
        (refine walkR_only (fun w' => Ext w3b w') rfl (by decide +kernel) rfl (fun _ h => h) ?_; intro K hK; go_simp; refine (HMl.out _ (HY3b.out.trans hE)).mono ?_; rintro e w4 ⟨g4, q4, c4, hs4, rfl, ho4, hx4⟩; refine hK _ _ (hE.trans hx4) ?_; clear hK K; (try simp only [Act.put, List.setIfInBounds_toArray, List.set_cons_zero, List.set_cons_succ]))
        have hE4 := hE.trans hx4
        obtain ⟨T, hTT⟩ : ∃ T, T = putsM p [] (mulE p D ts xs ys) := ⟨_, rfl⟩
        have hcn := norm_count (p := p) (d := D) (by omega) (l := T) (by rw [hTT]; exact (NormM.nil p).puts (by omega) _) (fun q hq => by
          rw [hTT] at hq
          rcases mem_putsM _ hq with ⟨s, hs, _⟩ | ⟨s, hs, e⟩
          · simp at hs
          · rw [← e]; exact (mulE_word (t := ts) (by omega) HU.out HV.out hdg) s hs)
        have heb : envB p D T = decide (T.length ≤ 300) := by rw [hTT]; exact envB_puts (by omega) (mulE_word (t := ts) (by omega) HU.out HV.out hdg)
        rw [← hTT] at ho4
        have hl4 := ho4.xl
        have HGv := hidP (l11Give_any p D ta tn tc (some ⟨g4, 0, none⟩) q4 c4 T w4 ho4.stepsAt.terms (by omega) (by omega) p7 (by omega) (by omega))
        rw [heb] at HGv
        have HO4 := hidP (ho4.weaken (B' := w.heap.size) (Nat.le_trans HX3b.out.size hE.size) (Nat.le_refl _))
        have HR3 : Hid (mulRE p (D : Int) ts xs ys = giveR T) := by show _ = _; rw [HR2.out, ← hTT]
        clear ho4 hx4 hE heb hcn
        by_cases hb : T.length ≤ 300
        · rw [decide_eq_true hb, if_pos rfl] at HGv
          have hJ : Hid (mulRE p (D : Int) ts xs ys = (true, T)) := by
            show _ = _
            rw [HR3.out]
            exact if_pos hb
          (refine walkR_only (fun w' => Ext w3b w') rfl (by decide +kernel) rfl (fun _ h => h) ?_; intro K hK; go_simp; refine (HGv.out).mono ?_; rintro e w5 ⟨rfl, hx5⟩; refine hK _ _ (hE4.trans hx5) ?_; clear hK K; (try simp only [Act.put, List.setIfInBounds_toArray, List.set_cons_zero, List.set_cons_succ]))
          have hE5 := hE4.trans hx5
          (repeat (first | (refine walkR_still (v := ?_) rfl (by decide +kernel) rfl (fun _ _ _ h => h) hE5 ?_ ?_; rotate_left; (focus (intro w' hw'; skip; go_simp; all_goals (with_reducible rfl))); simp only [Act.put, List.setIfInBounds_toArray, List.set_cons_zero, List.set_cons_succ]) | (refine walkR_skip rfl (by decide +kernel) rfl (fun _ _ _ h => h) hE5 ?_; simp only [Act.put, List.setIfInBounds_toArray, List.set_cons_zero, List.set_cons_succ])))
          (refine walkR_tail (by rfl) (by kernel_rfl) ?_; simp only [List.drop_succ_cons, List.drop_zero])
          have HX5 := hidP (HX3b.out.trans hE5)
          have HO5 := hidP ((HO4.out.below hx5).weaken (Nat.le_refl _) hx5.size)
          clear hx5 hE4 hE5 hTT
          go_wp2
          refine bodyPost_ret (v := .tuple #[.slice (some ⟨g4, 0, none⟩) q4 c4, .bool true]) (by simp [results, Tryz.results25, go_sem]) rfl ?_
          have hO : OwnK stepK w5 w.heap.size w5.heap.size (some ⟨g4, 0, none⟩) q4 c4 hs4 (mulRE p (D : Int) ts xs ys).2 := by
            rw [hJ.out]
            exact HO5.out
          first | exact ⟨some ⟨g4, 0, none⟩, q4, c4, hs4, by rw [hJ.out], hO, HX5.out⟩ | exact ⟨some ⟨g4, 0, none⟩, q4, c4, by rw [hJ.out], ⟨hs4, hO⟩, HX5.out⟩
        · rw [decide_eq_false hb, if_neg Bool.false_ne_true] at HGv
          have hJ : Hid (mulRE p (D : Int) ts xs ys = (false, [])) := by
            show _ = _
            rw [HR3.out]
            exact if_neg hb
          (refine walkR_only (fun w' => Ext w3b w') rfl (by decide +kernel) rfl (fun _ h => h) ?_; intro K hK; go_simp; refine (HGv.out).mono ?_; rintro e w5 ⟨rfl, hx5⟩; refine hK _ _ (hE4.trans hx5) ?_; clear hK K; (try simp only [Act.put, List.setIfInBounds_toArray, List.set_cons_zero, List.set_cons_succ]))
          have hE5 := hE4.trans hx5
          (repeat (first | (refine walkR_still (v := ?_) rfl (by decide +kernel) rfl (fun _ _ _ h => h) hE5 ?_ ?_; rotate_left; (focus (intro w' hw'; skip; go_simp; all_goals (with_reducible rfl))); simp only [Act.put, List.setIfInBounds_toArray, List.set_cons_zero, List.set_cons_succ]) | (refine walkR_skip rfl (by decide +kernel) rfl (fun _ _ _ h => h) hE5 ?_; simp only [Act.put, List.setIfInBounds_toArray, List.set_cons_zero, List.set_cons_succ])))
          (refine walkR_tail (by rfl) (by kernel_rfl) ?_; simp only [List.drop_succ_cons, List.drop_zero])
          have HX5 := hidP (HX3b.out.trans hE5)
          clear hx5 hE4 hE5 hTT
          go_wp2
          refine bodyPost_ret (v := .tuple #[.slice none 0 0, .bool false]) (by simp [results, Tryz.results25, go_sem]) rfl ?_
          have hO : OwnK stepK w5 w.heap.size w5.heap.size none 0 0 [] (mulRE p (D : Int) ts xs ys).2 := by
            rw [hJ.out]
            exact OwnK.nil stepK _ _ _
          first | exact ⟨none, 0, 0, [], by rw [hJ.out], hO, HX5.out⟩ | exact ⟨none, 0, 0, by rw [hJ.out], ⟨[], hO⟩, HX5.out⟩
      · have HR : Hid (mulRE p (D : Int) ts xs ys = (false, [])) := by
          show _ = _
          unfold mulRE
          rw [hT, hQ]
          simp only [if_true]
          exact if_neg hdg
        have hd6 : 6 < (degE xs : Int) + (degE ys : Int) := by omega
        clear hT hT2 hP1 hQ
        go_enter Tryz.func25, Tryz.ntmps25
        go_wp2_with fail
        rw [← hw1]
        clear hw1
        refine HAk.out.mono ?_
        rintro e w2 ⟨rfl, hx⟩
        obtain ⟨g0, g1, g2⟩ := HC.out w2 hx
        have HX := hidP hx
        clear hx f0 f1 f2
        go_wp2_with fail
        refine (HL.out _ HX.out).mono ?_
        rintro e w3 ⟨rfl, hx⟩
        have HY3 := hidP (HX.out.trans hx)
        have HX3 := hidP (HX1.out.trans (HX.out.trans hx))
        clear hx g0 g1 g2
        go_wp2_with fail
        refine (HD1.out _ HY3.out).mono ?_
        rintro e w3a ⟨rfl, hx⟩
        have HY3a := hidP (HY3.out.trans hx)
        have HX3a := hidP (HX3.out.trans hx)
        clear hx
        go_wp2_with fail
        refine (HD2.out _ HY3a.out).mono ?_
        rintro e w3b ⟨rfl, hx⟩
        have HY3b := hidP (HY3a.out.trans hx)
        have HX3b := hidP (HX3a.out.trans hx)
        clear hx
        go_wp2
        refine bodyPost_ret (v := .tuple #[.slice none 0 0, .bool false]) (by simp [results, Tryz.results25, go_sem]) rfl ?_
        refine ⟨none, 0, 0, [], by rw [HR.out], ?_, HX3b.out⟩
        rw [HR.out]
        exact OwnK.nil stepK _ _ _
end Go.Proofs.YtcfgcacmmmhjcaaGreatDoor
