/-
  FnBracketed: for every code, brackets in the drawn algebra are linear, alternating, and obey the law of Jacobi; adjoint matrices give the brackets, their commutator the bracket's.
  No condition.
  The program's plus (a matrix and k times another one), CommutatorOf.
  The program's product of square matrices: times; a part of a slice is changed.
  The laws' own small functions on matrices: equal, under.
  The laws' own small functions on lists of integers: zeros, ints, sum; the reference's Residue.
  The program's BracketOf, AdjointOf at a valid algebra and its elements.
  FnBracketed, plain: what the adjoint matrices do. No program in sight.
  The adjoint matrices of an algebra, the Killing form. No program in sight.
  DrawAlgebra: a valid algebra of a dimension of at most 6 with three elements.
-/
import Derived.Test.YtenlhfimdpcaoaaGreatMb11
import Derived.ProofKit
import Derived.OpenShut
import Derived.ChangeOld
namespace Go.Proofs.YtenlhfimdpcaoaaGreat
open Go.RowKit

/-- a drawn list -/
structure LstD (w : World) (B : Nat) (p : Int) (d : Nat) (a : Option Addr) (c : Nat) (xs : List Int) : Prop where
  own : OwnI w B a d c xs
  res : Res p xs
theorem LstD.grown {w w' : World} {B b : Nat} {p : Int} {d : Nat} {a : Option Addr} {c : Nat} {xs : List Int} (h : LstD w B p d a c xs) (hg : w.grownBy w' (some b)) (hne : ∀ g o, a = some ⟨g, o, none⟩ → g ≠ b) : LstD w' B p d a c xs :=
  ⟨h.own.grown hg (fun g o e => by simpa using hne g o e), h.res⟩
theorem LstD.base {w : World} {B B' : Nat} {p : Int} {d : Nat} {a : Option Addr} {c : Nat} {xs : List Int} (h : LstD w B p d a c xs) (hB : B' ≤ B) : LstD w B' p d a c xs := ⟨h.own.base hB, h.res⟩
/-- a drawn algebra, read -/
structure AlgD (w : World) (B : Nat) (p : Int) (d : Nat) (a : Option Addr) (N c : Nat) (t : List Int) : Prop where
  own : OwnI w B a N c t
  ok : algB p d t = true
  le : d ≤ 6
  mem : p ∈ drawP
theorem DrawSt.extOf {w w1 w2 : World} {g : Nat} {a : Option Addr} {n c : Nat} (h : DrawSt w1 w2 g a n c) (hx : Ext w w1) (hg : w.heap.size ≤ g) : Ext w w2 := Below.grown hx h.gb hx.size fun j hj => by cases hj; exact hg
set_option maxRecDepth 100000 in
set_option maxHeartbeats 8000000 in
theorem drawAlgebra_any (a : Option Addr) (n c : Nat) (bs : List Int) (w : World) (hb : BytesAt w a n bs) (hn : n ≤ 1048576) :
    Calls Tryz.prog 25 #[.slice a n c] w fun e w' => ∃ p d aT N cT t ax cx xs ay cy ys az cz zs, e = .returned (.tuple #[algV p (d : Nat) aT N cT, .slice ax d cx, .slice ay d cy, .slice az d cz]) ∧
      AlgD w' w.heap.size p d aT N cT t ∧ LstD w' w.heap.size p d ax cx xs ∧ LstD w' w.heap.size p d ay cy ys ∧ LstD w' w.heap.size p d az cz zs ∧ Ext w w' := by
  have hx := Ext.alloc w (.cells #[.int .i64 0, .int .i64 0, .slice none 0 0] 26)
  have hV0 := AlgB.new w 0 0 none 0 0
  obtain ⟨w0, hw0⟩ : ∃ w0, w0 = w.alloc (.cells #[.int .i64 0, .int .i64 0, .slice none 0 0] 26) := ⟨_, rfl⟩
  have hs0 : w0.heap.size = w.heap.size + 1 := by rw [hw0]; simp
  rw [← hw0] at hx hV0
  have HV0 := hidP hV0
  have HX0 := hidP hx
  have HS0 := hidP hs0
  have HB := hidP (hb.below hx)
  have HNw := hidP (l1New_any a n c bs w0 (hb.below hx) hn)
  have HW0 : Hid (w.alloc (.cells #[.int .i64 0, .int .i64 0, .slice none 0 0] 26) = w0) := hw0.symm
  clear hx hV0 hb hs0 hw0
  go_enter Tryz.func25, Tryz.ntmps25
  go_wp2_with fail
  rw [HW0.out]
  clear HW0
  refine HNw.out.mono ?_
  rintro e w1 ⟨g, rfl, hc1, hg1, hx1⟩
  have HB1 := hidP (HB.out.below hx1)
  have HC1 := hidP hc1
  have HG1 : Hid (w0.heap.size ≤ g) := hg1
  have HX1 := hidP hx1
  have HV1 := hidP (HV0.out.below hx1)
  have HPr := hidP (l12Prime_any g a n c bs w1 hc1 HB1.out hn)
  clear hc1 hg1 hx1 HNw HB HV0
  go_wp2_with fail
  refine HPr.out.mono ?_
  rintro e w2 ⟨p, hp, rfl, hd2⟩
  have HP : Hid (p ∈ drawP) := hp
  have HD2 := hidP hd2
  have HAl := hidP (l12Algebra_any g p a n c bs w2 hd2.cur (hd2.bytes HB1.out) hn hp)
  clear hd2 hp HPr
  go_wp2_with fail
  refine HAl.out.mono ?_
  rintro e w3 ⟨d, aT, N, cT, t, rfl, hd3⟩
  have hxa := Ext.alloc w3 (.cells #[.int .i64 p, .int .i64 (d : Int), .slice aT N cT] 26)
  have hA := AlgB.new w3 p d aT N cT
  obtain ⟨w4, hw4⟩ : ∃ w4, w4 = w3.alloc (.cells #[.int .i64 p, .int .i64 (d : Int), .slice aT N cT] 26) := ⟨_, rfl⟩
  rw [← hw4] at hxa hA
  have HW4 : Hid (w3.alloc (.cells #[.int .i64 p, .int .i64 (d : Int), .slice aT N cT] 26) = w4) := hw4.symm
  obtain ⟨b8, hb8⟩ : ∃ b8, b8 = w3.heap.size := ⟨_, rfl⟩
  rw [← hb8] at hA
  have HB8 : Hid (w3.heap.size = b8) := hb8.symm
  have HA := hidP hA
  have HD4 := hidP ((HD2.out.trans hd3.st).ext hxa)
  have hgv : some w.heap.size ≠ some g := by have h1 := HS0.out; have h2 := HG1.out; simp; omega
  have HV4 := hidP (((HV1.out.same (HD2.out.gb.block _ HV1.out.lt hgv)).same (hd3.st.gb.block _ (Nat.lt_of_lt_of_le HV1.out.lt HD2.out.gb.size) hgv)).below hxa)
  have HAl4 := hidP (⟨(hd3.own.base (B' := w.heap.size + 1) (by have h1 := HS0.out; have h2 := HX1.out.size; have h3 := HD2.out.gb.size; omega)).below hxa, hd3.ok, hd3.le, HP.out⟩ : AlgD w4 (w.heap.size + 1) p d aT N cT t)
  have HGv : Hid (w.heap.size < g ∧ w.heap.size < b8 ∧ b8 ≠ g) := by
    have h1 := HS0.out
    have h2 := HG1.out
    have h3 := HX1.out.size
    have h4 := HD2.out.gb.size
    have h5 := hd3.st.gb.size
    have h6 : g < w1.heap.size := HC1.out.lt
    exact ⟨by omega, by omega, by omega⟩
  have HLs := hidP (fun w' (hd : DrawSt w1 w' g a n c) => l12List_any g d p a n c bs w' hd.cur (hd.bytes HB1.out) hn (by have := (prime_bounds (drawP_prime p HP.out)).1; omega) (by have := (prime_bounds (drawP_prime p HP.out)).2; omega) (by have := hd3.le; omega))
  clear hxa hw4 hb8 hA hd3 HAl hgv HV1
  go_wp2_with fail
  rw [HW4.out, HB8.out]
  clear HW4
  have hB4 : AlgB w4.drew b8 p d aT N cT := HA.out.below (Ext.drew w4)
  have hD4 := HD4.out.ext (Ext.drew w4)
  have hv4 := HV4.out.below (Ext.drew w4)
  have hAl4 := HAl4.out.own.below (Ext.drew w4)
  (refine walkR_start (fun w' => AlgB w' b8 p d aT N cT) 19 (by kernel_rfl) ?_; simp only [numbered, List.take_succ_cons, List.take_zero, Nat.zero_add, Nat.reduceAdd, List.length_cons, List.length_nil])
  (repeat (first | (refine walkR_still (v := ?_) rfl (by decide +kernel) rfl (fun _ _ _ h => h) hB4 ?_ ?_; rotate_left; (focus (intro w' hw'; obtain ⟨m0, m1, m2⟩ := hw'.at'; go_simp; all_goals (with_reducible rfl))); simp only [Act.put, List.setIfInBounds_toArray, List.set_cons_zero, List.set_cons_succ]) | (refine walkR_skip rfl (by decide +kernel) rfl (fun _ _ _ h => h) hB4 ?_; simp only [Act.put, List.setIfInBounds_toArray, List.set_cons_zero, List.set_cons_succ])))
  (refine walkR_later ?_; simp only [List.cons_append, List.nil_append])
  (repeat (first | (refine walkR_still (v := ?_) rfl (by decide +kernel) rfl (fun _ _ _ h => h) hB4 ?_ ?_; rotate_left; (focus (intro w' hw'; obtain ⟨m0, m1, m2⟩ := hw'.at'; go_simp; all_goals (with_reducible rfl))); simp only [Act.put, List.setIfInBounds_toArray, List.set_cons_zero, List.set_cons_succ]) | (refine walkR_skip rfl (by decide +kernel) rfl (fun _ _ _ h => h) hB4 ?_; simp only [Act.put, List.setIfInBounds_toArray, List.set_cons_zero, List.set_cons_succ])))
  (refine walkR_later ?_; simp only [List.cons_append, List.nil_append])
  (repeat (first | (refine walkR_still (v := ?_) rfl (by decide +kernel) rfl (fun _ _ _ h => h) hB4 ?_ ?_; rotate_left; (focus (intro w' hw'; obtain ⟨m0, m1, m2⟩ := hw'.at'; go_simp; all_goals (with_reducible rfl))); simp only [Act.put, List.setIfInBounds_toArray, List.set_cons_zero, List.set_cons_succ]) | (refine walkR_skip rfl (by decide +kernel) rfl (fun _ _ _ h => h) hB4 ?_; simp only [Act.put, List.setIfInBounds_toArray, List.set_cons_zero, List.set_cons_succ])))
  (refine walkR_later ?_; simp only [List.cons_append, List.nil_append]); (refine walkR_later ?_; simp only [List.cons_append, List.nil_append]); (refine walkR_later ?_; simp only [List.cons_append, List.nil_append]); (refine walkR_later ?_; simp only [List.cons_append, List.nil_append])
  (refine walkR_only (fun w' => AlgB w' b8 p d aT N cT) rfl (by decide +kernel) rfl (fun _ h => h) ?_; intro K hK; go_simp; refine (HLs.out _ hD4).mono ?_; rintro e w5 ⟨a5, c5, x5, rfl, ho5, hr5, hd5⟩; refine hK _ _ (hB4.same (hd5.gb.block _ hB4.lt (by simp; exact HGv.out.2.2))) ?_; clear hK K; (try simp only [Act.put, List.setIfInBounds_toArray, List.set_cons_zero, List.set_cons_succ]))
  have hB5 := hB4.same (hd5.gb.block _ hB4.lt (by simp; exact HGv.out.2.2))
  have hD5 := hD4.trans hd5
  (refine walkR_only (fun w' => AlgB w' b8 p d aT N cT) rfl (by decide +kernel) rfl (fun _ h => h) ?_; intro K hK; go_simp; refine (HLs.out _ hD5).mono ?_; rintro e w6 ⟨a6, c6, x6, rfl, ho6, hr6, hd6⟩; refine hK _ _ (hB5.same (hd6.gb.block _ hB5.lt (by simp; exact HGv.out.2.2))) ?_; clear hK K; (try simp only [Act.put, List.setIfInBounds_toArray, List.set_cons_zero, List.set_cons_succ]))
  have hB6 := hB5.same (hd6.gb.block _ hB5.lt (by simp; exact HGv.out.2.2))
  have hD6 := hD5.trans hd6
  (refine walkR_only (fun w' => AlgB w' b8 p d aT N cT) rfl (by decide +kernel) rfl (fun _ h => h) ?_; intro K hK; go_simp; refine (HLs.out _ hD6).mono ?_; rintro e w7 ⟨a7, c7, x7, rfl, ho7, hr7, hd7⟩; refine hK _ _ (hB6.same (hd7.gb.block _ hB6.lt (by simp; exact HGv.out.2.2))) ?_; clear hK K; (try simp only [Act.put, List.setIfInBounds_toArray, List.set_cons_zero, List.set_cons_succ]))
  have hB7 := hB6.same (hd7.gb.block _ hB6.lt (by simp; exact HGv.out.2.2))
  have hD7 := hD6.trans hd7
  have hgs : ∀ {u u' : World}, DrawSt u u' g a n c → AlgB u w.heap.size 0 0 none 0 0 → AlgB u' w.heap.size 0 0 none 0 0 := fun hd h => h.same (hd.gb.block _ h.lt (by have := HGv.out.1; simp; omega))
  have hv7 := hgs hd7 (hgs hd6 (hgs hd5 hv4))
  have hAl7 := hd7.own hD6.cur (hd6.own hD5.cur (hd5.own hD4.cur hAl4))
  have hs4 : w.heap.size + 1 ≤ w4.drew.heap.size := by have := hv4.lt; omega
  have hs5 := hd5.gb.size
  have hs6 := hd6.gb.size
  have hL5 : LstD w7 (w.heap.size + 1) p d a5 c5 x5 := ⟨hd7.own hD6.cur (hd6.own hD5.cur (ho5.base hs4)), hr5⟩
  have hL6 : LstD w7 (w.heap.size + 1) p d a6 c6 x6 := ⟨hd7.own hD6.cur (ho6.base (by omega)), hr6⟩
  have hL7 : LstD w7 (w.heap.size + 1) p d a7 c7 x7 := ⟨ho7.base (by omega), hr7⟩
  have hst := set3_gb w7 w.heap.size (.int .i64 p) (.int .i64 (d : Int)) (.slice aT N cT)
  have hB8 := hB7.same (hst.block b8 hB7.lt (by have := HGv.out.2.1; simp; omega))
  have hE7 := hD7.extOf (HX0.out.trans HX1.out) (Nat.le_of_lt HGv.out.1)
  have hE8 := Below.grown hE7 hst hE7.size fun j hj => by cases hj; exact Nat.le_refl _
  have HSt := hidP (hv7.put3 p d aT N cT)
  have HF : Hid (AlgD (set3 w7 w.heap.size (.int .i64 p) (.int .i64 (d : Int)) (.slice aT N cT)) w.heap.size p d aT N cT t ∧ LstD (set3 w7 w.heap.size (.int .i64 p) (.int .i64 (d : Int)) (.slice aT N cT)) w.heap.size p d a5 c5 x5 ∧ LstD (set3 w7 w.heap.size (.int .i64 p) (.int .i64 (d : Int)) (.slice aT N cT)) w.heap.size p d a6 c6 x6 ∧ LstD (set3 w7 w.heap.size (.int .i64 p) (.int .i64 (d : Int)) (.slice aT N cT)) w.heap.size p d a7 c7 x7) :=
    ⟨⟨(hAl7.grown hst (fun b o e => by simpa using hv7.ne hAl7 e)).base (Nat.le_succ _), HAl4.out.ok, HAl4.out.le, HAl4.out.mem⟩, (hL5.grown hst fun b o e => hv7.ne hL5.own e).base (Nat.le_succ _), (hL6.grown hst fun b o e => hv7.ne hL6.own e).base (Nat.le_succ _), (hL7.grown hst fun b o e => hv7.ne hL7.own e).base (Nat.le_succ _)⟩
  have HE8 := hidP hE8
  (refine walkR_only (fun w' => AlgB w' b8 p d aT N cT) rfl (by decide +kernel) rfl ?_ ?_)
  · exact fun _ h => h
  intro K hK
  obtain ⟨z0, z1, z2⟩ := hv7.at'
  have zf0 := hv7.fz 0
  have zf1 := hv7.fz 1
  have zf2 := hv7.fz 2
  go_simp
  clear z0 z1 z2 zf0 zf1 zf2
  refine hK _ _ hB8 ?_
  clear hK K
  (try simp only [Act.put, List.setIfInBounds_toArray, List.set_cons_zero, List.set_cons_succ])
  (repeat (first | (refine walkR_still (v := ?_) rfl (by decide +kernel) rfl (fun _ _ _ h => h) hB8 ?_ ?_; rotate_left; (focus (intro w' hw'; skip; go_simp; all_goals (with_reducible rfl))); simp only [Act.put, List.setIfInBounds_toArray, List.set_cons_zero, List.set_cons_succ]) | (refine walkR_skip rfl (by decide +kernel) rfl (fun _ _ _ h => h) hB8 ?_; simp only [Act.put, List.setIfInBounds_toArray, List.set_cons_zero, List.set_cons_succ])))
  (refine walkR_tail (by rfl) (by kernel_rfl) ?_; simp only [List.drop_succ_cons, List.drop_zero])
  go_wp2
  obtain ⟨r0, r1, r2⟩ := HSt.out.at'
  unfold set3 at r0 r1 r2
  refine bodyPost_ret (v := .tuple #[algV p d aT N cT, .slice a5 d c5, .slice a6 d c6, .slice a7 d c7]) (by simp [results, Tryz.results25, go_sem, r0, r1, r2]) rfl ⟨p, d, aT, N, cT, t, a5, c5, x5, a6, c6, x6, a7, c7, x7, rfl, HF.out.1, HF.out.2.1, HF.out.2.2.1, HF.out.2.2.2, HE8.out⟩
end Go.Proofs.YtenlhfimdpcaoaaGreat

namespace Go.Proofs.YtenlhfimdpcaoaaGreat
open Go.RowKit

/-- row i is the bracket of x and the basis element i -/
def adM (p : Int) (t : List Int) (d : Nat) (x : List Int) : List Int := matM p d fun i m => sumTo d fun a => x.getD a 0 * tab t d a i m
/-- a sum of products of a row's numbers, over pairs -/
theorem ad_mul {p : Int} {d : Nat} {t : List Int} (h : LieT p d t) (x y : List Int) {i m : Nat} (hi : i < d) (hm : m < d) :
    entM d (mulM p d (adM p t d y) (adM p t d x)) i m = (sumTo d fun a => sumTo d fun b => x.getD a 0 * y.getD b 0 * -(jT t d b i a m)) % p := by
  unfold mulM
  rw [matM_at p _ hi hm]
  have e1 : (sumTo d fun k => entM d (adM p t d y) i k * entM d (adM p t d x) k m) % p = (sumTo d fun k => sumTo d fun a => sumTo d fun b => x.getD a 0 * y.getD b 0 * (tab t d b i k * tab t d a k m)) % p := by
    refine sumTo_modC fun k hk => ?_
    unfold adM
    rw [matM_at p _ hi hk, matM_at p _ hk hm, mul_emod_l, mul_emod_r, sumTo_mulL]
    congr 1
    refine sumTo_congr fun a _ => ?_
    rw [sumTo_mulR]
    refine sumTo_congr fun b _ => ?_
    simp only [Int.mul_assoc, Int.mul_left_comm, Int.mul_comm]
  rw [e1, sumTo_swap]
  refine sumTo_modC fun a ha => ?_
  rw [sumTo_swap]
  refine sumTo_modC fun b hb => ?_
  rw [← sumTo_mulL, Int.mul_emod, ← Int.mul_emod]
  have e2 : (sumTo d fun k => tab t d b i k * tab t d a k m) % p = (-(jT t d b i a m)) % p := by
    unfold jT
    rw [show -(sumTo d fun l => tab t d b i l * tab t d l a m) = sumTo d fun l => -1 * (tab t d b i l * tab t d l a m) by rw [← sumTo_mulL]; omega]
    refine sumTo_modC fun k hk => ?_
    rw [Int.mul_emod, neg_of_sum (h.skew a k m ha hk hm), ← Int.mul_emod]
    congr 1
    rw [Int.mul_neg, Int.neg_mul, Int.one_mul]
  rw [Int.mul_emod, e2, ← Int.mul_emod]
/-- the adjoint matrix of a bracket is the commutator -/
theorem ad_br {p : Int} {d : Nat} {t : List Int} (h : LieT p d t) (x y : List Int) : dueM p d (adM p t d y) (adM p t d x) = adM p t d (brL p t d x y) := by
  have hp := h.pos
  have hself := matM_self (p := p) (n := d) (A := dueM p d (adM p t d y) (adM p t d x)) (addL_res hp _ _ _) (by unfold dueM; rw [addL_length, mulM_length])
  rw [← hself]
  conv => rhs; unfold adM
  refine matM_congr fun i m hi hm => ?_
  have e0 : entM d (dueM p d (adM p t d y) (adM p t d x)) i m = (entM d (mulM p d (adM p t d y) (adM p t d x)) i m + (p - 1) * entM d (mulM p d (adM p t d x) (adM p t d y)) i m) % p := by
    unfold dueM
    unfold entM
    rw [addL_get _ _ _ _ _ (by rw [mulM_length]; exact place_lt hi hm)]
  rw [e0, Int.emod_emod, ad_mul h x y hi hm, ad_mul h y x hi hm, Int.emod_add_emod, Int.add_emod, mul_emod_r, ← Int.add_emod]
  have e1 : (sumTo d fun a => (brL p t d x y).getD a 0 * tab t d a i m) % p = (sumTo d fun a => sumTo d fun b => x.getD a 0 * y.getD b 0 * jT t d a b i m) % p := by
    rw [sumTo_modC (g := fun l => sumTo d fun a => sumTo d fun b => x.getD a 0 * y.getD b 0 * (tab t d a b l * tab t d l i m)) fun l hl => by
      unfold brL
      rw [modL_get _ _ _ _ hl, mul_emod_l, sumTo_mulR]
      congr 1
      refine sumTo_congr fun a _ => ?_
      rw [sumTo_mulR]
      exact sumTo_congr fun b _ => Int.mul_assoc _ _ _]
    rw [sumTo_swap]
    refine sumTo_modC fun a _ => ?_
    rw [sumTo_swap]
    congr 1
    refine sumTo_congr fun b _ => ?_
    unfold jT
    exact (sumTo_mulL d _ _).symm
  rw [e1]
  have e2 : (sumTo d fun a => sumTo d fun b => y.getD a 0 * x.getD b 0 * -(jT t d b i a m)) = sumTo d fun a => sumTo d fun b => x.getD a 0 * y.getD b 0 * -(jT t d a i b m) := by
    rw [sumTo_swap]
    exact sumTo_congr fun a _ => sumTo_congr fun b _ => by rw [Int.mul_comm (y.getD b 0)]
  rw [e2, sumTo_mulL, ← sumTo_addF]
  refine sumTo_modC fun a ha => ?_
  rw [sumTo_mulL, ← sumTo_addF]
  refine sumTo_modC fun b hb => ?_
  have h1 := h.jac a b i ha hb hi m hm
  have h2 := jT_skew h.skew (k := b) (m := m) hi ha
  have e3 : x.getD a 0 * y.getD b 0 * -(jT t d b i a m) + (p - 1) * (x.getD a 0 * y.getD b 0 * -(jT t d a i b m)) = x.getD a 0 * y.getD b 0 * (jT t d a b i m) + (x.getD a 0 * y.getD b 0) * ((jT t d i a b m + jT t d a i b m) - (jT t d a b i m + jT t d b i a m + jT t d i a b m)) + p * (x.getD a 0 * y.getD b 0 * -(jT t d a i b m)) := by
    obtain ⟨z, hz⟩ : ∃ z, z = x.getD a 0 * y.getD b 0 := ⟨_, rfl⟩
    rw [← hz]
    simp only [Int.mul_sub, Int.mul_add, Int.sub_mul, Int.mul_neg, Int.one_mul]
    omega
  rw [e3, Int.add_mul_emod_self_left, Int.add_emod, Int.mul_emod (x.getD a 0 * y.getD b 0) (_ - _), Int.sub_emod, h2, h1]
  simp
/-! ### the Killing form -/
end Go.Proofs.YtenlhfimdpcaoaaGreat

namespace Go.Proofs.YtenlhfimdpcaoaaGreat
open Go.RowKit

/-- the program's adjoint matrix, row by row -/
theorem adj_flat {p : Int} {t : List Int} {d : Nat} {u : List Int} (hu : u.length = d) : (adjL p t d u d).flatten = adM p t d u := by
  have hl : (adjL p t d u d).length = d := by simp [adjL]
  have hg : ∀ i, i < d → (adjL p t d u d).getD i [] = rightL p t d u i := fun i hi => by simp [adjL, List.getD_eq_getElem?_getD, hi]
  refine (FlatR.flatten (L := d) (rows := adjL p t d u d) (data := adM p t d u) ⟨?_, fun i hi => ?_, fun i j hi hj => ?_⟩).symm
  · rw [hl]; exact matM_length _ _ _
  · rw [hl] at hi
    rw [hg i hi]
    exact rightL_length _ _ _ _ _
  · rw [hl] at hi
    rw [hg i hi]
    have h1 := matM_at p (fun i m => sumTo d fun a => u.getD a 0 * tab t d a i m) hi hj
    unfold entM at h1
    unfold adM
    rw [h1]
    unfold rightL
    rw [modL_get _ _ _ _ hj, hu]
/-- a row times an adjoint matrix is a bracket -/
theorem under_ad {p : Int} {t : List Int} {d : Nat} (x y : List Int) : modL p d (fun m => sumTo d fun i => y.getD i 0 * entM d (adM p t d x) i m) = brL p t d x y := by
  unfold brL
  refine modL_congr fun m hm => ?_
  rw [sumTo_modC (g := fun i => sumTo d fun a => x.getD a 0 * y.getD i 0 * tab t d a i m) fun i hi => by
    unfold adM
    rw [matM_at p _ hi hm, mul_emod_r, sumTo_mulL]
    congr 1
    exact sumTo_congr fun a _ => by rw [← Int.mul_assoc, Int.mul_comm (y.getD i 0)], sumTo_swap]
end Go.Proofs.YtenlhfimdpcaoaaGreat

namespace Go.Proofs.YtenlhfimdpcaoaaGreat
open Go.RowKit

theorem elB_of {p : Int} {d : Nat} {xs : List Int} (hl : xs.length = d) (h : Res p xs) : elB p d xs = true := by
  unfold elB
  simp only [Bool.and_eq_true, decide_eq_true_eq]
  exact ⟨by omega, resB_true.2 h⟩
theorem set4_gbA (w : World) (b : Nat) (v0 v1 v2 v3 : Value) : w.grownBy ((((w.setCell ⟨b, 0, none⟩ v0).setCell ⟨b, 1, none⟩ v1).setCell ⟨b, 2, none⟩ v2).setCell ⟨b, 3, none⟩ v3) (some b) :=
  ⟨rfl, rfl, rfl, by simp [World.setCell], fun k _ hk => by
    have e : k ≠ b := fun e => hk (by rw [e])
    rw [Below.heap_setCell _ _ _ _ e, Below.heap_setCell _ _ _ _ e, Below.heap_setCell _ _ _ _ e, Below.heap_setCell _ _ _ _ e]⟩
set_option maxHeartbeats 2000000 in
theorem bracketOf_ok (p : Int) (d : Nat) (aT ax ay : Option Addr) (N c cx cy : Nat) (t xs ys : List Int) (w : World) (ht : IntsAt w aT N t) (hc : N ≤ c) (hc2 : c ≤ 9223372036854775807) (hx : IntsAt w ax d xs) (hy : IntsAt w ay d ys) (hok : algB p d t = true) (hrx : Res p xs) (hry : Res p ys) :
    Calls Tryz.prog 27 #[algV p d aT N c, .slice ax d cx, .slice ay d cy] w fun e w' => ∃ a, e = .returned (.slice a d d) ∧ OwnI w' w.heap.size a d d (brL p t d xs ys) ∧ Ext w w' := by
  obtain ⟨g1, _⟩ := algB_true.1 hok
  obtain ⟨hp, _, hd, hl, hrt⟩ := headB_true g1
  obtain ⟨p2, p7⟩ := prime_bounds hp
  have hN : N = d * d * d := by
    have e2 := ht.len
    have e : ((d * d * d : Nat) : Int) = (d : Int) * d * d := by simp
    omega
  have hx0 := Ext.alloc w (.cells #[.int .i64 p, .int .i64 (d : Int), .slice aT N c] 26)
  obtain ⟨w0, hw0⟩ : ∃ w0, w0 = w.alloc (.cells #[.int .i64 p, .int .i64 (d : Int), .slice aT N c] 26) := ⟨_, rfl⟩
  have hm0 : AlgAt w0 w.heap.size p d aT N c := by rw [hw0]; exact AlgAt.new w _ rfl _ _ _ _ _ _
  rw [← hw0] at hx0
  have HW0 : Hid (w.alloc (.cells #[.int .i64 p, .int .i64 (d : Int), .slice aT N c] 26) = w0) := hw0.symm
  have HM := hidP hm0
  have HX0 := hidP hx0
  have HOk : Hid (∀ w', Ext w0 w' → Calls Tryz.prog 14 #[algV p d aT N c] w' fun e w'' => e = .returned (.bool true) ∧ Ext w' w'') := fun w' hx' => by
    have h1 := algebraOk_any p d aT N c t w' (ht.below (hx0.trans hx')) hc hc2
    rwa [hok] at h1
  have HEx : Hid (∀ w', Ext w0 w' → Calls Tryz.prog 97 #[algV p d aT N c, .slice ax d cx] w' fun e w'' => e = .returned (.bool true) ∧ Ext w' w'') := fun w' hx' => by
    have h1 := isElement_any p d aT N c ax d cx xs w' (hx.below (hx0.trans hx')) (by omega) (by omega) (by omega)
    rwa [elB_of hx.len hrx] at h1
  have HEy : Hid (∀ w', Ext w0 w' → Calls Tryz.prog 97 #[algV p d aT N c, .slice ay d cy] w' fun e w'' => e = .returned (.bool true) ∧ Ext w' w'') := fun w' hx' => by
    have h1 := isElement_any p d aT N c ay d cy ys w' (hy.below (hx0.trans hx')) (by omega) (by omega) (by omega)
    rwa [elB_of hy.len hry] at h1
  have HBr := hidP (fun w' (hx' : Ext w0 w') => bracket_any p d aT N c t ax ay cx cy xs ys w' (by omega) hN hc hc2 (ht.below (hx0.trans hx')) (hx.below (hx0.trans hx')) (hy.below (hx0.trans hx')) (by omega) p7 hrt hrx hry)
  have HLie := hidP (fun w' => newLie_any p d aT N c w')
  obtain ⟨m0, m1, m2⟩ := hm0
  clear ht hx hy hok hrx hry g1 hp hl hrt hN hw0 hx0
  go_enter Tryz.func27, Tryz.ntmps27
  go_wp2_with fail
  rw [HW0.out]
  clear HW0
  refine (HOk.out w0 (Ext.refl _)).mono ?_
  rintro e w1 ⟨rfl, hx1⟩
  have HX1 := hidP hx1
  obtain ⟨n0, n1, n2⟩ := HM.out.below hx1
  clear m0 m1 m2 hx1
  go_wp2_with fail
  refine (HEx.out w1 HX1.out).mono ?_
  rintro e w2 ⟨rfl, hx2⟩
  have HX2 := hidP (HX1.out.trans hx2)
  obtain ⟨m0, m1, m2⟩ := HM.out.below HX2.out
  clear n0 n1 n2 hx2
  go_wp2_with fail
  refine (HEy.out w2 HX2.out).mono ?_
  rintro e w3 ⟨rfl, hx3⟩
  have HX3 := hidP (HX2.out.trans hx3)
  obtain ⟨n0, n1, n2⟩ := HM.out.below HX3.out
  clear m0 m1 m2 hx3
  go_wp2_with fail
  refine (HLie.out w3).mono ?_
  rintro e w4 ⟨rfl, hx4⟩
  have HX4 := hidP (HX3.out.trans hx4)
  clear n0 n1 n2 hx4
  go_wp2_with fail
  refine (HBr.out w4 HX4.out).mono ?_
  rintro e w5 ⟨a5, rfl, ho5, hx5⟩
  have HO5 := hidP ho5
  have HX5 := hidP ((HX0.out.trans HX4.out).trans hx5)
  have HS5 := hidP (HX0.out.trans HX4.out).size
  clear ho5 hx5
  go_wp2
  go_ret
  exact ⟨_, rfl, HO5.out.base HS5.out, HX5.out⟩
set_option maxHeartbeats 2000000 in
theorem adjointOf_ok (p : Int) (d : Nat) (aT ax : Option Addr) (N c cx : Nat) (t xs : List Int) (w : World) (ht : IntsAt w aT N t) (hc : N ≤ c) (hc2 : c ≤ 9223372036854775807) (hx : IntsAt w ax d xs) (hok : algB p d t = true) (hrx : Res p xs) :
    Calls Tryz.prog 30 #[algV p d aT N c, .slice ax d cx] w fun e w' => ∃ a l c3, e = .returned (matV p d d a l c3) ∧ OwnI w' w.heap.size a l c3 (adM p t d xs) ∧ Ext w w' := by
  obtain ⟨g1, _⟩ := algB_true.1 hok
  obtain ⟨hp, _, hd, hl, hrt⟩ := headB_true g1
  obtain ⟨p2, p7⟩ := prime_bounds hp
  have hN : N = d * d * d := by
    have e2 := ht.len
    have e : ((d * d * d : Nat) : Int) = (d : Int) * d * d := by simp
    omega
  have hx0 := Ext.alloc w (.cells #[.int .i64 p, .int .i64 (d : Int), .slice aT N c] 26)
  obtain ⟨w0', hw0'⟩ : ∃ w0', w0' = w.alloc (.cells #[.int .i64 p, .int .i64 (d : Int), .slice aT N c] 26) := ⟨_, rfl⟩
  have hm0 : AlgAt w0' w.heap.size p d aT N c := by rw [hw0']; exact AlgAt.new w _ rfl _ _ _ _ _ _
  have s0 : w0'.heap.size = w.heap.size + 1 := by rw [hw0']; simp
  rw [← hw0'] at hx0
  have hxr := Ext.alloc w0' (.cells #[.int .i64 0, .int .i64 0, .int .i64 0, .slice none 0 0] 28)
  have hbr := MatB.new w0' 0 0 0 none 0 0
  obtain ⟨w0, hw0⟩ : ∃ w0, w0 = w0'.alloc (.cells #[.int .i64 0, .int .i64 0, .int .i64 0, .slice none 0 0] 28) := ⟨_, rfl⟩
  rw [← hw0] at hxr hbr
  rw [s0] at hbr
  have HW0' : Hid (w.alloc (.cells #[.int .i64 p, .int .i64 (d : Int), .slice aT N c] 26) = w0') := hw0'.symm
  have HW0 : Hid (w0'.alloc (.cells #[.int .i64 0, .int .i64 0, .int .i64 0, .slice none 0 0] 28) = w0) := hw0.symm
  have hX := hx0.trans hxr
  have HM := hidP (hm0.below hxr)
  have HBr := hidP hbr
  have HX0 := hidP hX
  have HOk : Hid (∀ w', Ext w0 w' → Calls Tryz.prog 14 #[algV p d aT N c] w' fun e w'' => e = .returned (.bool true) ∧ Ext w' w'') := fun w' hx' => by
    have h1 := algebraOk_any p d aT N c t w' (ht.below (hX.trans hx')) hc hc2
    rwa [hok] at h1
  have HEx : Hid (∀ w', Ext w0 w' → Calls Tryz.prog 97 #[algV p d aT N c, .slice ax d cx] w' fun e w'' => e = .returned (.bool true) ∧ Ext w' w'') := fun w' hx' => by
    have h1 := isElement_any p d aT N c ax d cx xs w' (hx.below (hX.trans hx')) (by omega) (by omega) (by omega)
    rwa [elB_of hx.len hrx] at h1
  have HAd := hidP (fun w' (hx' : Ext w0 w') => adjoint_any p d aT ax N c cx t xs w' (by omega) hN hc hc2 (ht.below (hX.trans hx')) (hx.below (hX.trans hx')) (by omega) p7 hrt hrx)
  rw [adj_flat hx.len] at HAd
  have HLie := hidP (fun w' => newLie_any p d aT N c w')
  obtain ⟨m0, m1, m2⟩ := HM.out
  clear ht hx hok hrx g1 hp hl hrt hN hw0 hw0' hx0 hxr hbr hX s0 hm0
  go_enter Tryz.func30, Tryz.ntmps30
  go_wp2_with fail
  rw [HW0'.out, HW0.out]
  clear HW0' HW0
  refine (HOk.out w0 (Ext.refl _)).mono ?_
  rintro e w1 ⟨rfl, hx1⟩
  have HX1 := hidP hx1
  obtain ⟨n0, n1, n2⟩ := HM.out.below hx1
  clear m0 m1 m2 hx1
  go_wp2_with fail
  refine (HEx.out w1 HX1.out).mono ?_
  rintro e w2 ⟨rfl, hx2⟩
  have HX2 := hidP (HX1.out.trans hx2)
  obtain ⟨m0, m1, m2⟩ := HM.out.below HX2.out
  clear n0 n1 n2 hx2
  go_wp2_with fail
  refine (HLie.out w2).mono ?_
  rintro e w4 ⟨rfl, hx4⟩
  have HX4 := hidP (HX2.out.trans hx4)
  clear m0 m1 m2 hx4
  go_wp2_with fail
  refine (HAd.out w4 HX4.out).mono ?_
  rintro e w5 ⟨a5, l5, c5, rfl, ho5, hx5⟩
  have hb5 := HBr.out.below (HX4.out.trans hx5)
  have HSt := hidP (heap_setCell_at _ (w.heap.size + 1) 3 _ _ _ (.slice a5 l5 c5) (heap_setCell_at _ (w.heap.size + 1) 2 _ _ _ (.int .i64 (d : Int)) (heap_setCell_at _ (w.heap.size + 1) 1 _ _ _ (.int .i64 (d : Int)) (heap_setCell_at w5 (w.heap.size + 1) 0 _ _ _ (.int .i64 p) hb5))))
  have HSt2 : Hid (MatB ((((w5.setCell ⟨w.heap.size + 1, 0, none⟩ (.int .i64 p)).setCell ⟨w.heap.size + 1, 1, none⟩ (.int .i64 (d : Int))).setCell ⟨w.heap.size + 1, 2, none⟩ (.int .i64 (d : Int))).setCell ⟨w.heap.size + 1, 3, none⟩ (.slice a5 l5 c5)) (w.heap.size + 1) p d d a5 l5 c5) := HSt.out
  have HSg : Hid (w5.grownBy ((((w5.setCell ⟨w.heap.size + 1, 0, none⟩ (.int .i64 p)).setCell ⟨w.heap.size + 1, 1, none⟩ (.int .i64 (d : Int))).setCell ⟨w.heap.size + 1, 2, none⟩ (.int .i64 (d : Int))).setCell ⟨w.heap.size + 1, 3, none⟩ (.slice a5 l5 c5)) (some (w.heap.size + 1))) := set4_gbA w5 _ _ _ _ _
  have HNe := hidP (fun b o (e : a5 = some ⟨b, o, none⟩) => hb5.ne ho5 e)
  have HO5 := hidP ho5
  have HX5 := hidP ((HX0.out.trans HX4.out).trans hx5)
  have HS5 := hidP (HX0.out.trans HX4.out).size
  obtain ⟨z0, z1, z2, z3⟩ := hb5.at'
  have zf0 := hb5.fz 0
  have zf1 := hb5.fz 1
  have zf2 := hb5.fz 2
  have zf3 := hb5.fz 3
  clear ho5 hx5 hb5 HSt
  go_wp2
  obtain ⟨r0, r1, r2, r3⟩ := HSt2.out.at'
  refine bodyPost_ret (v := matV p d d a5 l5 c5) (by simp [results, Tryz.results30, go_sem, r0, r1, r2, r3]) rfl ⟨_, _, _, rfl, ?_, ?_⟩
  · exact (HO5.out.grown HSg.out (fun b o e => by simpa using HNe.out b o e)).base HS5.out
  · exact Below.grown HX5.out HSg.out HX5.out.size fun j hj => by cases hj; omega
end Go.Proofs.YtenlhfimdpcaoaaGreat

namespace Go.Proofs.YtenlhfimdpcaoaaGreat
open Go.RowKit

theorem sResidue_any (n p : Int) (w : World) (hp : primeB p = true) : Calls Tryz.prog 98 #[.int .i64 n, .int .i64 p] w fun e w' => e = .returned (.int .i64 (n % p)) ∧ w = w' := by
  obtain ⟨p2, p7⟩ := prime_bounds hp
  go_enter Tryz.func98, Tryz.ntmps98
  go_wp2_with fail
  refine (sIsPrime_any p w).mono ?_
  rintro e w' ⟨rfl, rfl⟩
  rw [hp]
  go_wp2_with fail
  refine (l1Mod_any n p w (by omega) (by omega)).mono ?_
  rintro e w' ⟨rfl, rfl⟩
  go_wp2
  go_ret
  exact ⟨rfl, rfl⟩
set_option maxHeartbeats 1000000 in
theorem aInts_any (a1 a2 : Option Addr) (n1 n2 c1 c2 : Nat) (xs ys : List Int) (w : World) (h1 : IntsAt w a1 n1 xs) (h2 : IntsAt w a2 n2 ys) (hm1 : n1 ≤ 9223372036854775807) (hm2 : n2 ≤ 9223372036854775807) :
    Calls Tryz.prog 29 #[.slice a1 n1 c1, .slice a2 n2 c2] w fun e w' => e = .returned (.bool (xs == ys)) ∧ Ext w w' := by
  obtain ⟨l1, g1⟩ := h1
  obtain ⟨l2, g2⟩ := h2
  have G1 := hidP g1
  have G2 := hidP g2
  have L1 := hidP l1
  have L2 := hidP l2
  clear g1 g2 l1 l2
  by_cases hne : n1 = n2
  · subst hne
    go_enter Tryz.func29, Tryz.ntmps29
    go_wp2
    go_loopw [5] (fun i wr => ∃ k m : Nat, k ≤ n1 ∧ Hid (∀ j, j < k → xs.getD j 0 = ys.getD j 0) ∧ i = .int .i64 k ∧ wr = w.drewN m) (fun i _ => n1 - (intOf i).toNat)
    case atStart => exact ⟨0, 0, Nat.zero_le _, fun j h => by omega, rfl, rfl⟩
    case round =>
      obtain ⟨k, m, hk, HJ, rfl, rfl⟩ := hrel
      by_cases hlt : k < n1
      · obtain ⟨b1, o1, rfl, q1⟩ := G1.out k hlt
        obtain ⟨b2, o2, rfl, q2⟩ := G2.out k hlt
        by_cases hd : xs.getD k 0 = ys.getD k 0
        · have hb : (xs[k]?.getD 0 != ys[k]?.getD 0) = false := by simpa [List.getD_eq_getElem?_getD] using hd
          have HD := hidP hd
          clear hd
          go_wp2
          go_quiet (fail)
          go_wp2
          go_roundw
          case rel =>
            refine ⟨k + 1, m + nq, by omega, fun j hj => ?_, by go_num, by simp⟩
            rcases Nat.lt_succ_iff_lt_or_eq.1 hj with h3 | rfl
            · exact HJ.out j h3
            · exact HD.out
          case measure => simp [intOf]; omega
        · have hb : (xs[k]?.getD 0 != ys[k]?.getD 0) = true := by simpa [List.getD_eq_getElem?_getD] using hd
          have HB : Hid ((xs == ys) = false) := by
            show _ = _
            rw [beq_eq_false_iff_ne]
            exact fun e => hd (by rw [e])
          clear hd
          go_wp2
          go_quiet (fail)
          go_wp2
          go_ret
          exact ⟨ret_bool HB.out.symm, by simp only [World.drewN_drewN]; exact Ext.drewN w _⟩
      · have HB : Hid ((xs == ys) = true) := by
          show _ = _
          rw [beq_iff_eq]
          exact ints_ext (L1.out.trans L2.out.symm) fun j hj => HJ.out j (by have := L1.out; omega)
        go_wp2
        go_ret
        exact ⟨ret_bool HB.out.symm, Ext.drewN w _⟩
  · have HB : Hid ((xs == ys) = false) := by
      show _ = _
      rw [beq_eq_false_iff_ne]
      exact fun e => hne (by rw [← L1.out, ← L2.out, e])
    have hb : (((n1 : Nat) : Int) != (n2 : Nat)) = true := bne_iff_ne.2 (by omega)
    clear hne
    go_enter Tryz.func29, Tryz.ntmps29
    go_wp2
    go_ret
    exact ⟨ret_bool HB.out.symm, Ext.refl _⟩
theorem aZeros_any (a : Option Addr) (n c : Nat) (xs : List Int) (w : World) (h : IntsAt w a n xs) (hn : n ≤ 1000000) :
    Calls Tryz.prog 26 #[.slice a n c] w fun e w' => e = .returned (.bool (zeroB xs)) ∧ Ext w w' := by
  have H := hidP h
  have L := hidP h.len
  clear h
  go_enter Tryz.func26, Tryz.ntmps26
  go_wp2
  go_loopw [3] (fun ii wr => ∃ k : Nat, k ≤ n ∧ ii = .int .i64 k ∧ Hid (∀ j, j < k → xs.getD j 0 = 0) ∧ Hid (Ext w wr)) (fun ii _ => n - (intOf ii).toNat)
  case atStart => exact ⟨0, Nat.zero_le _, rfl, fun j h => by omega, Ext.refl _⟩
  case round =>
    obtain ⟨k, hk, rfl, HZ, HX⟩ := hrel
    by_cases hlt : k < n
    · obtain ⟨b, o, rfl, hy⟩ := H.out.one k hlt
      have q1 := hy _ HX.out
      clear hy
      by_cases hz : xs.getD k 0 = 0
      · have HZ2 : Hid (∀ j, j < k + 1 → xs.getD j 0 = 0) := fun j hj => by
          rcases Nat.lt_succ_iff_lt_or_eq.1 hj with h3 | rfl
          · exact HZ.out j h3
          · exact hz
        rw [hz] at q1
        clear hz
        go_wp2
        go_roundw
        case rel => exact ⟨k + 1, by omega, by go_num, HZ2, HX⟩
        case measure => simp [intOf]; omega
      · have HF : Hid (zeroB xs = false) := by
          show _ = _
          cases hb : zeroB xs
          · rfl
          · exact absurd (zeroB_true.1 hb k (by have := L.out; omega)) hz
        generalize xs.getD k 0 = z at q1 hz
        have hzb : (z != 0) = true := by simpa using hz
        go_wp2
        go_ret
        exact ⟨ret_bool HF.out.symm, HX.out⟩
    · obtain rfl : n = k := by omega
      have HF : Hid (zeroB xs = true) := by
        show _ = _
        exact zeroB_true.2 fun i hi => HZ.out i (by have := L.out; omega)
      go_wp2
      go_ret
      exact ⟨ret_bool HF.out.symm, HX.out⟩
/-- the law's sum of residues is the program's -/
theorem sum_same {p : Int} (x y n : Int) : (x + n.tmod p * y) % p = (x + n * y) % p := by
  have h : n.tmod p % p = n % p := by
    rw [Int.tmod_def, Int.sub_emod, Int.mul_emod_right, Int.sub_zero, Int.emod_emod]
  rw [Int.add_emod, Int.mul_emod, h, ← Int.mul_emod, ← Int.add_emod]
set_option maxHeartbeats 2000000 in
theorem aSum_any (p m : Int) (ax ay : Option Addr) (n cx cy : Nat) (X Y : List Int) (w : World) (hx : IntsAt w ax n X) (hy : IntsAt w ay n Y) (hn : n ≤ 1000000) (hp : primeB p = true) (hX : Res p X) (hY : Res p Y) (hm : -1000000 ≤ m) (hm2 : m ≤ 1000000) :
    Calls Tryz.prog 28 #[.int .i64 p, .slice ax n cx, .int .i64 m, .slice ay n cy] w fun e w' => ∃ a', e = .returned (.slice a' n n) ∧ OwnI w' w.heap.size a' n n (addL p X m Y) ∧ Ext w w' := by
  obtain ⟨p2, p7⟩ := prime_bounds hp
  have hx0 := Ext.alloc w (.cells (Array.replicate n (.int .i64 0)) 3)
  have GX := hidP hx
  have GY := hidP hy
  have LX := hidP hx.len
  have LY := hidP hy.len
  have RX := hidP hX
  have RY := hidP hY
  have HM := hidP (OwnI.made w w.heap.size n (Nat.le_refl _) (by unfold maxLen; omega))
  have hmk := make_ints n (by omega) (by omega) w
  have HX0 := hidP hx0
  have HN : Hid ((addL p X m Y).length = n) := by
    show _ = _
    rw [addL_length, hx.len]
  have hmb : -1000000 ≤ m.tmod p ∧ m.tmod p ≤ 1000000 := by
    have h1 := tmod_pos_bounds m p (by omega)
    omega
  have HR := hidP (fun k w' => sResidue_any k p w' hp)
  clear hx hy hx0 hX hY hp
  go_enter Tryz.func28, Tryz.ntmps28
  go_wp2
  simp only [Int.toNat_natCast] at *
  obtain ⟨w1, hw1⟩ : ∃ w1, w1 = w.alloc (.cells (Array.replicate n (.int .i64 0)) 3) := ⟨_, rfl⟩
  rw [← hw1] at HM HX0 ⊢
  clear hw1 hmk
  go_loopw [10] (fun i wr => ∃ k : Nat, k ≤ n ∧ i = .int .i64 k ∧ Hid (OwnI wr w.heap.size (some ⟨w.heap.size, 0, none⟩) n n (partly (List.replicate n 0) (addL p X m Y) k)) ∧ Hid (Ext w wr)) (fun i _ => n - (intOf i).toNat)
  case atStart => exact ⟨0, Nat.zero_le _, rfl, by rw [partly_zero]; exact HM, HX0⟩
  case round =>
    obtain ⟨k, hk, rfl, HO, HX⟩ := hrel
    by_cases hlt : k < n
    · obtain ⟨bx, ox, rfl, qx⟩ := GX.out.one k hlt
      obtain ⟨bY, oy, rfl, qy⟩ := GY.out.one k hlt
      obtain ⟨g', e', _, hgl, r1, r2⟩ := HO.out.cell k hlt
      simp only [Option.some.injEq, Addr.mk.injEq, and_true] at e'
      subst e'
      have b1 := RX.out k (by have := LX.out; omega)
      have b2 := RY.out k (by have := LY.out; omega)
      have hs := HO.out.stored k ((X.getD k 0 + m.tmod p * Y.getD k 0) % p)
      have he : (X.getD k 0 + m.tmod p * Y.getD k 0) % p = (addL p X m Y).getD k 0 := by
        rw [addL_get _ _ _ _ _ (by have := LX.out; omega)]
        exact sum_same _ _ _
      have HSs : Hid (∀ w', Ext wr w' → OwnI (w'.setCell ⟨w.heap.size, k, none⟩ (.int .i64 ((X.getD k 0 + m.tmod p * Y.getD k 0) % p))) w.heap.size (some ⟨w.heap.size, 0, none⟩) n n (partly (List.replicate n 0) (addL p X m Y) (k + 1))) := fun w' hx => by
        have := (HO.out.below hx).stored k ((X.getD k 0 + m.tmod p * Y.getD k 0) % p)
        rwa [he, partly_succ _ _ n k hlt (by simp) HN.out, ← he] at this
      have HC := hidP (fun w' (hx : Ext wr w') => (⟨qx w' (HX.out.trans hx), qy w' (HX.out.trans hx), (hx.cell (p := ⟨w.heap.size, k, none⟩) hgl).trans r1, (hx.frozen (p := ⟨w.heap.size, k, none⟩) hgl).trans r2⟩ : _ ∧ _ ∧ _ ∧ _))
      clear hs he qx qy r1 r2
      generalize X.getD k 0 = x at *
      generalize Y.getD k 0 = y at *
      have hmy : -1000000 * 10007 ≤ m.tmod p * y ∧ m.tmod p * y ≤ 1000000 * 10007 := by
        constructor
        · have h1 : -1000000 * y ≤ m.tmod p * y := Int.mul_le_mul_of_nonneg_right hmb.1 (by omega)
          omega
        · have h1 : m.tmod p * y ≤ 1000000 * y := Int.mul_le_mul_of_nonneg_right hmb.2 (by omega)
          omega
      have e1 : IntKind.i64.wrap (m.tmod p * y) = m.tmod p * y := wrap_in (by omega) (by omega)
      have e2 : IntKind.i64.wrap (x + m.tmod p * y) = x + m.tmod p * y := wrap_in (by omega) (by omega)
      have e3 : IntKind.i64.wrap (m.tmod p) = m.tmod p := wrap_in (by omega) (by omega)
      have hE : Ext wr wr.drew := Ext.drew wr
      have hkI : (k : Int) < (n : Int) := by omega
      have hk0 : (0 : Int) ≤ (k : Int) := by omega
      have hp0 : ¬ p = 0 := by omega
      have hp1 : ¬ p = -1 := by omega
      clear b1 b2 hmy hgl
      go_wp2
      (refine walkR_start (fun w' => Ext wr w') 17 (by kernel_rfl) ?_; simp only [numbered, List.take_succ_cons, List.take_zero, Nat.zero_add, Nat.reduceAdd, List.length_cons, List.length_nil])
      (repeat (first | (refine walkR_still (v := ?_) rfl (by decide +kernel) rfl (fun _ _ _ h => h) hE ?_ ?_; rotate_left; (focus (intro w' hw'; obtain ⟨k0, k1, k2, k3⟩ := HC.out w' hw'; go_simp; all_goals (with_reducible rfl))); simp only [Act.put, List.setIfInBounds_toArray, List.set_cons_zero, List.set_cons_succ]) | (refine walkR_skip rfl (by decide +kernel) rfl (fun _ _ _ h => h) hE ?_; simp only [Act.put, List.setIfInBounds_toArray, List.set_cons_zero, List.set_cons_succ])))
      (refine walkR_only (fun w' => Ext wr w') rfl (by decide +kernel) rfl (fun _ h => h) ?_; intro K hK; go_simp; refine (HR.out _ _).mono ?_; rintro e w7 ⟨rfl, rfl⟩; refine hK _ _ (hE) ?_; clear hK K; (try simp only [Act.put, List.setIfInBounds_toArray, List.set_cons_zero, List.set_cons_succ]))
      obtain ⟨k0, k1, k2, k3⟩ := HC.out _ hE
      (refine walkR_tail (by rfl) (by kernel_rfl) ?_; simp only [List.drop_succ_cons, List.drop_zero])
      have HS3 := hidP (HSs.out _ hE)
      have HX3 : Hid (Ext w (wr.drew.setCell ⟨w.heap.size, k, none⟩ (.int .i64 ((x + m.tmod p * y) % p)))) := Ext.setNew (HX.out.trans hE) _ _ (Nat.le_refl _) _
      clear HSs HC k0 k1
      go_wp2
      go_roundw
      case rel => exact ⟨k + 1, by omega, by go_num, HS3, HX3⟩
      case measure => simp [intOf]; omega
    · obtain rfl : k = n := by omega
      have HD : Hid (partly (List.replicate k 0) (addL p X m Y) k = addL p X m Y) := partly_all _ _ _ (by simp) HN.out
      rw [HD.out] at HO
      go_wp2
      go_ret
      exact ⟨_, rfl, HO.out, HX.out⟩
end Go.Proofs.YtenlhfimdpcaoaaGreat

namespace Go.Proofs.YtenlhfimdpcaoaaGreat
open Go.RowKit

theorem recLt {r s x y : Nat} (hx : x < r) (hy : y < s) : x * s + y < r * s := by
  have h1 : (x + 1) * s ≤ r * s := Nat.mul_le_mul_right s hx
  rw [Nat.add_mul, Nat.one_mul] at h1
  omega

set_option maxHeartbeats 1000000 in
theorem aEqual_any (p1 r1 s1 p2 r2 s2 : Int) (a1 a2 : Option Addr) (n1 n2 c1 c2 : Nat) (xs ys : List Int) (w : World) (h1 : IntsAt w a1 n1 xs) (h2 : IntsAt w a2 n2 ys) (hm1 : n1 ≤ 9223372036854775807) (hm2 : n2 ≤ 9223372036854775807) :
    Calls Tryz.prog 33 #[matV p1 r1 s1 a1 n1 c1, matV p2 r2 s2 a2 n2 c2] w fun e w' => e = .returned (.bool (decide (p1 = p2 ∧ r1 = r2 ∧ s1 = s2 ∧ xs = ys))) ∧ Ext w w' := by
  by_cases hp : p1 = p2
  · have hp' : (p1 == p2) = true := by simp [hp]
    by_cases hr : r1 = r2
    · have hr' : (r1 == r2) = true := by simp [hr]
      by_cases hs : s1 = s2
      · have hs' : (s1 == s2) = true := by simp [hs]
        have HR : Hid (decide (p1 = p2 ∧ r1 = r2 ∧ s1 = s2 ∧ xs = ys) = (xs == ys)) := by
          show _ = _
          by_cases h : xs = ys <;> simp [hp, hr, hs, h]
        have HQ := hidP (fun w' (hx : Ext w w') => aInts_any a1 a2 n1 n2 c1 c2 xs ys w' (h1.below hx) (h2.below hx) hm1 hm2)
        clear hp hr hs h1 h2
        cases hb : (xs == ys)
        all_goals
          rw [hb] at HR HQ
          go_enter Tryz.func33, Tryz.ntmps33
          go_wp2_with fail
          refine (HQ.out _ ((Ext.alloc w _).trans (Ext.alloc _ _))).mono ?_
          rintro e w' ⟨rfl, hx⟩
          have HX := hidP (((Ext.alloc w _).trans (Ext.alloc _ _)).trans hx)
          clear hx
          go_wp2
          go_ret
          exact ⟨ret_bool HR.out.symm, HX.out⟩
      · have hs' : (s1 == s2) = false := by simp [hs]
        have HR : Hid (decide (p1 = p2 ∧ r1 = r2 ∧ s1 = s2 ∧ xs = ys) = false) := by
          show _ = _
          simp [hs]
        clear hp hr hs
        go_enter Tryz.func33, Tryz.ntmps33
        go_wp2
        go_ret
        exact ⟨ret_bool HR.out.symm, (Ext.alloc w _).trans (Ext.alloc _ _)⟩
    · have hr' : (r1 == r2) = false := by simp [hr]
      have HR : Hid (decide (p1 = p2 ∧ r1 = r2 ∧ s1 = s2 ∧ xs = ys) = false) := by
        show _ = _
        simp [hr]
      clear hp hr
      go_enter Tryz.func33, Tryz.ntmps33
      go_wp2
      go_ret
      exact ⟨ret_bool HR.out.symm, (Ext.alloc w _).trans (Ext.alloc _ _)⟩
  · have hp' : (p1 == p2) = false := by simp [hp]
    have HR : Hid (decide (p1 = p2 ∧ r1 = r2 ∧ s1 = s2 ∧ xs = ys) = false) := by
      show _ = _
      simp [hp]
    clear hp
    go_enter Tryz.func33, Tryz.ntmps33
    go_wp2
    go_ret
    exact ⟨ret_bool HR.out.symm, (Ext.alloc w _).trans (Ext.alloc _ _)⟩
/-- a vector under a matrix, as far as row i, column j -/
def undTo (p : Int) (s : Nat) (V M : List Int) (i j : Nat) : List Int := modL p s fun y => sumTo (if y < j then i + 1 else i) fun k => V.getD k 0 * M.getD (k * s + y) 0
def undL (p : Int) (r s : Nat) (V M : List Int) : List Int := modL p s fun y => sumTo r fun k => V.getD k 0 * M.getD (k * s + y) 0
theorem undTo_length (p : Int) (s : Nat) (V M : List Int) (i j : Nat) : (undTo p s V M i j).length = s := modL_length _ _ _
theorem undTo_zero (p : Int) (s : Nat) (V M : List Int) : undTo p s V M 0 0 = List.replicate s 0 := by
  unfold undTo
  rw [← modL_zero p]
  exact modL_congr fun y hy => by rw [if_neg (by omega)]; rfl
theorem undTo_next (p : Int) (s : Nat) (V M : List Int) (i : Nat) : undTo p s V M i s = undTo p s V M (i + 1) 0 := by
  unfold undTo
  exact modL_congr fun y hy => by rw [if_pos hy, if_neg (by omega)]
theorem undTo_all (p : Int) (r s : Nat) (V M : List Int) : undTo p s V M r 0 = undL p r s V M := by
  unfold undTo undL
  exact modL_congr fun y hy => by rw [if_neg (by omega)]
theorem undTo_step (p : Int) {s : Nat} (V M : List Int) (i j : Nat) :
    (undTo p s V M i j).set j (((undTo p s V M i j).getD j 0 + V.getD i 0 * M.getD (i * s + j) 0) % p) = undTo p s V M i (j + 1) := by
  refine ints_ext (by rw [List.length_set, undTo_length, undTo_length]) fun y hy => ?_
  rw [List.length_set, undTo_length] at hy
  rw [List.getD_eq_getElem?_getD, List.getElem?_set]
  by_cases e : j = y
  · subst e
    rw [if_pos rfl, if_pos (by rw [undTo_length]; exact hy)]
    unfold undTo
    rw [modL_get _ _ _ _ hy, modL_get _ _ _ _ hy, if_neg (by omega), if_pos (by omega), Int.emod_add_emod]
    rfl
  · rw [if_neg e, ← List.getD_eq_getElem?_getD]
    unfold undTo
    rw [modL_get _ _ _ _ hy, modL_get _ _ _ _ hy]
    by_cases h : y < j
    · rw [if_pos h, if_pos (by omega)]
    · rw [if_neg h, if_neg (by omega)]
theorem undTo_at {p : Int} (hp : 0 < p) {s : Nat} (V M : List Int) (i : Nat) (j : Nat) {y : Nat} (hy : y < s) : 0 ≤ (undTo p s V M i j).getD y 0 ∧ (undTo p s V M i j).getD y 0 < p :=
  Res.modL hp _ _ y (by rw [modL_length]; exact hy)
set_option maxHeartbeats 2000000 in
set_option maxRecDepth 100000 in
theorem aUnder_any (p : Int) (r s : Nat) (av a : Option Addr) (cv N c : Nat) (V M : List Int) (w : World) (hv : IntsAt w av r V) (h : IntsAt w a N M) (hN : N = r * s) (hp : primeB p = true) (hV : Res p V) (hM : Res p M) (hr : r ≤ 1000) (hs : s ≤ 1000) :
    Calls Tryz.prog 32 #[.slice av r cv, matV p r s a N c] w fun e w' => ∃ a', e = .returned (.slice a' s s) ∧ OwnI w' w.heap.size a' s s (undL p r s V M) ∧ Ext w w' := by
  obtain ⟨p2, p7⟩ := prime_bounds hp
  have hx1 := Ext.alloc w (.cells #[.int .i64 p, .int .i64 (r : Int), .int .i64 (s : Int), .slice a N c] 28)
  have hv1 := MatAt.new w w.heap.size rfl p r s a N c 28
  obtain ⟨w1, hw1⟩ : ∃ w1, w1 = w.alloc (.cells #[.int .i64 p, .int .i64 (r : Int), .int .i64 (s : Int), .slice a N c] 28) := ⟨_, rfl⟩
  have s1 : w1.heap.size = w.heap.size + 1 := by rw [hw1]; simp
  rw [← hw1] at hx1 hv1
  have hx0 := Ext.alloc w1 (.cells (Array.replicate s (.int .i64 0)) 3)
  have GV := hidP (hv.below hx1)
  have GM := hidP (h.below hx1)
  have LV := hidP hv.len
  have LM := hidP h.len
  have RV := hidP hV
  have RM := hidP hM
  have HN := hidP hN
  have HMt := hidP hv1
  have HM := hidP (OwnI.made w1 (w.heap.size + 1) s (by omega) (by unfold maxLen; omega))
  have hmk := make_ints s (by omega) (by omega) w1
  have HX1 := hidP hx1
  have HX0 := hidP hx0
  have HW1 : Hid (w.alloc (.cells #[.int .i64 p, .int .i64 (r : Int), .int .i64 (s : Int), .slice a N c] 28) = w1) := hw1.symm
  have HS1 := hidP s1
  obtain ⟨m0, m1, m2, m3⟩ := hv1
  clear hx1 hx0 hw1 s1 hv h hV hM hN hp
  go_enter Tryz.func32, Tryz.ntmps32
  go_wp2_with (with_reducible (refine stop_at 8 (by rfl) ?_))
  rw [HW1.out]
  clear HW1
  unfold Stopped
  simp only [Int.toNat_natCast] at *
  go_wp2
  obtain ⟨w2, hw2⟩ : ∃ w2, w2 = w1.alloc (.cells (Array.replicate s (.int .i64 0)) 3) := ⟨_, rfl⟩
  rw [← hw2] at HM HX0 ⊢
  rw [HS1.out] at HM ⊢
  clear hw2 hmk m0 m1 m2 m3
  rw [← undTo_zero p s V M] at HM
  go_loopw [6] (fun v6 wr => ∃ i : Nat, i ≤ r ∧ v6 = .int .i64 i ∧ Hid (OwnI wr (w.heap.size + 1) (some ⟨w.heap.size + 1, 0, none⟩) s s (undTo p s V M i 0)) ∧ Hid (Ext w1 wr)) (fun v6 _ => r - (intOf v6).toNat)
  case atStart => exact ⟨0, Nat.zero_le _, rfl, HM, HX0⟩
  case round =>
    clear HM
    obtain ⟨i, hi, rfl, HO, HX⟩ := hrel
    obtain ⟨m0, m1, m2, m3⟩ := HMt.out.below HX.out
    by_cases hir : i < r
    · have hiI : (i : Int) < (r : Int) := by omega
      go_wp2
      go_loopw [7] (fun v7 wr => ∃ j : Nat, j ≤ s ∧ v7 = .int .i64 j ∧ Hid (OwnI wr (w.heap.size + 1) (some ⟨w.heap.size + 1, 0, none⟩) s s (undTo p s V M i j)) ∧ Hid (Ext w1 wr)) (fun v7 _ => s - (intOf v7).toNat)
      case atStart => exact ⟨0, Nat.zero_le _, rfl, HO, HX⟩
      case round =>
        clear HO HX m0 m1 m2 m3
        obtain ⟨j, hj, rfl, HO, HX⟩ := hrel
        obtain ⟨m0, m1, m2, m3⟩ := HMt.out.below HX.out
        by_cases hjs : j < s
        · have hjI : (j : Int) < (s : Int) := by omega
          have htN : i * s + j < N := by rw [HN.out]; exact recLt hir hjs
          have hNb : N ≤ 1000 * 1000 := by rw [HN.out]; exact Nat.mul_le_mul hr hs
          have f1 : IntKind.i64.wrap ((i : Int) * s) = ((i * s : Nat) : Int) := by rw [← Int.natCast_mul]; exact wrap_in (by omega) (by omega)
          have f2 : IntKind.i64.wrap (((i * s : Nat) : Int) + j) = ((i * s + j : Nat) : Int) := by rw [← Int.natCast_add]; exact wrap_in (by omega) (by omega)
          obtain ⟨bm, om, rfl, qm⟩ := GM.out.one (i * s + j) htN
          obtain ⟨bv, ov, rfl, qv⟩ := GV.out.one i hir
          obtain ⟨g', e', _, hgl, r1, r2⟩ := HO.out.cell j hjs
          simp only [Option.some.injEq, Addr.mk.injEq, and_true] at e'
          subst e'
          have b1 := RV.out i (by have := LV.out; omega)
          have b2 := RM.out (i * s + j) (by have := LM.out; omega)
          have b3 := undTo_at (p := p) (by omega) V M i j hjs
          have hs3 := undTo_step p (s := s) V M i j
          obtain ⟨t, ht⟩ : ∃ t, t = i * s + j := ⟨_, rfl⟩
          rw [← ht] at htN f2 hs3 qm b2
          generalize i * s = y1 at f1 f2
          have htI : (t : Int) < (N : Int) := by omega
          have ht0 : (0 : Int) ≤ (t : Int) := by omega
          generalize (undTo p s V M i j).getD j 0 = x at *
          generalize V.getD i 0 = y at *
          generalize M.getD t 0 = z at *
          have hyz : 0 ≤ y * z ∧ y * z ≤ 10007 * 10007 := ⟨Int.mul_nonneg b1.1 b2.1, Int.le_trans (Int.mul_le_mul_of_nonneg_right (by omega) b2.1) (Int.mul_le_mul_of_nonneg_left (by omega) (by omega))⟩
          have e1 : IntKind.i64.wrap (y * z) = y * z := wrap_in (by omega) (by omega)
          have e2 : IntKind.i64.wrap (x + y * z) = x + y * z := wrap_in (by omega) (by omega)
          have e3 : (x + y * z).tmod p = (x + y * z) % p := Int.tmod_eq_emod_of_nonneg (by omega)
          have e4 : IntKind.i64.wrap ((x + y * z) % p) = (x + y * z) % p := by
            have h5 := Int.emod_nonneg (x + y * z) (show p ≠ 0 by omega)
            have h6 := Int.emod_lt_of_pos (x + y * z) (show 0 < p by omega)
            exact wrap_in (by omega) (by omega)
          have HSs : Hid (∀ w', Ext wr w' → OwnI (w'.setCell ⟨w.heap.size + 1, j, none⟩ (.int .i64 ((x + y * z) % p))) (w.heap.size + 1) (some ⟨w.heap.size + 1, 0, none⟩) s s (undTo p s V M i (j + 1))) := fun w' hx => by
            have h5 := (HO.out.below hx).stored j ((x + y * z) % p)
            rwa [hs3] at h5
          have HC := hidP (fun w' (hx : Ext wr w') => (⟨(HMt.out.below (HX.out.trans hx)), qm w' (HX.out.trans hx), qv w' (HX.out.trans hx), (hx.cell (p := ⟨w.heap.size + 1, j, none⟩) hgl).trans r1, (hx.frozen (p := ⟨w.heap.size + 1, j, none⟩) hgl).trans r2⟩ : _ ∧ _ ∧ _ ∧ _ ∧ _))
          have hp0 : ¬ p = 0 := by omega
          have hp1 : ¬ p = -1 := by omega
          have hE : Ext wr wr.drew := Ext.drew wr
          clear hs3 ht htN qm qv b1 b2 b3 hyz hgl r1 r2
          go_wp2
          clear m0 m1 m2 m3
          (refine walkR_start (fun w' => Ext wr w') 25 (by kernel_rfl) ?_; simp only [numbered, List.take_succ_cons, List.take_zero, Nat.zero_add, Nat.reduceAdd, List.length_cons, List.length_nil])
          (repeat (first | (refine walkR_still (v := ?_) rfl (by decide +kernel) rfl (fun _ _ _ h => h) hE ?_ ?_; rotate_left; (focus (intro w' hw'; obtain ⟨⟨x0, x1, x2, x3⟩, k0, k1, k2, k3⟩ := HC.out w' hw'; go_simp; all_goals (with_reducible rfl))); simp only [Act.put, List.setIfInBounds_toArray, List.set_cons_zero, List.set_cons_succ]) | (refine walkR_skip rfl (by decide +kernel) rfl (fun _ _ _ h => h) hE ?_; simp only [Act.put, List.setIfInBounds_toArray, List.set_cons_zero, List.set_cons_succ])))
          obtain ⟨⟨x0, x1, x2, x3⟩, k0, k1, k2, k3⟩ := HC.out _ hE
          (refine walkR_tail (by rfl) (by kernel_rfl) ?_; simp only [List.drop_succ_cons, List.drop_zero])
          have HS3 := hidP (HSs.out _ hE)
          have HX3 : Hid (Ext w1 (wr.drew.setCell ⟨w.heap.size + 1, j, none⟩ (.int .i64 ((x + y * z) % p)))) := Ext.setNew (HX.out.trans hE) _ _ (by have := HS1.out; omega) _
          clear HSs HC x0 x1 x2 x3
          go_wp2
          go_roundw
          case rel => exact ⟨j + 1, by omega, by go_num, HS3, HX3⟩
          case measure => simp [intOf]; omega
        · obtain rfl : s = j := by omega
          rw [undTo_next] at HO
          go_wp2
          go_roundw
          case rel => exact ⟨i + 1, by omega, by go_num, HO, HX⟩
          case measure => simp [intOf]; omega
    · obtain rfl : r = i := by omega
      rw [undTo_all] at HO
      go_wp2
      go_ret
      exact ⟨_, rfl, HO.out.base (Nat.le_succ _), HX1.out.trans HX.out⟩
end Go.Proofs.YtenlhfimdpcaoaaGreat

namespace Go.Proofs.YtenlhfimdpcaoaaGreat
open Go.RowKit

theorem splice_in (cur : List Value) (o i : Nat) (xs ys : List Value) (hx : ∀ j, j < xs.length → cur[o + j]? = xs[j]?) (hl : o + xs.length ≤ cur.length) (hi : i + ys.length ≤ xs.length) : splice cur (o + i) ys = splice cur o (splice xs i ys) := by
  apply List.ext_getElem?
  intro q
  simp only [splice, List.getElem?_append, List.length_take, List.getElem?_take, List.getElem?_drop, List.length_append, List.length_drop]
  by_cases h1 : q < o
  · rw [if_pos (by omega), if_pos (by omega), if_pos (by omega), if_pos h1]
  · by_cases h2 : q < o + i
    · rw [if_pos (by omega), if_pos h2, if_neg (by omega), if_pos (by omega), if_pos (by omega), if_pos (by omega)]
      have := hx (q - o) (by omega)
      rw [show o + (q - o) = q by omega] at this
      rw [this, show min o cur.length = o by omega]
    · by_cases h3 : q < o + i + ys.length
      · rw [if_neg (by omega), if_pos (by omega), if_neg (by omega), if_pos (by omega), if_neg (by omega), if_pos (by omega)]
        congr 1
        omega
      · rw [if_neg (by omega), if_neg (by omega), if_neg (by omega)]
        by_cases h4 : q < o + xs.length
        · rw [if_pos (by omega), if_neg (by omega), if_neg (by omega)]
          have := hx (q - o) (by omega)
          rw [show o + (q - o) = q by omega] at this
          rw [show o + i + ys.length + (q - min (o + i) cur.length - ys.length) = q by omega, this]
          congr 1
          omega
        · rw [if_neg (by omega)]
          congr 1
          omega
theorem ivs_splice (xs ys : List Int) (i : Nat) : ivs (splice xs i ys) = splice (ivs xs) i (ivs ys) := by
  simp [splice, ivs, List.map_take, List.map_drop]
theorem spliceI_length (xs ys : List Int) (i : Nat) (h : i + ys.length ≤ xs.length) : (splice xs i ys).length = xs.length := by simp [splice]; omega
theorem spliceI_get (xs ys : List Int) (i q : Nat) (h : i + ys.length ≤ xs.length) : (splice xs i ys).getD q 0 = if i ≤ q ∧ q < i + ys.length then ys.getD (q - i) 0 else xs.getD q 0 := by
  simp only [List.getD_eq_getElem?_getD, splice, List.getElem?_append, List.length_take, List.getElem?_take, List.getElem?_drop]
  rw [show min i xs.length = i by omega]
  by_cases h1 : q < i
  · rw [if_pos h1, if_pos h1, if_neg (by omega)]
  · rw [if_neg h1]
    by_cases h2 : q - i < ys.length
    · rw [if_pos h2, if_pos (by omega)]
    · rw [if_neg h2, if_neg (by omega)]
      congr 2
      omega
/-- a part of a slice, changed, is the slice changed -/
theorem UpdI.sub {w w' : World} {b o i n m : Nat} {xs ys : List Int} (h : UpdI w w' (some ⟨b, o + i, none⟩) m ys) (h0 : IntsAt w (some ⟨b, o, none⟩) n xs) (him : i + m ≤ n) (hm : 0 < m) : UpdI w w' (some ⟨b, o, none⟩) n (splice xs i ys) := by
  have hl := h.len
  have hl0 := h0.len
  refine ⟨h.os, h.tape, h.output, h.size, by rw [spliceI_length _ _ _ (by omega)]; exact hl0, fun k hk hne => h.other k hk fun b' o' e hm' => ?_, fun b' o' e hn => ?_⟩
  · simp only [Option.some.injEq, Addr.mk.injEq, and_true] at e
    obtain ⟨rfl, _⟩ := e
    exact hne b o rfl (by omega)
  · simp only [Option.some.injEq, Addr.mk.injEq, and_true] at e
    obtain ⟨rfl, rfl⟩ := e
    obtain ⟨cur, E, fr, h1, h2, h3⟩ := h.self b (o + i) rfl hm
    obtain ⟨cur', E', fr', g1, g2, _⟩ := (UpdI.start h0).self b o rfl hn
    rw [h1] at g1
    obtain ⟨rfl, rfl, rfl⟩ : cur = cur' ∧ E = E' ∧ fr = fr' := by simpa using g1
    refine ⟨cur, E, fr, h1, g2, ?_⟩
    rw [h3, ivs_splice, splice_in cur.toList o i (ivs xs) (ivs ys) (fun j hj => ?_) (by simp [ivs_length]; omega) (by simp [ivs_length]; omega)]
    rw [ivs_length] at hj
    have hc := h0.atc j (by omega)
    unfold World.cell? at hc
    rw [h1] at hc
    simp only [Option.isSome_none, Bool.false_eq_true, if_false] at hc
    rw [ivs_get xs j hj]
    simpa using hc
/-- rows ahead of i are done, row i as far as k -/
structure TimD (p : Int) (n : Nat) (A B : List Int) (i k : Nat) (T : List Int) : Prop where
  len : T.length = n * n
  on : ∀ x y, x < n → y < n → T.getD (x * n + y) 0 = if x < i then (mulRow p n A B x n).getD y 0 else if x = i then (mulRow p n A B i k).getD y 0 else 0
namespace TimD
variable {p : Int} {n : Nat} {A B : List Int} {i k : Nat} {T : List Int}
theorem zero (p : Int) (n : Nat) (A B : List Int) : TimD p n A B 0 0 (List.replicate (n * n) 0) := by
  refine ⟨List.length_replicate, fun x y _ hy => ?_⟩
  have hz : ∀ q, (List.replicate (n * n) (0 : Int)).getD q 0 = 0 := fun q => by
    rw [List.getD_eq_getElem?_getD, List.getElem?_replicate]
    split <;> rfl
  rw [hz, if_neg (by omega)]
  split
  · rw [mulRow_zero]
    rw [List.getD_eq_getElem?_getD, List.getElem?_replicate]
    split <;> rfl
  · rfl
theorem row (h : TimD p n A B i k T) (hi : i < n) : (T.drop (i * n)).take n = mulRow p n A B i k := by
  have hb : i * n + n ≤ T.length := by
    have h3 : (i + 1) * n ≤ n * n := Nat.mul_le_mul_right _ hi
    rw [Nat.add_mul, Nat.one_mul] at h3
    rw [h.len]
    exact h3
  refine ints_ext (by rw [List.length_take, List.length_drop, mulRow_length]; omega) fun y hy => ?_
  rw [List.length_take, List.length_drop] at hy
  have := h.on i y hi (by omega)
  rw [if_neg (by omega), if_pos rfl] at this
  rw [← this, List.getD_eq_getElem?_getD, List.getElem?_take, if_pos (by omega), List.getElem?_drop, List.getD_eq_getElem?_getD]
theorem step (h : TimD p n A B i k T) (hi : i < n) : TimD p n A B i (k + 1) (splice T (i * n) (mulRow p n A B i (k + 1))) := by
  have hb : i * n + (mulRow p n A B i (k + 1)).length ≤ T.length := by
    have h3 : (i + 1) * n ≤ n * n := Nat.mul_le_mul_right _ hi
    rw [Nat.add_mul, Nat.one_mul] at h3
    rw [h.len, mulRow_length]
    exact h3
  refine ⟨by rw [spliceI_length _ _ _ hb]; exact h.len, fun x y hx hy => ?_⟩
  rw [spliceI_get _ _ _ _ hb, mulRow_length]
  by_cases e : x = i
  · subst e
    rw [if_pos (by omega), if_neg (by omega), if_pos rfl, Nat.add_sub_cancel_left]
  · have hne : ¬ (i * n ≤ x * n + y ∧ x * n + y < i * n + n) := by
      rcases Nat.lt_or_gt_of_ne e with h1 | h1
      · have h2 : (x + 1) * n ≤ i * n := Nat.mul_le_mul_right _ h1
        rw [Nat.add_mul, Nat.one_mul] at h2
        omega
      · have h2 : (i + 1) * n ≤ x * n := Nat.mul_le_mul_right _ h1
        rw [Nat.add_mul, Nat.one_mul] at h2
        omega
    rw [if_neg hne, h.on x y hx hy, if_neg e, if_neg e]
theorem skip (h : TimD p n A B i k T) (h0 : entM n A i k = 0) : TimD p n A B i (k + 1) T :=
  ⟨h.len, fun x y hx hy => by rw [h.on x y hx hy, mulRow_skip _ _ _ _ _ _ h0]⟩
theorem next (h : TimD p n A B i n T) : TimD p n A B (i + 1) 0 T :=
  ⟨h.len, fun x y hx hy => by
    rw [h.on x y hx hy]
    by_cases h1 : x < i
    · rw [if_pos h1, if_pos (by omega)]
    · rw [if_neg h1]
      by_cases h2 : x = i
      · subst h2
        rw [if_pos rfl, if_pos (by omega)]
      · rw [if_neg h2, if_neg (by omega)]
        by_cases h3 : x = i + 1
        · rw [if_pos h3, mulRow_zero, List.getD_eq_getElem?_getD, List.getElem?_replicate]
          split <;> rfl
        · rw [if_neg h3]⟩
theorem all (h : TimD p n A B n 0 T) : T = mulM p n A B := by
  refine ints_ext (by rw [h.len, mulM_length]) fun q hq => ?_
  rw [h.len] at hq
  have hn : 0 < n := by
    rcases Nat.eq_zero_or_pos n with h0 | h0
    · subst h0; simp at hq
    · exact h0
  have h1 : q / n < n := Nat.div_lt_of_lt_mul hq
  have h2 : q % n < n := Nat.mod_lt _ hn
  have h3 := h.on (q / n) (q % n) h1 h2
  rw [Nat.div_add_mod', if_pos h1] at h3
  rw [h3, ← mulM_row p n A B _ h1, List.getD_eq_getElem?_getD, List.getElem?_take, if_pos h2, List.getElem?_drop, Nat.div_add_mod', List.getD_eq_getElem?_getD]
end TimD
theorem set4_gbT (w : World) (b : Nat) (v0 v1 v2 v3 : Value) : w.grownBy (set4 w b v0 v1 v2 v3) (some b) :=
  ⟨rfl, rfl, rfl, by simp [set4, World.setCell], fun k _ hk => by
    have e : k ≠ b := fun e => hk (by rw [e])
    unfold set4
    rw [Below.heap_setCell _ _ _ _ e, Below.heap_setCell _ _ _ _ e, Below.heap_setCell _ _ _ _ e, Below.heap_setCell _ _ _ _ e]⟩
theorem MatB.set4T {w : World} {b : Nat} {p r s : Int} {a : Option Addr} {n c : Nat} (h : MatB w b p r s a n c) (p' r' s' : Int) (a' : Option Addr) (n' c' : Nat) : MatB (Go.Proofs.YtenlhfimdpcaoaaGreat.set4 w b (.int .i64 p') (.int .i64 r') (.int .i64 s') (.slice a' n' c')) b p' r' s' a' n' c' :=
  heap_setCell_at _ b 3 _ _ _ _ (heap_setCell_at _ b 2 _ _ _ _ (heap_setCell_at _ b 1 _ _ _ _ (heap_setCell_at w b 0 _ _ _ _ h)))
set_option maxRecDepth 100000 in
set_option maxHeartbeats 8000000 in
theorem times_any (p : Int) (n : Nat) (a1 a2 : Option Addr) (N c1 c2 : Nat) (A B : List Int) (w : World) (hA : IntsAt w a1 N A) (hB : IntsAt w a2 N B) (hN : N = n * n) (hc : N ≤ c2) (hrA : Res p A) (hrB : Res p B) (hp : 2 ≤ p) (hp2 : p ≤ 10007) (hn : n ≤ 40) :
    Calls Tryz.prog 101 #[matV p n n a1 N c1, matV p n n a2 N c2] w fun e w' => ∃ a', e = .returned (matV p n n a' N N) ∧ OwnI w' w.heap.size a' N N (mulM p n A B) ∧ Ext w w' := by
  have hx1 := Ext.alloc w (.cells #[.int .i64 p, .int .i64 (n : Int), .int .i64 (n : Int), .slice a1 N c1] 28)
  have hv1 := MatAt.new w w.heap.size rfl p n n a1 N c1 28
  obtain ⟨w1, hw1⟩ : ∃ w1, w1 = w.alloc (.cells #[.int .i64 p, .int .i64 (n : Int), .int .i64 (n : Int), .slice a1 N c1] 28) := ⟨_, rfl⟩
  have s1 : w1.heap.size = w.heap.size + 1 := by rw [hw1]; simp
  rw [← hw1] at hx1 hv1
  have hx2 := Ext.alloc w1 (.cells #[.int .i64 p, .int .i64 (n : Int), .int .i64 (n : Int), .slice a2 N c2] 28)
  have hv2 := MatAt.new w1 w1.heap.size rfl p n n a2 N c2 28
  obtain ⟨w2, hw2⟩ : ∃ w2, w2 = w1.alloc (.cells #[.int .i64 p, .int .i64 (n : Int), .int .i64 (n : Int), .slice a2 N c2] 28) := ⟨_, rfl⟩
  have s2 : w2.heap.size = w.heap.size + 1 + 1 := by rw [hw2]; simp [s1]
  rw [← hw2] at hx2 hv2
  rw [s1] at hv2
  have hx3 := Ext.alloc w2 (.cells #[.int .i64 0, .int .i64 0, .int .i64 0, .slice none 0 0] 28)
  have hb3 := MatB.new w2 0 0 0 none 0 0
  obtain ⟨w3, hw3⟩ : ∃ w3, w3 = w2.alloc (.cells #[.int .i64 0, .int .i64 0, .int .i64 0, .slice none 0 0] 28) := ⟨_, rfl⟩
  have s3 : w3.heap.size = w.heap.size + 1 + 1 + 1 := by rw [hw3]; simp [s2]
  rw [← hw3] at hx3 hb3
  rw [s2] at hb3
  have HW1 : Hid (w.alloc (.cells #[.int .i64 p, .int .i64 (n : Int), .int .i64 (n : Int), .slice a1 N c1] 28) = w1) := hw1.symm
  have HW2 : Hid (w1.alloc (.cells #[.int .i64 p, .int .i64 (n : Int), .int .i64 (n : Int), .slice a2 N c2] 28) = w2) := hw2.symm
  have HW3 : Hid (w2.alloc (.cells #[.int .i64 0, .int .i64 0, .int .i64 0, .slice none 0 0] 28) = w3) := hw3.symm
  have HM1 := hidP ((hv1.below hx2).below hx3)
  have HM2 := hidP (hv2.below hx3)
  have HB3 := hidP hb3
  have hX := (hx1.trans hx2).trans hx3
  have HA := hidP (hA.below hX)
  have HB := hidP (hB.below hX)
  have HbA : Hid (∀ b o, a1 = some ⟨b, o, none⟩ → 0 < N → b < w.heap.size) := fun b o e h0 => by subst e; exact hA.block_lt h0
  have HbB : Hid (∀ b o, a2 = some ⟨b, o, none⟩ → 0 < N → b < w.heap.size) := fun b o e h0 => by subst e; exact hB.block_lt h0
  have HX := hidP hX
  have HS3 := hidP s3
  have HLA := hidP hA.len
  have HLB := hidP hB.len
  have HRA := hidP hrA
  have HRB := hidP hrB
  have hNb : N ≤ 1600 := by rw [hN]; exact Nat.mul_le_mul hn hn
  have hnn : IntKind.i64.wrap ((n : Int) * n) = (N : Int) := by rw [hN, Int.natCast_mul]; exact wrap_in (by rw [← Int.natCast_mul, ← hN]; omega) (by rw [← Int.natCast_mul, ← hN]; omega)
  have HN := hidP hN
  have HT0 := hidP (TimD.zero p n A B)
  rw [← hN] at HT0
  clear hx1 hx2 hx3 hv1 hv2 hb3 hw1 hw2 hw3 s1 s2 s3 hA hB hX hrA hrB hN
  go_enter Tryz.func101, Tryz.ntmps101
  go_wp2_with fail
  rw [HW1.out, HW2.out, HW3.out]
  clear HW1 HW2 HW3
  have hE : Ext w3 w3.drew := Ext.drew w3
  (refine walkR_start (fun w' => Ext w3 w') 14 (by kernel_rfl) ?_; simp only [numbered, List.take_succ_cons, List.take_zero, Nat.zero_add, Nat.reduceAdd, List.length_cons, List.length_nil])
  (repeat (first | (refine walkR_still (v := ?_) rfl (by decide +kernel) rfl (fun _ _ _ h => h) hE ?_ ?_; rotate_left; (focus (intro w' hw'; obtain ⟨⟨x0, x1, x2, x3⟩, ⟨y0, y1, y2, y3⟩⟩ := And.intro (HM1.out.below hw') (HM2.out.below hw'); go_simp; all_goals (with_reducible rfl))); simp only [Act.put, List.setIfInBounds_toArray, List.set_cons_zero, List.set_cons_succ]) | (refine walkR_skip rfl (by decide +kernel) rfl (fun _ _ _ h => h) hE ?_; simp only [Act.put, List.setIfInBounds_toArray, List.set_cons_zero, List.set_cons_succ])))
  have hmi := fun w' => make_ints (N : Int) (by omega) (by omega) w'
  simp only [Int.toNat_natCast] at hmi
  have hown : ∀ w', Ext w3 w' → OwnI (w'.alloc (.cells (Array.replicate N (.int .i64 0)) 3)) w3.heap.size (some ⟨w'.heap.size, 0, none⟩) N N (List.replicate N 0) := fun w' hx => (OwnI.made w' w'.heap.size N (Nat.le_refl _) (by unfold maxLen; omega)).base hx.size
  have hvar : ∀ w' : World, MatB (w'.alloc (.cells #[.int .i64 0, .int .i64 0, .int .i64 0, .slice none 0 0] 28)) w'.heap.size 0 0 0 none 0 0 := fun w' => MatB.new w' 0 0 0 none 0 0
  have HOwn := hidP hown
  have HVar := hidP hvar
  clear hown hvar
  refine walkR_three (fun v w' => ∃ g, v = .slice (some ⟨g, 0, none⟩) N N ∧ OwnI w' w3.heap.size (some ⟨g, 0, none⟩) N N (List.replicate N 0) ∧ g < w'.heap.size) (fun v u w' => ∃ g, v = .slice (some ⟨g, 0, none⟩) N N ∧ u = .agg #[.int .i64 p, .int .i64 n, .int .i64 n, .slice (some ⟨g, 0, none⟩) N N] ∧ OwnI w' w3.heap.size (some ⟨g, 0, none⟩) N N (List.replicate N 0) ∧ g < w'.heap.size) (fun z w' => ∃ b, z = .pointer (some ⟨b, 0, none⟩) ∧ MatB w' b 0 0 0 none 0 0 ∧ w3.heap.size ≤ b) (fun v z w' => ∃ g b, v = .slice (some ⟨g, 0, none⟩) N N ∧ z = .pointer (some ⟨b, 0, none⟩) ∧ OwnI w' w3.heap.size (some ⟨g, 0, none⟩) N N (List.replicate N 0) ∧ MatB w' b 0 0 0 none 0 0 ∧ w3.heap.size ≤ b ∧ b ≠ g) (fun v u z w' => ∃ g b, v = .slice (some ⟨g, 0, none⟩) N N ∧ u = .agg #[.int .i64 p, .int .i64 n, .int .i64 n, .slice (some ⟨g, 0, none⟩) N N] ∧ z = .pointer (some ⟨b, 0, none⟩) ∧ OwnI w' w3.heap.size (some ⟨g, 0, none⟩) N N (List.replicate N 0) ∧ MatB w' b 0 0 0 none 0 0 ∧ w3.heap.size ≤ b ∧ b ≠ g) rfl rfl rfl (by decide +kernel) rfl rfl rfl (by decide) (by decide) (fun _ => rfl) (fun _ => rfl) (fun _ => rfl) ?_ ?_ ?_ ?_ ?_ ?_ ?_ ?_
  · intro K hK
    go_simp
    exact hK _ _ (Below.drew (Ext.alloc w3 _)) ⟨_, rfl, (HOwn.out w3 (Ext.refl _)).below (Ext.drew _), by simp [World.drew]⟩
  · rintro v w4 hx4 ⟨g, rfl, ho, hg⟩ K hK
    go_simp
    exact hK _ _ hx4 ⟨g, rfl, rfl, ho, hg⟩
  · rintro v u w4 hx4 ⟨g, rfl, rfl, ho, hg⟩ K hK
    go_simp
    exact hK _ _ (hx4.trans (Ext.alloc w4 _)) ⟨g, _, rfl, rfl, rfl, ho.below (Ext.alloc w4 _), HVar.out w4, hx4.size, by omega⟩
  · rintro v w4 hx4 ⟨g, rfl, ho, hg⟩ K hK
    go_simp
    exact hK _ _ (hx4.trans (Ext.alloc w4 _)) ⟨g, _, rfl, rfl, ho.below (Ext.alloc w4 _), HVar.out w4, hx4.size, by omega⟩
  · rintro v z w4 hx4 ⟨g, b, rfl, rfl, ho, hv, hb, hne⟩ K hK
    go_simp
    exact hK _ _ hx4 ⟨g, b, rfl, rfl, rfl, ho, hv, hb, hne⟩
  · intro K hK
    go_simp
    exact hK _ _ (Below.drew (Ext.alloc w3 _)) ⟨_, rfl, (HVar.out w3).below (Ext.drew _), Nat.le_refl _⟩
  · rintro z w4 hx4 ⟨b, rfl, hv, hb⟩ K hK
    go_simp
    exact hK _ _ (hx4.trans (Ext.alloc w4 _)) ⟨_, b, rfl, rfl, HOwn.out w4 hx4, hv.below (Ext.alloc w4 _), hb, by have : b < w4.heap.size := hv.lt; omega⟩
  · rintro v u z w4 hx4 ⟨g, bm, rfl, rfl, rfl, ho4, hv4, hb4, hne4⟩
    (try simp only [Act.put, List.setIfInBounds_toArray, List.set_cons_zero, List.set_cons_succ])
    (refine walkR_tail (by rfl) (by kernel_rfl) ?_; simp only [List.drop_succ_cons, List.drop_zero])
    obtain ⟨z0, z1, z2, z3⟩ := hv4.at'
    have zf0 := hv4.fz 0
    have zf1 := hv4.fz 1
    have zf2 := hv4.fz 2
    have zf3 := hv4.fz 3
    have hg4 := set4_gbT w4 bm (.int .i64 p) (.int .i64 (n : Int)) (.int .i64 (n : Int)) (.slice (some ⟨g, 0, none⟩) N N)
    have hVm := hv4.set4T p n n (some ⟨g, 0, none⟩) N N
    have hOd := ho4.grown hg4 (fun b o e => by cases e; simpa using Ne.symm hne4)
    have hXd : Ext w3 (set4 w4 bm (.int .i64 p) (.int .i64 (n : Int)) (.int .i64 (n : Int)) (.slice (some ⟨g, 0, none⟩) N N)) := Below.grown hx4 hg4 hx4.size fun j hj => by cases hj; exact hb4
    obtain ⟨wd, hwd⟩ : ∃ wd, wd = set4 w4 bm (.int .i64 p) (.int .i64 (n : Int)) (.int .i64 (n : Int)) (.slice (some ⟨g, 0, none⟩) N N) := ⟨_, rfl⟩
    rw [← hwd] at hVm hOd hXd
    have HWd : Hid ((((w4.setCell ⟨bm, 0, none⟩ (.int .i64 p)).setCell ⟨bm, 1, none⟩ (.int .i64 (n : Int))).setCell ⟨bm, 2, none⟩ (.int .i64 (n : Int))).setCell ⟨bm, 3, none⟩ (.slice (some ⟨g, 0, none⟩) N N) = wd) := hwd.symm
    have hgH : w3.heap.size ≤ g := (hOd.at_base g 0 rfl).1
    have HVm := hidP hVm
    have HOd := hidP hOd
    have HXd := hidP hXd
    have HGH : Hid (w3.heap.size ≤ g ∧ bm ≠ g ∧ w3.heap.size ≤ bm) := ⟨hgH, hne4, hb4⟩
    have HM1d := hidP (HM1.out.below hXd)
    have HM2d := hidP (HM2.out.below hXd)
    have HB3d := hidP (HB3.out.below hXd)
    have HAd := hidP (HA.out.below hXd)
    have HBd := hidP (HB.out.below hXd)
    clear hgH hVm hOd hXd hg4 hwd hv4 ho4 hx4 hne4 hb4 hE
    go_wp2_with (with_reducible (refine stop_at 24 (by rfl) ?_))
    rw [HWd.out]
    clear HWd z0 z1 z2 z3 zf0 zf1 zf2 zf3
    unfold Stopped
    have hne : ∀ (ax : Option Addr) (Nx : Nat) (X : List Int), Hid (∀ b o, ax = some ⟨b, o, none⟩ → 0 < Nx → b < w.heap.size) → IntsAt wd ax Nx X → ∀ wr ys, UpdI wd wr (some ⟨g, 0, none⟩) N ys → IntsAt wr ax Nx X := by
      intro ax Nx X hb hi wr ys hu
      rcases Nat.eq_zero_or_pos Nx with h0 | h0
      · subst h0
        exact ⟨hi.len, fun i h => by omega⟩
      · exact hu.others hi fun b o b' o' e e' => by
          have h1 := HGH.out.1
          have h2 := hb.out b' o' e' h0
          have h3 := HS3.out
          cases e
          omega
    have HAr := hidP (fun wr ys hu => hne a1 N A HbA HAd.out wr ys hu)
    have HBr := hidP (fun wr ys hu => hne a2 N B HbB HBd.out wr ys hu)
    have HMs : Hid (∀ wr ys, UpdI wd wr (some ⟨g, 0, none⟩) N ys → MatAt wr w.heap.size p n n a1 N c1 ∧ MatAt wr (w.heap.size + 1) p n n a2 N c2 ∧ MatB wr bm p n n (some ⟨g, 0, none⟩) N N ∧ MatB wr (w.heap.size + 1 + 1) 0 0 0 none 0 0) := by
      intro wr ys hu
      have h1 := HGH.out
      have h3 := HS3.out
      exact ⟨HM1d.out.upd hu (fun b o e => by cases e; omega), HM2d.out.upd hu (fun b o e => by cases e; omega), HVm.out.upd hu (Ne.symm h1.2.1), HB3d.out.upd hu (by omega)⟩
    have HU0 : Hid (∃ T, UpdI wd wd (some ⟨g, 0, none⟩) N T ∧ TimD p n A B 0 0 T) := ⟨_, UpdI.start HOd.out.ints, HT0.out⟩
    clear hne HT0
    obtain ⟨m0, m1, m2, m3⟩ := HM1d.out
    go_wp2
    clear m0 m1 m2 m3
    go_loopw [25] (fun v7 wr => ∃ i : Nat, i ≤ n ∧ v7 = .int .i64 i ∧ Hid (∃ T, UpdI wd wr (some ⟨g, 0, none⟩) N T ∧ TimD p n A B i 0 T)) (fun v7 _ => n - (intOf v7).toNat)
    case atStart => exact ⟨0, Nat.zero_le _, rfl, HU0⟩
    case round =>
      clear HU0
      obtain ⟨i, hi, rfl, HU⟩ := hrel
      by_cases hin : i < n
      · have hiI : (i : Int) < (n : Int) := by omega
        obtain ⟨T, hu, hT⟩ := HU.out
        obtain ⟨⟨m0, m1, m2, m3⟩, ⟨q0, q1, q2, q3⟩, hbm, _⟩ := HMs.out wr _ hu
        obtain ⟨x0, x1, x2, x3⟩ := hbm.at'
        have hb : i * n + n ≤ N := by
          have h3 : (i + 1) * n ≤ n * n := Nat.mul_le_mul_right _ hin
          rw [Nat.add_mul, Nat.one_mul] at h3
          have := HN.out
          omega
        have f1 : IntKind.i64.wrap ((i : Int) * n) = ((i * n : Nat) : Int) := by rw [← Int.natCast_mul]; exact wrap_in (by omega) (by omega)
        have f2 : IntKind.i64.wrap (((i : Int) + 1) * n) = ((i * n + n : Nat) : Int) := by
          have e : ((i : Int) + 1) * n = ((i * n + n : Nat) : Int) := by rw [Int.add_mul, Int.one_mul]; simp
          rw [e]
          exact wrap_in (by omega) (by omega)
        obtain ⟨t, ht⟩ : ∃ t, t = i * n := ⟨_, rfl⟩
        have HTt := hidP ht
        rw [← ht] at hb f1 f2
        have hlt1 : t < N := by omega
        have hct : ¬ N = t := by omega
        have e6 : t + n - t = n := by omega
        clear hu hT hbm ht
        go_wp2
        simp only [e6]
        clear e6
        go_loopw [9, 42] (fun v9 v42 wr => ∃ k : Nat, k ≤ n ∧ v42 = .int .i64 k ∧ Hid (∃ T, UpdI wd wr (some ⟨g, 0, none⟩) N T ∧ TimD p n A B i k T)) (fun _ v42 _ => n - (intOf v42).toNat)
        case atStart => exact ⟨0, Nat.zero_le _, rfl, HU⟩
        case round =>
          clear HU m0 m1 m2 m3 q0 q1 q2 q3 x0 x1 x2 x3
          obtain ⟨k, hk, rfl, HU⟩ := hrel
          obtain ⟨T, hu, hT⟩ := HU.out
          obtain ⟨⟨m0, m1, m2, m3⟩, ⟨q0, q1, q2, q3⟩, hbm, _⟩ := HMs.out wr _ hu
          by_cases hkn : k < n
          · have hkI : (k : Int) < (n : Int) := by omega
            have hpl : t + k < N := by omega
            obtain ⟨ba, oa, rfl, hca⟩ := (HAr.out wr _ hu).get (t + k) hpl
            have hkb : k * n + n ≤ N := by
              have h3 : (k + 1) * n ≤ n * n := Nat.mul_le_mul_right _ hkn
              rw [Nat.add_mul, Nat.one_mul] at h3
              have := HN.out
              omega
            have f3 : IntKind.i64.wrap ((t : Int) + k) = ((t + k : Nat) : Int) := by rw [← Int.natCast_add]; exact wrap_in (by omega) (by omega)
            have hen : A.getD (t + k) 0 = entM n A i k := by unfold entM; rw [HTt.out]
            rw [hen] at hca
            by_cases h0 : entM n A i k = 0
            · have HU2 : Hid (∃ T, UpdI wd wr (some ⟨g, 0, none⟩) N T ∧ TimD p n A B i (k + 1) T) := ⟨T, hu, hT.skip h0⟩
              rw [h0] at hca
              have htk : ((t + k : Nat) : Int) < (N : Int) := by omega
              have htk0 : (0 : Int) ≤ ((t + k : Nat) : Int) := by omega
              generalize t + k = y at *
              clear hu hT hbm h0 hen HU
              go_wp2
              go_roundw
              case rel => exact ⟨k + 1, by omega, by go_num, HU2⟩
              case measure => simp [intOf]; omega
            · have hkn2 : i * n + k < n * n := place_lt hin hkn
              have hA0 := HRA.out (i * n + k) (by rw [HLA.out, HN.out]; exact hkn2)
              have hA0' : 0 ≤ entM n A i k ∧ entM n A i k < p := hA0
              have hst := hT.step hin
              rw [mulRow_succ] at hst
              have hrow := hT.row hin
              rw [← HTt.out] at hst hrow
              obtain ⟨bb, ob, rfl, _⟩ := (HBr.out wr _ hu).get 0 (by omega)
              have hbp := (HBr.out wr _ hu).part (k * n) n hkb
              have hgp := (hu.own HOd.out).ints.part t n hb
              rw [hrow] at hgp
              have hrB : ∀ j, j < n → 0 ≤ ((B.drop (k * n)).take n).getD j 0 ∧ ((B.drop (k * n)).take n).getD j 0 ≤ 1000000 := fun j hj => by
                have h5 := HRB.out.part (k * n) n j (by rw [List.length_take, List.length_drop, HLB.out]; omega)
                omega
              have hrR : ∀ j, j < n → 0 ≤ (mulRow p n A B i k).getD j 0 ∧ (mulRow p n A B i k).getD j 0 ≤ 1000000 := fun j hj => by
                have h5 := mulRow_res (p := p) (by omega) n A B i k j (by rw [mulRow_length]; exact hj)
                omega
              have hfz : ∀ w', Ext wr w' → ∀ q b o, q < n → (some ⟨g, 0 + t, none⟩ : Option Addr) = some ⟨b, o, none⟩ → w'.frozen? ⟨b, o + q, none⟩ = false := fun w' hx q b o hq e => by
                simp only [Option.some.injEq, Addr.mk.injEq, and_true] at e
                obtain ⟨rfl, rfl⟩ := e
                have := ((hu.ext hx).own HOd.out).unfrozen (t + q) g 0 (by omega) rfl
                rwa [← Nat.add_assoc] at this
              have hapart : bb ≠ g := by
                have h5 := HbB.out bb ob rfl (by omega)
                have h6 := HGH.out.1
                have h7 := HS3.out
                omega
              have hadd : ∀ w', Ext wr w' → Calls Tryz.prog 78 #[.slice (some ⟨g, t, none⟩) n (N - t), .int .i64 (entM n A i k), .slice (some ⟨bb, ob + k * n, none⟩) n (c2 - k * n), .int .i64 p] w' fun e w'' => e = .returned (.tuple #[]) ∧ ∃ T', UpdI wd w'' (some ⟨g, 0, none⟩) N T' ∧ TimD p n A B i (k + 1) T' := fun w' hx => by
                have h5 := addTo_any (some ⟨g, 0 + t, none⟩) (some ⟨bb, ob + k * n, none⟩) n (N - t) (c2 - k * n) _ _ (entM n A i k) p w' (hgp.below hx) (hbp.below hx) (hfz w' hx) (fun b o b' o' e e' => by cases e; cases e'; exact Ne.symm hapart) (by omega) hrR hrB hA0'.1 (by omega) (by omega) (by omega)
                rw [Nat.zero_add] at h5
                refine h5.mono ?_
                rintro e w'' ⟨rfl, hu5⟩
                refine ⟨rfl, _, ?_, hst⟩
                have hu6 : UpdI w' w'' (some ⟨g, 0 + t, none⟩) n (addL p (mulRow p n A B i k) (entM n A i k) ((B.drop (k * n)).take n)) := by rw [Nat.zero_add]; exact hu5
                exact (hu.ext hx).trans (UpdI.sub hu6 ((hu.ext hx).own HOd.out).ints hb (by omega))
              have HAdd := hidP hadd
              have HMr := hidP (fun w' (hx : Ext wr w') => HMs.out w' _ (hu.ext hx))
              have hkn3 : k * n ≤ 40 * 40 := Nat.mul_le_mul (by omega) hn
              have g1 : IntKind.i64.wrap ((k : Int) * n) = ((k * n : Nat) : Int) := by rw [← Int.natCast_mul]; exact wrap_in (by omega) (by omega)
              have g2 : IntKind.i64.wrap (((k : Int) + 1) * n) = ((k * n + n : Nat) : Int) := by
                have e : ((k : Int) + 1) * n = ((k * n + n : Nat) : Int) := by rw [Int.add_mul, Int.one_mul]; simp
                rw [e]
                exact wrap_in (by omega) (by omega)
              have g3 : IntKind.i64.wrap ((k : Int) + 1) = (k : Int) + 1 := wrap_in (by omega) (by omega)
              have hE : Ext wr wr.drew := Ext.drew wr
              clear hst hrow hbp hgp hrB hrR hfz hadd hu hT hbm HU hen hA0 hkn2
              have hz : (entM n A i k != 0) = true := by simpa using h0
              generalize entM n A i k = x at *
              obtain ⟨u, hu⟩ : ∃ u, u = k * n := ⟨_, rfl⟩
              rw [← hu] at hkb g1 g2 hkn3 HAdd
              clear hu
              have htk : ((t + k : Nat) : Int) < (N : Int) := by omega
              have htk0 : (0 : Int) ≤ ((t + k : Nat) : Int) := by omega
              generalize t + k = y at *
              have hu1 : u < c2 := by omega
              have hu3 : ¬ c2 = u := by omega
              obtain ⟨v, hv⟩ : ∃ v, v = u + n := ⟨_, rfl⟩
              have hu4 : v - u = n := by omega
              have hu5 : u ≤ v := by omega
              have hu2 : v ≤ c2 := by omega
              have hu6 : (v : Int) ≤ (c2 : Int) := by omega
              have hu7 : (0 : Int) ≤ (v : Int) := by omega
              rw [← hv] at g2
              clear hv hkb
              go_wp2
              clear m0 m1 m2 m3 q0 q1 q2 q3
              (refine walkR_start (fun w' => Ext wr w') 16 (by kernel_rfl) ?_; simp only [numbered, List.take_succ_cons, List.take_zero, Nat.zero_add, Nat.reduceAdd, List.length_cons, List.length_nil])
              (repeat (first | (refine walkR_still (v := ?_) rfl (by decide +kernel) rfl (fun _ _ _ h => h) hE ?_ ?_; rotate_left; (focus (intro w' hw'; obtain ⟨⟨m0, m1, m2, m3⟩, ⟨q0, q1, q2, q3⟩, _, _⟩ := HMr.out w' hw'; go_simp; all_goals (with_reducible rfl))); simp only [Act.put, List.setIfInBounds_toArray, List.set_cons_zero, List.set_cons_succ]) | (refine walkR_skip rfl (by decide +kernel) rfl (fun _ _ _ h => h) hE ?_; simp only [Act.put, List.setIfInBounds_toArray, List.set_cons_zero, List.set_cons_succ])))
              (refine walkR_tail (by rfl) (by kernel_rfl) ?_; simp only [List.drop_succ_cons, List.drop_zero])
              go_wp2_with fail
              refine (HAdd.out _ hE).mono ?_
              rintro e w7 ⟨rfl, HU2⟩
              have HU3 : Hid (∃ T, UpdI wd w7 (some ⟨g, 0, none⟩) N T ∧ TimD p n A B i (k + 1) T) := HU2
              clear HU2 HAdd HMr hE hu1 hu2 hu3 hu4 hu5 hu6 hu7 g1 g2 g3 htk htk0 hz h0 hA0' hpl f3 hkn3
              go_wp2
              go_roundw
              case rel => exact ⟨k + 1, by omega, by go_num, HU3⟩
              case measure => simp [intOf]; omega
          · obtain rfl : n = k := by omega
            have HU2 : Hid (∃ T, UpdI wd wr (some ⟨g, 0, none⟩) N T ∧ TimD p n A B (i + 1) 0 T) := ⟨T, hu, hT.next⟩
            clear hu hT hbm HU
            go_wp2
            go_roundw
            case rel => exact ⟨i + 1, by omega, by go_num, HU2⟩
            case measure => simp [intOf]; omega
      · obtain rfl : n = i := by omega
        obtain ⟨T, hu, hT⟩ := HU.out
        obtain ⟨_, _, hbm, hb3⟩ := HMs.out wr _ hu
        have HE : Hid (T = mulM p n A B) := hT.all
        have HO := hidP (hu.own HOd.out)
        have HXu := hidP (hu.below HXd.out HXd.out.size (fun b o e _ => (HOd.out.at_base b o e).1))
        have HSt := hidP (hb3.set4T p n n (some ⟨g, 0, none⟩) N N)
        have HSg := hidP (set4_gbT wr (w.heap.size + 1 + 1) (.int .i64 p) (.int .i64 (n : Int)) (.int .i64 (n : Int)) (.slice (some ⟨g, 0, none⟩) N N))
        obtain ⟨x0, x1, x2, x3⟩ := hbm.at'
        obtain ⟨z0, z1, z2, z3⟩ := hb3.at'
        have zf0 := hb3.fz 0
        have zf1 := hb3.fz 1
        have zf2 := hb3.fz 2
        have zf3 := hb3.fz 3
        clear hu hT hbm hb3 HU
        go_wp2
        obtain ⟨r0, r1, r2, r3⟩ := HSt.out.at'
        unfold set4 at r0 r1 r2 r3
        refine bodyPost_ret (v := matV p n n (some ⟨g, 0, none⟩) N N) (by simp [results, Tryz.results101, go_sem, r0, r1, r2, r3]) rfl ⟨_, rfl, ?_, ?_⟩
        · have h1 := HGH.out
          have h2 := HS3.out
          have h3 := HO.out.grown HSg.out (fun b o e => by cases e; simp; omega)
          rw [HE.out] at h3
          exact h3.base (by omega)
        · have h2 := HS3.out
          exact Below.grown (HX.out.trans HXu.out) HSg.out (Nat.le_trans HX.out.size HXu.out.size) fun j hj => by cases hj; omega
end Go.Proofs.YtenlhfimdpcaoaaGreat

namespace Go.Proofs.YtenlhfimdpcaoaaGreat
open Go.RowKit

set_option maxRecDepth 100000 in
set_option maxHeartbeats 8000000 in
theorem plus_any (p k r s p' r' s' : Int) (a1 a2 : Option Addr) (N c1 c2 : Nat) (A B : List Int) (w : World) (hA : IntsAt w a1 N A) (hB : IntsAt w a2 N B) (hnil : a1 = none → c1 = 0) (hN : N ≤ 1000000) (hrA : Res p A) (hrB : Res p B) (hp : 2 ≤ p) (hp2 : p ≤ 10007) (hk0 : 0 ≤ k) (hk : k ≤ p) (hbB : ∀ b o, a2 = some ⟨b, o, none⟩ → b < w.heap.size) :
    Calls Tryz.prog 100 #[matV p r s a1 N c1, .int .i64 k, matV p' r' s' a2 N c2] w fun e w' => ∃ a' c', e = .returned (matV p r s a' N c') ∧ OwnI w' w.heap.size a' N c' (addL p A k B) ∧ Ext w w' := by
  have hx1 := Ext.alloc w (.cells #[.int .i64 p, .int .i64 r, .int .i64 s, .slice a1 N c1] 28)
  have hv1 := MatAt.new w w.heap.size rfl p r s a1 N c1 28
  obtain ⟨w1, hw1⟩ : ∃ w1, w1 = w.alloc (.cells #[.int .i64 p, .int .i64 r, .int .i64 s, .slice a1 N c1] 28) := ⟨_, rfl⟩
  have s1 : w1.heap.size = w.heap.size + 1 := by rw [hw1]; simp
  rw [← hw1] at hx1 hv1
  have hx2 := Ext.alloc w1 (.cells #[.int .i64 p', .int .i64 r', .int .i64 s', .slice a2 N c2] 28)
  have hv2 := MatAt.new w1 w1.heap.size rfl p' r' s' a2 N c2 28
  obtain ⟨w2, hw2⟩ : ∃ w2, w2 = w1.alloc (.cells #[.int .i64 p', .int .i64 r', .int .i64 s', .slice a2 N c2] 28) := ⟨_, rfl⟩
  have s2 : w2.heap.size = w.heap.size + 1 + 1 := by rw [hw2]; simp [s1]
  rw [← hw2] at hx2 hv2
  rw [s1] at hv2
  have hx3 := Ext.alloc w2 (.cells #[.int .i64 0, .int .i64 0, .int .i64 0, .slice none 0 0] 28)
  have hb3 := MatB.new w2 0 0 0 none 0 0
  obtain ⟨w3, hw3⟩ : ∃ w3, w3 = w2.alloc (.cells #[.int .i64 0, .int .i64 0, .int .i64 0, .slice none 0 0] 28) := ⟨_, rfl⟩
  have s3 : w3.heap.size = w.heap.size + 1 + 1 + 1 := by rw [hw3]; simp [s2]
  rw [← hw3] at hx3 hb3
  rw [s2] at hb3
  have HW1 : Hid (w.alloc (.cells #[.int .i64 p, .int .i64 r, .int .i64 s, .slice a1 N c1] 28) = w1) := hw1.symm
  have HW2 : Hid (w1.alloc (.cells #[.int .i64 p', .int .i64 r', .int .i64 s', .slice a2 N c2] 28) = w2) := hw2.symm
  have HW3 : Hid (w2.alloc (.cells #[.int .i64 0, .int .i64 0, .int .i64 0, .slice none 0 0] 28) = w3) := hw3.symm
  have HM1 := hidP ((hv1.below hx2).below hx3)
  have HM2 := hidP (hv2.below hx3)
  have HB3 := hidP hb3
  have hX := (hx1.trans hx2).trans hx3
  have HB := hidP (hB.below hX)
  have HbB := hidP hbB
  have HX := hidP hX
  have HS3 := hidP s3
  have HLA := hidP hA.len
  have HLB := hidP hB.len
  have HRA := hidP hrA
  have HRB := hidP hrB
  have HCl := hidP (fun w' (hx : Ext w3 w') => clone_any a1 N c1 A w' ((hA.below hX).below hx) hnil (by omega))
  clear hx1 hx2 hx3 hv1 hv2 hb3 hw1 hw2 hw3 s1 s2 s3 hA hB hX hrA hrB hnil hbB
  go_enter Tryz.func100, Tryz.ntmps100
  go_wp2_with fail
  rw [HW1.out, HW2.out, HW3.out]
  clear HW1 HW2 HW3
  have hE : Ext w3 w3.drew := Ext.drew w3
  (refine walkR_start (fun w' => Ext w3 w') 11 (by kernel_rfl) ?_; simp only [numbered, List.take_succ_cons, List.take_zero, Nat.zero_add, Nat.reduceAdd, List.length_cons, List.length_nil])
  (repeat (first | (refine walkR_still (v := ?_) rfl (by decide +kernel) rfl (fun _ _ _ h => h) hE ?_ ?_; rotate_left; (focus (intro w' hw'; obtain ⟨x0, x1, x2, x3⟩ := HM1.out.below hw'; go_simp; all_goals (with_reducible rfl))); simp only [Act.put, List.setIfInBounds_toArray, List.set_cons_zero, List.set_cons_succ]) | (refine walkR_skip rfl (by decide +kernel) rfl (fun _ _ _ h => h) hE ?_; simp only [Act.put, List.setIfInBounds_toArray, List.set_cons_zero, List.set_cons_succ])))
  have hvar : ∀ w' : World, MatB (w'.alloc (.cells #[.int .i64 0, .int .i64 0, .int .i64 0, .slice none 0 0] 28)) w'.heap.size 0 0 0 none 0 0 := fun w' => MatB.new w' 0 0 0 none 0 0
  have HVar := hidP hvar
  clear hvar
  refine walkR_three (fun v w' => ∃ a4 c4, v = .slice a4 N c4 ∧ OwnI w' w3.heap.size a4 N c4 A) (fun v u w' => ∃ a4 c4, v = .slice a4 N c4 ∧ u = .agg #[.int .i64 p, .int .i64 r, .int .i64 s, .slice a4 N c4] ∧ OwnI w' w3.heap.size a4 N c4 A) (fun z w' => ∃ b, z = .pointer (some ⟨b, 0, none⟩) ∧ MatB w' b 0 0 0 none 0 0 ∧ w3.heap.size ≤ b) (fun v z w' => ∃ a4 c4 b, v = .slice a4 N c4 ∧ z = .pointer (some ⟨b, 0, none⟩) ∧ OwnI w' w3.heap.size a4 N c4 A ∧ MatB w' b 0 0 0 none 0 0 ∧ w3.heap.size ≤ b) (fun v u z w' => ∃ a4 c4 b, v = .slice a4 N c4 ∧ u = .agg #[.int .i64 p, .int .i64 r, .int .i64 s, .slice a4 N c4] ∧ z = .pointer (some ⟨b, 0, none⟩) ∧ OwnI w' w3.heap.size a4 N c4 A ∧ MatB w' b 0 0 0 none 0 0 ∧ w3.heap.size ≤ b) rfl rfl rfl (by decide +kernel) rfl rfl rfl (by decide) (by decide) (fun _ => rfl) (fun _ => rfl) (fun _ => rfl) ?_ ?_ ?_ ?_ ?_ ?_ ?_ ?_
  · intro K hK
    go_simp
    refine (HCl.out _ hE).mono ?_
    rintro e w4 ⟨a4, c4, rfl, ho4, hx4⟩
    exact hK _ _ (hE.trans hx4) ⟨_, _, rfl, ho4.base hE.size⟩
  · rintro v w4 hx4 ⟨a4, c4, rfl, ho⟩ K hK
    go_simp
    exact hK _ _ hx4 ⟨a4, c4, rfl, rfl, ho⟩
  · rintro v u w4 hx4 ⟨a4, c4, rfl, rfl, ho⟩ K hK
    go_simp
    exact hK _ _ (hx4.trans (Ext.alloc w4 _)) ⟨a4, c4, _, rfl, rfl, rfl, ho.below (Ext.alloc w4 _), HVar.out w4, hx4.size⟩
  · rintro v w4 hx4 ⟨a4, c4, rfl, ho⟩ K hK
    go_simp
    exact hK _ _ (hx4.trans (Ext.alloc w4 _)) ⟨a4, c4, _, rfl, rfl, ho.below (Ext.alloc w4 _), HVar.out w4, hx4.size⟩
  · rintro v z w4 hx4 ⟨a4, c4, b, rfl, rfl, ho, hv, hb⟩ K hK
    go_simp
    exact hK _ _ hx4 ⟨a4, c4, b, rfl, rfl, rfl, ho, hv, hb⟩
  · intro K hK
    go_simp
    exact hK _ _ (Below.drew (Ext.alloc w3 _)) ⟨_, rfl, (HVar.out w3).below (Ext.drew _), Nat.le_refl _⟩
  · rintro z w4 hx4 ⟨b, rfl, hv, hb⟩ K hK
    go_simp
    refine (HCl.out _ hx4).mono ?_
    rintro e w5 ⟨a4, c4, rfl, ho5, hx5⟩
    exact hK _ _ (hx4.trans hx5) ⟨a4, c4, b, rfl, rfl, ho5.base hx4.size, hv.below hx5, hb⟩
  · rintro v u z w4 hx4 ⟨a4, c4, bm, rfl, rfl, rfl, ho4, hv4, hb4⟩
    (try simp only [Act.put, List.setIfInBounds_toArray, List.set_cons_zero, List.set_cons_succ])
    (refine walkR_tail (by rfl) (by kernel_rfl) ?_; simp only [List.drop_succ_cons, List.drop_zero])
    obtain ⟨z0, z1, z2, z3⟩ := hv4.at'
    have zf0 := hv4.fz 0
    have zf1 := hv4.fz 1
    have zf2 := hv4.fz 2
    have zf3 := hv4.fz 3
    have hg4 := set4_gbT w4 bm (.int .i64 p) (.int .i64 r) (.int .i64 s) (.slice a4 N c4)
    have hVm := hv4.set4T p r s a4 N c4
    have hOd := ho4.grown hg4 (fun b o e => by simpa using hv4.ne ho4 e)
    have hXd : Ext w3 (set4 w4 bm (.int .i64 p) (.int .i64 r) (.int .i64 s) (.slice a4 N c4)) := Below.grown hx4 hg4 hx4.size fun j hj => by cases hj; exact hb4
    obtain ⟨wd, hwd⟩ : ∃ wd, wd = set4 w4 bm (.int .i64 p) (.int .i64 r) (.int .i64 s) (.slice a4 N c4) := ⟨_, rfl⟩
    rw [← hwd] at hVm hOd hXd
    have HWd : Hid ((((w4.setCell ⟨bm, 0, none⟩ (.int .i64 p)).setCell ⟨bm, 1, none⟩ (.int .i64 r)).setCell ⟨bm, 2, none⟩ (.int .i64 s)).setCell ⟨bm, 3, none⟩ (.slice a4 N c4) = wd) := hwd.symm
    have HVm := hidP hVm
    have HOd := hidP hOd
    have HXd := hidP hXd
    have HM1d := hidP (HM1.out.below hXd)
    have HM2d := hidP (HM2.out.below hXd)
    have HB3d := hidP (HB3.out.below hXd)
    have HBd := hidP (HB.out.below hXd)
    have HBm : Hid (w3.heap.size ≤ bm) := hb4
    clear hVm hOd hXd hg4 hwd hv4 ho4 hx4 hb4 hE
    go_wp2_with (with_reducible (refine stop_at 19 (by rfl) ?_))
    rw [HWd.out]
    clear HWd z0 z1 z2 z3 zf0 zf1 zf2 zf3
    unfold Stopped
    obtain ⟨m0, m1, m2, m3⟩ := HM1d.out
    obtain ⟨n0, n1, n2, n3⟩ := HM2d.out
    obtain ⟨x0, x1, x2, x3⟩ := HVm.out.at'
    have HAdd := hidP (addTo_any a4 a2 N c4 c2 A B k p wd HOd.out.ints HBd.out (fun i b o hi e => HOd.out.unfrozen i b o hi e) (fun b o b' o' e e' => by
      have h1 := (HOd.out.at_base b o e).1
      have h2 := HbB.out b' o' e'
      have h3 := HS3.out
      omega) (by omega) (fun j hj => by have := HRA.out j (by rw [HLA.out]; exact hj); omega) (fun j hj => by have := HRB.out j (by rw [HLB.out]; exact hj); omega) hk0 (by omega) (by omega) (by omega))
    go_wp2_with fail
    refine HAdd.out.mono ?_
    rintro e w5 ⟨rfl, hu5⟩
    have HO5 := hidP (hu5.own HOd.out)
    have HX5 := hidP (hu5.below HXd.out HXd.out.size (fun b o e _ => (HOd.out.at_base b o e).1))
    have hbm5 : MatB wd bm p r s a4 N c4 → MatB w5 bm p r s a4 N c4 := fun h => h.same (hu5.other bm h.lt fun b o e _ => Ne.symm (h.ne HOd.out e))
    have hb35 : MatB wd (w.heap.size + 1 + 1) 0 0 0 none 0 0 → MatB w5 (w.heap.size + 1 + 1) 0 0 0 none 0 0 := fun h => h.same (hu5.other _ h.lt fun b o e _ => Ne.symm (h.ne HOd.out e))
    have hbm := hbm5 HVm.out
    have hb3 := hb35 HB3d.out
    have HSt := hidP (hb3.set4T p r s a4 N c4)
    have HSg := hidP (set4_gbT w5 (w.heap.size + 1 + 1) (.int .i64 p) (.int .i64 r) (.int .i64 s) (.slice a4 N c4))
    have HNe := hidP (fun b o (e : a4 = some ⟨b, o, none⟩) => hb3.ne HO5.out e)
    clear m0 m1 m2 m3 n0 n1 n2 n3 x0 x1 x2 x3
    obtain ⟨x0, x1, x2, x3⟩ := hbm.at'
    obtain ⟨z0, z1, z2, z3⟩ := hb3.at'
    have zf0 := hb3.fz 0
    have zf1 := hb3.fz 1
    have zf2 := hb3.fz 2
    have zf3 := hb3.fz 3
    clear hu5 hbm hb3 hbm5 hb35 HAdd
    go_wp2
    obtain ⟨r0, r1, r2, r3⟩ := HSt.out.at'
    unfold set4 at r0 r1 r2 r3
    refine bodyPost_ret (v := matV p r s a4 N c4) (by simp [results, Tryz.results100, go_sem, r0, r1, r2, r3]) rfl ⟨_, _, rfl, ?_, ?_⟩
    · exact (HO5.out.grown HSg.out (fun b o e => by simpa using HNe.out b o e)).base HX.out.size
    · have h2 := HS3.out
      exact Below.grown (HX.out.trans HX5.out) HSg.out (Nat.le_trans HX.out.size HX5.out.size) fun j hj => by cases hj; omega
set_option maxHeartbeats 4000000 in
theorem commutator_ok (p : Int) (n : Nat) (a1 a2 : Option Addr) (N c1 c2 : Nat) (A B : List Int) (w : World) (hA : IntsAt w a1 N A) (hB : IntsAt w a2 N B) (hN : N = n * n) (hc1 : N ≤ c1) (hc2 : N ≤ c2) (hrA : Res p A) (hrB : Res p B) (hp : primeB p = true) (hn : n ≤ 40) :
    Calls Tryz.prog 31 #[matV p n n a1 N c1, matV p n n a2 N c2] w fun e w' => ∃ a' c', e = .returned (.tuple #[matV p n n a' N c', .bool true]) ∧ OwnI w' w.heap.size a' N c' (dueM p n A B) ∧ Ext w w' := by
  obtain ⟨p2, p7⟩ := prime_bounds hp
  have hMA : matB p n n A = true := matB_true.2 ⟨hp, ⟨by omega, by omega⟩, ⟨by omega, by omega⟩, by rw [hA.len, hN]; simp, hrA⟩
  have hMB : matB p n n B = true := matB_true.2 ⟨hp, ⟨by omega, by omega⟩, ⟨by omega, by omega⟩, by rw [hB.len, hN]; simp, hrB⟩
  have hx1 := Ext.alloc w (.cells #[.int .i64 p, .int .i64 (n : Int), .int .i64 (n : Int), .slice a1 N c1] 28)
  have hv1 := MatAt.new w w.heap.size rfl p n n a1 N c1 28
  obtain ⟨w1, hw1⟩ : ∃ w1, w1 = w.alloc (.cells #[.int .i64 p, .int .i64 (n : Int), .int .i64 (n : Int), .slice a1 N c1] 28) := ⟨_, rfl⟩
  have s1 : w1.heap.size = w.heap.size + 1 := by rw [hw1]; simp
  rw [← hw1] at hx1 hv1
  have hx2 := Ext.alloc w1 (.cells #[.int .i64 p, .int .i64 (n : Int), .int .i64 (n : Int), .slice a2 N c2] 28)
  have hv2 := MatAt.new w1 w1.heap.size rfl p n n a2 N c2 28
  obtain ⟨w2, hw2⟩ : ∃ w2, w2 = w1.alloc (.cells #[.int .i64 p, .int .i64 (n : Int), .int .i64 (n : Int), .slice a2 N c2] 28) := ⟨_, rfl⟩
  have s2 : w2.heap.size = w.heap.size + 1 + 1 := by rw [hw2]; simp [s1]
  rw [← hw2] at hx2 hv2
  rw [s1] at hv2
  have hx3 := Ext.alloc w2 (.cells #[.int .i64 0, .int .i64 0, .int .i64 0, .slice none 0 0] 28)
  have hb3 := MatB.new w2 0 0 0 none 0 0
  obtain ⟨w3, hw3⟩ : ∃ w3, w3 = w2.alloc (.cells #[.int .i64 0, .int .i64 0, .int .i64 0, .slice none 0 0] 28) := ⟨_, rfl⟩
  have s3 : w3.heap.size = w.heap.size + 1 + 1 + 1 := by rw [hw3]; simp [s2]
  rw [← hw3] at hx3 hb3
  rw [s2] at hb3
  have HW1 : Hid (w.alloc (.cells #[.int .i64 p, .int .i64 (n : Int), .int .i64 (n : Int), .slice a1 N c1] 28) = w1) := hw1.symm
  have HW2 : Hid (w1.alloc (.cells #[.int .i64 p, .int .i64 (n : Int), .int .i64 (n : Int), .slice a2 N c2] 28) = w2) := hw2.symm
  have HW3 : Hid (w2.alloc (.cells #[.int .i64 0, .int .i64 0, .int .i64 0, .slice none 0 0] 28) = w3) := hw3.symm
  have hX := (hx1.trans hx2).trans hx3
  have HM1 := hidP ((hv1.below hx2).below hx3)
  have HM2 := hidP (hv2.below hx3)
  have HB3 := hidP hb3
  have HA := hidP (hA.below hX)
  have HB := hidP (hB.below hX)
  have HX := hidP hX
  have HS3 := hidP s3
  have hNb : N ≤ 1600 := by rw [hN]; exact Nat.mul_le_mul hn hn
  have HO1 := hidP (fun w' (hx : Ext w3 w') => matrixOk_any p n n a1 N c1 A w' (HA.out.below hx) (by omega))
  have HO2 := hidP (fun w' (hx : Ext w3 w') => matrixOk_any p n n a2 N c2 B w' (HB.out.below hx) (by omega))
  rw [hMA] at HO1
  rw [hMB] at HO2
  have HT1 := hidP (fun w' (hx : Ext w3 w') => times_any p n a1 a2 N c1 c2 A B w' (HA.out.below hx) (HB.out.below hx) hN hc2 hrA hrB p2 p7 hn)
  have HT2 := hidP (fun w' (hx : Ext w3 w') => times_any p n a2 a1 N c2 c1 B A w' (HB.out.below hx) (HA.out.below hx) hN hc1 hrB hrA p2 p7 hn)
  clear hx1 hx2 hx3 hv1 hv2 hb3 hw1 hw2 hw3 s1 s2 s3 hA hB hX hrA hrB hMA hMB hN
  obtain ⟨m0, m1, m2, m3⟩ := HM1.out
  obtain ⟨n0, n1, n2, n3⟩ := HM2.out
  go_enter Tryz.func31, Tryz.ntmps31
  go_wp2_with fail
  rw [HW1.out, HW2.out, HW3.out]
  clear HW1 HW2 HW3
  refine (HO1.out _ (Ext.refl _)).mono ?_
  rintro e w4 ⟨rfl, hx4⟩
  have HX4 := hidP hx4
  obtain ⟨m0', m1', m2', m3'⟩ := HM1.out.below hx4
  obtain ⟨n0', n1', n2', n3'⟩ := HM2.out.below hx4
  clear m0 m1 m2 m3 n0 n1 n2 n3 hx4
  go_wp2_with fail
  refine (HO2.out _ HX4.out).mono ?_
  rintro e w5 ⟨rfl, hx5⟩
  have HX5 := hidP (HX4.out.trans hx5)
  obtain ⟨m0, m1, m2, m3⟩ := HM1.out.below HX5.out
  obtain ⟨n0, n1, n2, n3⟩ := HM2.out.below HX5.out
  clear m0' m1' m2' m3' n0' n1' n2' n3' hx5
  go_wp2
  have hE5 : Ext w5 w5.drew := Ext.drew w5
  have hp1 : IntKind.i64.wrap (p - 1) = p - 1 := wrap_in (by omega) (by omega)
  clear m0 m1 m2 m3 n0 n1 n2 n3
  have hE : Ext w3 w5.drew := HX5.out.trans hE5
  (refine walkR_start (fun w' => Ext w3 w') 10 (by kernel_rfl) ?_; simp only [numbered, List.take_succ_cons, List.take_zero, Nat.zero_add, Nat.reduceAdd, List.length_cons, List.length_nil])
  (repeat (first | (refine walkR_still (v := ?_) rfl (by decide +kernel) rfl (fun _ _ _ h => h) hE ?_ ?_; rotate_left; (focus (intro w' hw'; obtain ⟨⟨m0, m1, m2, m3⟩, ⟨n0, n1, n2, n3⟩⟩ := And.intro (HM1.out.below hw') (HM2.out.below hw'); go_simp; all_goals (with_reducible rfl))); simp only [Act.put, List.setIfInBounds_toArray, List.set_cons_zero, List.set_cons_succ]) | (refine walkR_skip rfl (by decide +kernel) rfl (fun _ _ _ h => h) hE ?_; simp only [Act.put, List.setIfInBounds_toArray, List.set_cons_zero, List.set_cons_succ])))
  (refine walkR_later ?_; simp only [List.cons_append, List.nil_append])
  (repeat (first | (refine walkR_still (v := ?_) rfl (by decide +kernel) rfl (fun _ _ _ h => h) hE ?_ ?_; rotate_left; (focus (intro w' hw'; obtain ⟨⟨m0, m1, m2, m3⟩, ⟨n0, n1, n2, n3⟩⟩ := And.intro (HM1.out.below hw') (HM2.out.below hw'); go_simp; all_goals (with_reducible rfl))); simp only [Act.put, List.setIfInBounds_toArray, List.set_cons_zero, List.set_cons_succ]) | (refine walkR_skip rfl (by decide +kernel) rfl (fun _ _ _ h => h) hE ?_; simp only [Act.put, List.setIfInBounds_toArray, List.set_cons_zero, List.set_cons_succ])))
  (refine walkR_later ?_; simp only [List.cons_append, List.nil_append]); (refine walkR_later ?_; simp only [List.cons_append, List.nil_append])
  (refine walkR_only (fun w' => Ext w3 w') rfl (by decide +kernel) rfl (fun _ h => h) ?_; intro K hK; go_simp; refine (HT1.out _ hE).mono ?_; rintro e w7 ⟨a7, rfl, ho7, hx7⟩; refine hK _ _ (hE.trans hx7) ?_; clear hK K; (try simp only [Act.put, List.setIfInBounds_toArray, List.set_cons_zero, List.set_cons_succ]))
  have hE7 := hE.trans hx7
  (refine walkR_only (fun w' => Ext w3 w') rfl (by decide +kernel) rfl (fun _ h => h) ?_; intro K hK; go_simp; refine (HT2.out _ hE7).mono ?_; rintro e w8 ⟨a8, rfl, ho8, hx8⟩; refine hK _ _ (hE7.trans hx8) ?_; clear hK K; (try simp only [Act.put, List.setIfInBounds_toArray, List.set_cons_zero, List.set_cons_succ]))
  have hE8 := hE7.trans hx8
  have HPl := hidP (plus_any p (p - 1) n n p n n a7 a8 N N N _ _ w8 (ho7.ints.below hx8) ho8.ints ho7.nil_cap (by omega) (mulM_res (by omega) n A B) (mulM_res (by omega) n B A) p2 p7 (by omega) (by omega) (fun b o e => (ho8.at_base b o e).2))
  (refine walkR_only (fun w' => Ext w3 w') rfl (by decide +kernel) rfl (fun _ h => h) ?_; intro K hK; go_simp; refine (HPl.out).mono ?_; rintro e w9 ⟨a9, c9, rfl, ho9, hx9⟩; refine hK _ _ (hE8.trans hx9) ?_; clear hK K; (try simp only [Act.put, List.setIfInBounds_toArray, List.set_cons_zero, List.set_cons_succ]))
  have hE9 := hE8.trans hx9
  (refine walkR_tail (by rfl) (by kernel_rfl) ?_; simp only [List.drop_succ_cons, List.drop_zero])
  have hb3 := HB3.out.below hE9
  have HSt := hidP (hb3.set4T p n n a9 N c9)
  have HSg := hidP (set4_gbT w9 (w.heap.size + 1 + 1) (.int .i64 p) (.int .i64 (n : Int)) (.int .i64 (n : Int)) (.slice a9 N c9))
  have HNe := hidP (fun b o (e : a9 = some ⟨b, o, none⟩) => hb3.ne ho9 e)
  have HO9 := hidP ho9
  have HX9 := hidP hE9
  have HX38 := hidP hE8.size
  obtain ⟨z0, z1, z2, z3⟩ := hb3.at'
  have zf0 := hb3.fz 0
  have zf1 := hb3.fz 1
  have zf2 := hb3.fz 2
  have zf3 := hb3.fz 3
  clear hb3 ho9 hE9 hE8 hE7 hE hx9 hx8 hx7 ho7 ho8 HPl hE5 HT1 HT2
  go_wp2
  obtain ⟨r0, r1, r2, r3⟩ := HSt.out.at'
  unfold set4 at r0 r1 r2 r3
  refine bodyPost_ret (v := .tuple #[matV p n n a9 N c9, .bool true]) (by simp [results, Tryz.results31, go_sem, r0, r1, r2, r3]) rfl ⟨_, _, rfl, ?_, ?_⟩
  · exact (HO9.out.grown HSg.out (fun b o e => by simpa using HNe.out b o e)).base (Nat.le_trans HX.out.size HX38.out)
  · have h2 := HS3.out
    exact Below.grown (HX.out.trans HX9.out) HSg.out (Nat.le_trans HX.out.size HX9.out.size) fun j hj => by cases hj; omega
end Go.Proofs.YtenlhfimdpcaoaaGreat

namespace Go.Proofs.YtenlhfimdpcaoaaGreat.fnBracketed
open Go.ChangeShapes Go.WideShapes Go.ChangeAt Go.RowKit
set_option linter.unusedVariables false

theorem zeroB_rep (d : Nat) : zeroB (List.replicate d 0) = true := zeroB_true.2 fun i hi => by
  rw [List.getD_eq_getElem?_getD, List.getElem?_replicate]
  split <;> rfl
theorem brL_res {p : Int} (hp : 0 < p) (t : List Int) (d : Nat) (x y : List Int) : Res p (brL p t d x y) := Res.modL hp _ _
theorem addL_res {p : Int} (hp : 0 < p) (x y : List Int) (k : Int) : Res p (addL p x k y) := Res.modL hp _ _
structure Facts (p : Int) (d : Nat) (t x y z : List Int) : Prop where
  self : zeroB (brL p t d x x) = true
  anti : zeroB (addL p (brL p t d x y) 1 (brL p t d y x)) = true
  lin : (brL p t d (addL p x 3 z) y == addL p (brL p t d x y) 3 (brL p t d z y)) = true
  jac : zeroB (addL p (addL p (brL p t d (brL p t d x y) z) 1 (brL p t d (brL p t d y z) x)) 1 (brL p t d (brL p t d z x) y)) = true
  und : (undL p d d y (adM p t d x) == brL p t d x y) = true
  com : dueM p d (adM p t d y) (adM p t d x) = adM p t d (brL p t d x y)
theorem facts {p : Int} {d : Nat} {t x y z : List Int} (hok : algB p d t = true) (hx : x.length = d) : Facts p d t x y z := by
  have hL := lieT_of hok
  rw [Int.toNat_natCast] at hL
  refine ⟨?_, ?_, ?_, ?_, ?_, ad_br hL x y⟩
  · rw [br_self hL x]
    exact zeroB_rep d
  · rw [br_anti hL x y]
    exact zeroB_rep d
  · rw [br_lin x z y 3 hx]
    exact beq_self_eq_true _
  · rw [br_jacobi hL x y z]
    exact zeroB_rep d
  · have h : undL p d d y (adM p t d x) = brL p t d x y := under_ad x y
    rw [h]
    exact beq_self_eq_true _
set_option maxRecDepth 100000 in
set_option maxHeartbeats 20000000 in
theorem walk (a : Option Addr) (n c : Nat) (bs : List Int) (w : World) (h : BytesAt w a n bs) (hnn : n ≤ 9223372036854775807) :
    Calls Tryz.prog 5 #[.slice a n c] w fun e w' => e = .returned (.bool true) ∧ Ext w w' := by
  by_cases hbig : 1048576 < n
  · have hb : decide (1048576 < n) = true := by simpa using hbig
    have HB := hidP (big_any a n c w)
    rw [hb] at HB
    clear h hb
    go_enter Tryz.func5, Tryz.ntmps5
    go_wp2_with (go_at_call 10; refine HB.out.mono ?_; rintro e w' ⟨rfl, rfl⟩)
    go_ret
    exact ⟨rfl, Ext.refl _⟩
  · have hb : decide (1048576 < n) = false := by simpa using hbig
    have HB := hidP (big_any a n c w)
    rw [hb] at HB
    have HD := hidP (drawAlgebra_any a n c bs w h (by omega))
    clear h hb
    go_enter Tryz.func5, Tryz.ntmps5
    go_wp2_with fail
    refine HB.out.mono ?_
    rintro e w' ⟨rfl, rfl⟩
    go_wp2_with fail
    refine HD.out.mono ?_
    rintro e w2 ⟨p, d, aT, N, cT, t, ax, cx, xs, ay, cy, ys, az, cz, zs, rfl, hA, hX, hY, hZ, hx2⟩
    have hp := drawP_prime p hA.mem
    obtain ⟨p2, p7⟩ := prime_bounds hp
    have hd6 := hA.le
    have hF := facts (y := ys) (z := zs) hA.ok hX.own.len
    have hxa := Ext.alloc w2 (.cells #[.int .i64 p, .int .i64 (d : Int), .slice aT N cT] 26)
    have hAt := AlgAt.new w2 w2.heap.size rfl p d aT N cT 26
    obtain ⟨w3, hw3⟩ : ∃ w3, w3 = w2.alloc (.cells #[.int .i64 p, .int .i64 (d : Int), .slice aT N cT] 26) := ⟨_, rfl⟩
    rw [← hw3] at hxa hAt
    obtain ⟨b3, hb3⟩ : ∃ b3, b3 = w2.heap.size := ⟨_, rfl⟩
    rw [← hb3] at hAt
    have HW3 : Hid (w2.alloc (.cells #[.int .i64 p, .int .i64 (d : Int), .slice aT N cT] 26) = w3) := hw3.symm
    have HB3 : Hid (w2.heap.size = b3) := hb3.symm
    have HAt := hidP (fun w' (hx : Ext w3 w') => hAt.below hx)
    have HT := hidP (fun w' (hx : Ext w3 w') => (hA.own.below (hxa.trans hx)).ints)
    have IX := hidP (fun w' (hx : Ext w3 w') => (hX.own.below (hxa.trans hx)).ints)
    have IY := hidP (fun w' (hx : Ext w3 w') => (hY.own.below (hxa.trans hx)).ints)
    have IZ := hidP (fun w' (hx : Ext w3 w') => (hZ.own.below (hxa.trans hx)).ints)
    have RX := hidP hX.res
    have RY := hidP hY.res
    have RZ := hidP hZ.res
    have HF := hidP hF
    have HX3 := hidP (hx2.trans hxa)
    have hNc := hA.own.caps
    have hNb : N ≤ 216 := by
      have h1 := hA.own.len
      have h2 := algB_dim hA.ok
      have h3 : d * d * d ≤ 6 * 6 * 6 := Nat.mul_le_mul (Nat.mul_le_mul hA.le hA.le) hA.le
      omega
    have HAo : Hid (∀ w', Ext w3 w' → Calls Tryz.prog 14 #[algV p d aT N cT] w' fun e w'' => e = .returned (.bool true) ∧ Ext w' w'') := fun w' hx' => by
      have h1 := algebraOk_any p d aT N cT t w' (HT.out w' hx') hNc.1 hNc.2
      rwa [hA.ok] at h1
    have HBr := hidP (fun w' (hx : Ext w3 w') (au av : Option Addr) (cu cv : Nat) (u v : List Int) (iu : IntsAt w' au d u) (iv : IntsAt w' av d v) (ru : Res p u) (rv : Res p v) => bracketOf_ok p d aT au av N cT cu cv t u v w' (HT.out w' hx) hNc.1 hNc.2 iu iv hA.ok ru rv)
    have HAd := hidP (fun w' (hx : Ext w3 w') (au : Option Addr) (cu : Nat) (u : List Int) (iu : IntsAt w' au d u) (ru : Res p u) => adjointOf_ok p d aT au N cT cu t u w' (HT.out w' hx) hNc.1 hNc.2 iu hA.ok ru)
    have HSu := hidP (fun w' (au av : Option Addr) (cu cv : Nat) (u v : List Int) (m : Int) (iu : IntsAt w' au d u) (iv : IntsAt w' av d v) (ru : Res p u) (rv : Res p v) (hm : -1000000 ≤ m) (hm2 : m ≤ 1000000) => aSum_any p m au av d cu cv u v w' iu iv (by omega) hp ru rv hm hm2)
    -- BODY
    have HZe : Hid (∀ w' (a' : Option Addr) (c' : Nat) (us : List Int), IntsAt w' a' d us → zeroB us = true → Calls Tryz.prog 26 #[.slice a' d c'] w' fun e w'' => e = .returned (.bool true) ∧ Ext w' w'') := fun w' a' c' us hi hz => by
      have h1 := aZeros_any a' d c' us w' hi (by omega)
      rwa [hz] at h1
    have HIn : Hid (∀ w' (a1 a2 : Option Addr) (c1 c2 : Nat) (us vs : List Int), IntsAt w' a1 d us → IntsAt w' a2 d vs → (us == vs) = true → Calls Tryz.prog 29 #[.slice a1 d c1, .slice a2 d c2] w' fun e w'' => e = .returned (.bool true) ∧ Ext w' w'') := fun w' a1 a2 c1 c2 us vs h1 h2 hz => by
      have h3 := aInts_any a1 a2 d d c1 c2 us vs w' h1 h2 (by omega) (by omega)
      rwa [hz] at h3
    have HUn := hidP (fun w' (av am : Option Addr) (cv M cm : Nat) (V Q : List Int) (iv : IntsAt w' av d V) (im : IntsAt w' am M Q) (hM : M = d * d) (rv : Res p V) (rm : Res p Q) => aUnder_any p d d av am cv M cm V Q w' iv im hM hp rv rm (by omega) (by omega))
    have HCo := hidP (fun w' (a1 a2 : Option Addr) (M c1 c2 : Nat) (Q1 Q2 : List Int) (i1 : IntsAt w' a1 M Q1) (i2 : IntsAt w' a2 M Q2) (hM : M = d * d) (k1 : M ≤ c1) (k2 : M ≤ c2) (r1 : Res p Q1) (r2 : Res p Q2) => commutator_ok p d a1 a2 M c1 c2 Q1 Q2 w' i1 i2 hM k1 k2 r1 r2 hp (by omega))
    have HEq : Hid (∀ w' (a1 a2 : Option Addr) (n1 n2 c1 c2 : Nat) (us vs : List Int), IntsAt w' a1 n1 us → IntsAt w' a2 n2 vs → n1 ≤ 9223372036854775807 → n2 ≤ 9223372036854775807 → us = vs → Calls Tryz.prog 33 #[matV p d d a1 n1 c1, matV p d d a2 n2 c2] w' fun e w'' => e = .returned (.bool true) ∧ Ext w' w'') := fun w' a1 a2 n1 n2 c1 c2 us vs h1 h2 l1 l2 hz => by
      have h3 := aEqual_any p d d p d d a1 a2 n1 n2 c1 c2 us vs w' h1 h2 l1 l2
      rwa [decide_eq_true ⟨rfl, rfl, rfl, hz⟩] at h3
    have HP0 : Hid (0 < p) := (by omega : 0 < p)
    obtain ⟨ND, hND⟩ : ∃ ND, ND = d * d := ⟨_, rfl⟩
    have HND := hidP hND
    clear hND
    clear hA hX hY hZ hx2 hxa hAt hw3 hb3 hF hp HB HD
    go_wp2_with (with_reducible (refine stop_at 22 (by rfl) ?_))
    rw [HW3.out, HB3.out]
    clear HW3 HB3
    unfold Stopped
    obtain ⟨m0, m1, m2⟩ := HAt.out w3 (Ext.refl _)
    go_wp2_with fail
    refine (HAo.out w3 (Ext.refl _)).mono ?_
    rintro e w4 ⟨rfl, hx4⟩
    have HE4 := hidP hx4
    clear m0 m1 m2 hx4
    obtain ⟨m0, m1, m2⟩ := HAt.out w4 HE4.out
    go_wp2_with fail
    refine (HBr.out w4 HE4.out _ _ _ _ _ _ (IX.out w4 HE4.out) (IX.out w4 HE4.out) RX.out RX.out).mono ?_
    rintro e w5 ⟨a5, rfl, ho5, hx5⟩
    have HE5 := hidP (HE4.out.trans hx5)
    have HO5 := hidP ho5
    clear m0 m1 m2 hx5 ho5
    go_wp2_with fail
    refine (HZe.out w5 a5 d _ HO5.out.ints HF.out.self).mono ?_
    rintro e w6 ⟨rfl, hx6⟩
    have HE6 := hidP (HE5.out.trans hx6)
    clear hx6 HO5
    obtain ⟨m0, m1, m2⟩ := HAt.out w6 HE6.out
    go_wp2_with fail
    refine (HBr.out w6 HE6.out _ _ _ _ _ _ (IX.out w6 HE6.out) (IY.out w6 HE6.out) RX.out RY.out).mono ?_
    rintro e w7 ⟨a7, rfl, ho7, hx7⟩
    have HE7 := hidP (HE6.out.trans hx7)
    have IXY := hidP (fun w' (hx : Ext w7 w') => (ho7.below hx).ints)
    have RXY := hidP (brL_res HP0.out t d xs ys)
    clear m0 m1 m2 hx7 ho7
    go_wp2
    have hE7d : Ext w7 w7.drew := Ext.drew w7
    (refine walkR_start (fun w' => Ext w7 w') 29 (by kernel_rfl) ?_; simp only [numbered, List.take_succ_cons, List.take_zero, Nat.zero_add, Nat.reduceAdd, List.length_cons, List.length_nil])
    (repeat (first | (refine walkR_still (v := ?_) rfl (by decide +kernel) rfl (fun _ _ _ h => h) hE7d ?_ ?_; rotate_left; (focus (intro w' hw'; obtain ⟨m0, m1, m2⟩ := HAt.out w' (HE7.out.trans hw'); go_simp; all_goals (with_reducible rfl))); simp only [Act.put, List.setIfInBounds_toArray, List.set_cons_zero, List.set_cons_succ]) | (refine walkR_skip rfl (by decide +kernel) rfl (fun _ _ _ h => h) hE7d ?_; simp only [Act.put, List.setIfInBounds_toArray, List.set_cons_zero, List.set_cons_succ])))
    (refine walkR_only (fun w' => Ext w7 w') rfl (by decide +kernel) rfl (fun _ h => h) ?_; intro K hK; go_simp; refine (HBr.out _ (HE7.out.trans hE7d) _ _ _ _ _ _ (IY.out _ (HE7.out.trans hE7d)) (IX.out _ (HE7.out.trans hE7d)) RY.out RX.out).mono ?_; rintro e w8 ⟨a8, rfl, ho8, hx8⟩; refine hK _ _ (hE7d.trans hx8) ?_; clear hK K; (try simp only [Act.put, List.setIfInBounds_toArray, List.set_cons_zero, List.set_cons_succ]))
    have hE8 := hE7d.trans hx8
    (refine walkR_only (fun w' => Ext w7 w') rfl (by decide +kernel) rfl (fun _ h => h) ?_; intro K hK; go_simp; refine (HSu.out _ _ _ _ _ _ _ _ (IXY.out _ hE8) ho8.ints RXY.out (brL_res HP0.out t d ys xs) (by omega) (by omega)).mono ?_; rintro e w9 ⟨a9, rfl, ho9, hx9⟩; refine hK _ _ (hE8.trans hx9) ?_; clear hK K; (try simp only [Act.put, List.setIfInBounds_toArray, List.set_cons_zero, List.set_cons_succ]))
    have hE9 := hE8.trans hx9
    (refine walkR_only (fun w' => Ext w7 w') rfl (by decide +kernel) rfl (fun _ h => h) ?_; intro K hK; go_simp; refine (HZe.out _ a9 d _ ho9.ints HF.out.anti).mono ?_; rintro e w10 ⟨rfl, hx10⟩; refine hK _ _ (hE9.trans hx10) ?_; clear hK K; (try simp only [Act.put, List.setIfInBounds_toArray, List.set_cons_zero, List.set_cons_succ]))
    have hE10 := hE9.trans hx10
    (repeat (first | (refine walkR_still (v := ?_) rfl (by decide +kernel) rfl (fun _ _ _ h => h) hE10 ?_ ?_; rotate_left; (focus (intro w' hw'; obtain ⟨m0, m1, m2⟩ := HAt.out w' (HE7.out.trans hw'); go_simp; all_goals (with_reducible rfl))); simp only [Act.put, List.setIfInBounds_toArray, List.set_cons_zero, List.set_cons_succ]) | (refine walkR_skip rfl (by decide +kernel) rfl (fun _ _ _ h => h) hE10 ?_; simp only [Act.put, List.setIfInBounds_toArray, List.set_cons_zero, List.set_cons_succ])))
    (refine walkR_later ?_; simp only [List.cons_append, List.nil_append])
    (repeat (first | (refine walkR_still (v := ?_) rfl (by decide +kernel) rfl (fun _ _ _ h => h) hE10 ?_ ?_; rotate_left; (focus (intro w' hw'; obtain ⟨m0, m1, m2⟩ := HAt.out w' (HE7.out.trans hw'); go_simp; all_goals (with_reducible rfl))); simp only [Act.put, List.setIfInBounds_toArray, List.set_cons_zero, List.set_cons_succ]) | (refine walkR_skip rfl (by decide +kernel) rfl (fun _ _ _ h => h) hE10 ?_; simp only [Act.put, List.setIfInBounds_toArray, List.set_cons_zero, List.set_cons_succ])))
    (refine walkR_later ?_; simp only [List.cons_append, List.nil_append])
    (repeat (first | (refine walkR_still (v := ?_) rfl (by decide +kernel) rfl (fun _ _ _ h => h) hE10 ?_ ?_; rotate_left; (focus (intro w' hw'; obtain ⟨m0, m1, m2⟩ := HAt.out w' (HE7.out.trans hw'); go_simp; all_goals (with_reducible rfl))); simp only [Act.put, List.setIfInBounds_toArray, List.set_cons_zero, List.set_cons_succ]) | (refine walkR_skip rfl (by decide +kernel) rfl (fun _ _ _ h => h) hE10 ?_; simp only [Act.put, List.setIfInBounds_toArray, List.set_cons_zero, List.set_cons_succ])))
    (refine walkR_later ?_; simp only [List.cons_append, List.nil_append]); (refine walkR_later ?_; simp only [List.cons_append, List.nil_append]); (refine walkR_later ?_; simp only [List.cons_append, List.nil_append]); (refine walkR_later ?_; simp only [List.cons_append, List.nil_append])
    (refine walkR_only (fun w' => Ext w7 w') rfl (by decide +kernel) rfl (fun _ h => h) ?_; intro K hK; go_simp; refine (HSu.out _ _ _ _ _ _ _ _ (IX.out _ (HE7.out.trans hE10)) (IZ.out _ (HE7.out.trans hE10)) RX.out RZ.out (by omega) (by omega)).mono ?_; rintro e w11 ⟨a11, rfl, ho11, hx11⟩; refine hK _ _ (hE10.trans hx11) ?_; clear hK K; (try simp only [Act.put, List.setIfInBounds_toArray, List.set_cons_zero, List.set_cons_succ]))
    have hE11 := hE10.trans hx11
    (refine walkR_only (fun w' => Ext w7 w') rfl (by decide +kernel) rfl (fun _ h => h) ?_; intro K hK; go_simp; refine (HBr.out _ (HE7.out.trans hE11) _ _ _ _ _ _ ho11.ints (IY.out _ (HE7.out.trans hE11)) (addL_res HP0.out xs zs 3) RY.out).mono ?_; rintro e w12 ⟨a12, rfl, ho12, hx12⟩; refine hK _ _ (hE11.trans hx12) ?_; clear hK K; (try simp only [Act.put, List.setIfInBounds_toArray, List.set_cons_zero, List.set_cons_succ]))
    have hE12 := hE11.trans hx12
    (refine walkR_only (fun w' => Ext w7 w') rfl (by decide +kernel) rfl (fun _ h => h) ?_; intro K hK; go_simp; refine (HBr.out _ (HE7.out.trans hE12) _ _ _ _ _ _ (IZ.out _ (HE7.out.trans hE12)) (IY.out _ (HE7.out.trans hE12)) RZ.out RY.out).mono ?_; rintro e w13 ⟨a13, rfl, ho13, hx13⟩; refine hK _ _ (hE12.trans hx13) ?_; clear hK K; (try simp only [Act.put, List.setIfInBounds_toArray, List.set_cons_zero, List.set_cons_succ]))
    have hE13 := hE12.trans hx13
    (refine walkR_only (fun w' => Ext w7 w') rfl (by decide +kernel) rfl (fun _ h => h) ?_; intro K hK; go_simp; refine (HSu.out _ _ _ _ _ _ _ _ (IXY.out _ hE13) ho13.ints RXY.out (brL_res HP0.out t d zs ys) (by omega) (by omega)).mono ?_; rintro e w14 ⟨a14, rfl, ho14, hx14⟩; refine hK _ _ (hE13.trans hx14) ?_; clear hK K; (try simp only [Act.put, List.setIfInBounds_toArray, List.set_cons_zero, List.set_cons_succ]))
    have hE14 := hE13.trans hx14
    (refine walkR_only (fun w' => Ext w7 w') rfl (by decide +kernel) rfl (fun _ h => h) ?_; intro K hK; go_simp; refine (HIn.out _ a12 a14 d d _ _ (((ho12.below hx13).below hx14).ints) ho14.ints HF.out.lin).mono ?_; rintro e w15 ⟨rfl, hx15⟩; refine hK _ _ (hE14.trans hx15) ?_; clear hK K; (try simp only [Act.put, List.setIfInBounds_toArray, List.set_cons_zero, List.set_cons_succ]))
    have hE15 := hE14.trans hx15
    (repeat (first | (refine walkR_still (v := ?_) rfl (by decide +kernel) rfl (fun _ _ _ h => h) hE15 ?_ ?_; rotate_left; (focus (intro w' hw'; obtain ⟨m0, m1, m2⟩ := HAt.out w' (HE7.out.trans hw'); go_simp; all_goals (with_reducible rfl))); simp only [Act.put, List.setIfInBounds_toArray, List.set_cons_zero, List.set_cons_succ]) | (refine walkR_skip rfl (by decide +kernel) rfl (fun _ _ _ h => h) hE15 ?_; simp only [Act.put, List.setIfInBounds_toArray, List.set_cons_zero, List.set_cons_succ])))
    (refine walkR_tail (by rfl) (by kernel_rfl) ?_; simp only [List.drop_succ_cons, List.drop_zero])
    have HE15 := hidP (HE7.out.trans hE15)
    have IXY2 := hidP (fun w' (hx : Ext w15 w') => IXY.out w' (hE15.trans hx))
    clear IXY hE7d hE8 hE9 hE10 hE11 hE12 hE13 hE14 hE15 hx8 hx9 hx10 hx11 hx12 hx13 hx14 hx15 ho8 ho9 ho11 ho12 ho13 ho14
    go_wp2
    have hE15d : Ext w15 w15.drew := Ext.drew w15
    (refine walkR_start (fun w' => Ext w15 w') 14 (by kernel_rfl) ?_; simp only [numbered, List.take_succ_cons, List.take_zero, Nat.zero_add, Nat.reduceAdd, List.length_cons, List.length_nil])
    (repeat (first | (refine walkR_still (v := ?_) rfl (by decide +kernel) rfl (fun _ _ _ h => h) hE15d ?_ ?_; rotate_left; (focus (intro w' hw'; obtain ⟨m0, m1, m2⟩ := HAt.out w' (HE15.out.trans hw'); go_simp; all_goals (with_reducible rfl))); simp only [Act.put, List.setIfInBounds_toArray, List.set_cons_zero, List.set_cons_succ]) | (refine walkR_skip rfl (by decide +kernel) rfl (fun _ _ _ h => h) hE15d ?_; simp only [Act.put, List.setIfInBounds_toArray, List.set_cons_zero, List.set_cons_succ])))
    (refine walkR_later ?_; simp only [List.cons_append, List.nil_append])
    (repeat (first | (refine walkR_still (v := ?_) rfl (by decide +kernel) rfl (fun _ _ _ h => h) hE15d ?_ ?_; rotate_left; (focus (intro w' hw'; obtain ⟨m0, m1, m2⟩ := HAt.out w' (HE15.out.trans hw'); go_simp; all_goals (with_reducible rfl))); simp only [Act.put, List.setIfInBounds_toArray, List.set_cons_zero, List.set_cons_succ]) | (refine walkR_skip rfl (by decide +kernel) rfl (fun _ _ _ h => h) hE15d ?_; simp only [Act.put, List.setIfInBounds_toArray, List.set_cons_zero, List.set_cons_succ])))
    (refine walkR_later ?_; simp only [List.cons_append, List.nil_append])
    (repeat (first | (refine walkR_still (v := ?_) rfl (by decide +kernel) rfl (fun _ _ _ h => h) hE15d ?_ ?_; rotate_left; (focus (intro w' hw'; obtain ⟨m0, m1, m2⟩ := HAt.out w' (HE15.out.trans hw'); go_simp; all_goals (with_reducible rfl))); simp only [Act.put, List.setIfInBounds_toArray, List.set_cons_zero, List.set_cons_succ]) | (refine walkR_skip rfl (by decide +kernel) rfl (fun _ _ _ h => h) hE15d ?_; simp only [Act.put, List.setIfInBounds_toArray, List.set_cons_zero, List.set_cons_succ])))
    (refine walkR_later ?_; simp only [List.cons_append, List.nil_append]); (refine walkR_later ?_; simp only [List.cons_append, List.nil_append])
    (refine walkR_only (fun w' => Ext w15 w') rfl (by decide +kernel) rfl (fun _ h => h) ?_; intro K hK; go_simp; refine (HBr.out _ (HE15.out.trans hE15d) _ _ _ _ _ _ (IXY2.out _ hE15d) (IZ.out _ (HE15.out.trans hE15d)) RXY.out RZ.out).mono ?_; rintro e w16 ⟨a16, rfl, ho16, hx16⟩; refine hK _ _ (hE15d.trans hx16) ?_; clear hK K; (try simp only [Act.put, List.setIfInBounds_toArray, List.set_cons_zero, List.set_cons_succ]))
    have hE16 := hE15d.trans hx16
    (refine walkR_only (fun w' => Ext w15 w') rfl (by decide +kernel) rfl (fun _ h => h) ?_; intro K hK; go_simp; refine (HBr.out _ (HE15.out.trans hE16) _ _ _ _ _ _ (IY.out _ (HE15.out.trans hE16)) (IZ.out _ (HE15.out.trans hE16)) RY.out RZ.out).mono ?_; rintro e w17 ⟨a17, rfl, ho17, hx17⟩; refine hK _ _ (hE16.trans hx17) ?_; clear hK K; (try simp only [Act.put, List.setIfInBounds_toArray, List.set_cons_zero, List.set_cons_succ]))
    have hE17 := hE16.trans hx17
    (refine walkR_only (fun w' => Ext w15 w') rfl (by decide +kernel) rfl (fun _ h => h) ?_; intro K hK; go_simp; refine (HBr.out _ (HE15.out.trans hE17) _ _ _ _ _ _ ho17.ints (IX.out _ (HE15.out.trans hE17)) (brL_res HP0.out t d ys zs) RX.out).mono ?_; rintro e w18 ⟨a18, rfl, ho18, hx18⟩; refine hK _ _ (hE17.trans hx18) ?_; clear hK K; (try simp only [Act.put, List.setIfInBounds_toArray, List.set_cons_zero, List.set_cons_succ]))
    have hE18 := hE17.trans hx18
    (refine walkR_only (fun w' => Ext w15 w') rfl (by decide +kernel) rfl (fun _ h => h) ?_; intro K hK; go_simp; refine (HSu.out _ _ _ _ _ _ _ _ (((ho16.below hx17).below hx18).ints) ho18.ints (brL_res HP0.out t d _ zs) (brL_res HP0.out t d _ xs) (by omega) (by omega)).mono ?_; rintro e w19 ⟨a19, rfl, ho19, hx19⟩; refine hK _ _ (hE18.trans hx19) ?_; clear hK K; (try simp only [Act.put, List.setIfInBounds_toArray, List.set_cons_zero, List.set_cons_succ]))
    have hE19 := hE18.trans hx19
    (refine walkR_tail (by rfl) (by kernel_rfl) ?_; simp only [List.drop_succ_cons, List.drop_zero])
    have HE19 := hidP (HE15.out.trans hE19)
    have IXY := hidP (fun w' (hx : Ext w19 w') => IXY2.out w' (hE19.trans hx))
    have IJ := hidP (fun w' (hx : Ext w19 w') => (ho19.below hx).ints)
    clear IXY2 hE15d hE16 hE17 hE18 hE19 hx16 hx17 hx18 hx19 ho16 ho17 ho18 ho19
    go_wp2
    have hE19d : Ext w19 w19.drew := Ext.drew w19
    (refine walkR_start (fun w' => Ext w19 w') 12 (by kernel_rfl) ?_; simp only [numbered, List.take_succ_cons, List.take_zero, Nat.zero_add, Nat.reduceAdd, List.length_cons, List.length_nil])
    (repeat (first | (refine walkR_still (v := ?_) rfl (by decide +kernel) rfl (fun _ _ _ h => h) hE19d ?_ ?_; rotate_left; (focus (intro w' hw'; obtain ⟨m0, m1, m2⟩ := HAt.out w' (HE19.out.trans hw'); go_simp; all_goals (with_reducible rfl))); simp only [Act.put, List.setIfInBounds_toArray, List.set_cons_zero, List.set_cons_succ]) | (refine walkR_skip rfl (by decide +kernel) rfl (fun _ _ _ h => h) hE19d ?_; simp only [Act.put, List.setIfInBounds_toArray, List.set_cons_zero, List.set_cons_succ])))
    (refine walkR_later ?_; simp only [List.cons_append, List.nil_append])
    (repeat (first | (refine walkR_still (v := ?_) rfl (by decide +kernel) rfl (fun _ _ _ h => h) hE19d ?_ ?_; rotate_left; (focus (intro w' hw'; obtain ⟨m0, m1, m2⟩ := HAt.out w' (HE19.out.trans hw'); go_simp; all_goals (with_reducible rfl))); simp only [Act.put, List.setIfInBounds_toArray, List.set_cons_zero, List.set_cons_succ]) | (refine walkR_skip rfl (by decide +kernel) rfl (fun _ _ _ h => h) hE19d ?_; simp only [Act.put, List.setIfInBounds_toArray, List.set_cons_zero, List.set_cons_succ])))
    (refine walkR_later ?_; simp only [List.cons_append, List.nil_append]); (refine walkR_later ?_; simp only [List.cons_append, List.nil_append]); (refine walkR_later ?_; simp only [List.cons_append, List.nil_append])
    (refine walkR_only (fun w' => Ext w19 w') rfl (by decide +kernel) rfl (fun _ h => h) ?_; intro K hK; go_simp; refine (HBr.out _ (HE19.out.trans hE19d) _ _ _ _ _ _ (IZ.out _ (HE19.out.trans hE19d)) (IX.out _ (HE19.out.trans hE19d)) RZ.out RX.out).mono ?_; rintro e w20 ⟨a20, rfl, ho20, hx20⟩; refine hK _ _ (hE19d.trans hx20) ?_; clear hK K; (try simp only [Act.put, List.setIfInBounds_toArray, List.set_cons_zero, List.set_cons_succ]))
    have hE20 := hE19d.trans hx20
    (refine walkR_only (fun w' => Ext w19 w') rfl (by decide +kernel) rfl (fun _ h => h) ?_; intro K hK; go_simp; refine (HBr.out _ (HE19.out.trans hE20) _ _ _ _ _ _ ho20.ints (IY.out _ (HE19.out.trans hE20)) (brL_res HP0.out t d zs xs) RY.out).mono ?_; rintro e w21 ⟨a21, rfl, ho21, hx21⟩; refine hK _ _ (hE20.trans hx21) ?_; clear hK K; (try simp only [Act.put, List.setIfInBounds_toArray, List.set_cons_zero, List.set_cons_succ]))
    have hE21 := hE20.trans hx21
    (refine walkR_only (fun w' => Ext w19 w') rfl (by decide +kernel) rfl (fun _ h => h) ?_; intro K hK; go_simp; refine (HSu.out _ _ _ _ _ _ _ _ (IJ.out _ hE21) ho21.ints (addL_res HP0.out _ _ 1) (brL_res HP0.out t d _ ys) (by omega) (by omega)).mono ?_; rintro e w22 ⟨a22, rfl, ho22, hx22⟩; refine hK _ _ (hE21.trans hx22) ?_; clear hK K; (try simp only [Act.put, List.setIfInBounds_toArray, List.set_cons_zero, List.set_cons_succ]))
    have hE22 := hE21.trans hx22
    (refine walkR_only (fun w' => Ext w19 w') rfl (by decide +kernel) rfl (fun _ h => h) ?_; intro K hK; go_simp; refine (HZe.out _ a22 d _ ho22.ints HF.out.jac).mono ?_; rintro e w23 ⟨rfl, hx23⟩; refine hK _ _ (hE22.trans hx23) ?_; clear hK K; (try simp only [Act.put, List.setIfInBounds_toArray, List.set_cons_zero, List.set_cons_succ]))
    have hE23 := hE22.trans hx23
    (refine walkR_tail (by rfl) (by kernel_rfl) ?_; simp only [List.drop_succ_cons, List.drop_zero])
    have HE23 := hidP (HE19.out.trans hE23)
    have IXY2 := hidP (fun w' (hx : Ext w23 w') => IXY.out w' (hE23.trans hx))
    clear IXY IJ hE19d hE20 hE21 hE22 hE23 hx20 hx21 hx22 hx23 ho20 ho21 ho22
    obtain ⟨m0, m1, m2⟩ := HAt.out w23 HE23.out
    go_wp2_with fail
    refine (HAd.out w23 HE23.out _ _ _ (IX.out w23 HE23.out) RX.out).mono ?_
    rintro e w24 ⟨a24, l24, c24, rfl, ho24, hx24⟩
    obtain rfl : ND = l24 := HND.out.trans ((matM_length _ _ _).symm.trans ho24.len)
    have hxa := Ext.alloc w24 (.cells #[.int .i64 p, .int .i64 (d : Int), .int .i64 (d : Int), .slice a24 ND c24] 28)
    have hmb := MatB.new w24 p d d a24 ND c24
    obtain ⟨w25, hw⟩ : ∃ w', w' = w24.alloc (.cells #[.int .i64 p, .int .i64 (d : Int), .int .i64 (d : Int), .slice a24 ND c24] 28) := ⟨_, rfl⟩
    rw [← hw] at hxa hmb
    obtain ⟨b9, hb⟩ : ∃ b', b' = w24.heap.size := ⟨_, rfl⟩
    rw [← hb] at hmb
    have HWn : Hid (w24.alloc (.cells #[.int .i64 p, .int .i64 (d : Int), .int .i64 (d : Int), .slice a24 ND c24] 28) = w25) := hw.symm
    have HBn : Hid (w24.heap.size = b9) := hb.symm
    have HE25 := hidP ((HE23.out.trans hx24).trans hxa)
    have HM9 := hidP (fun w' (hx : Ext w25 w') => hmb.below hx)
    have IM9 := hidP (fun w' (hx : Ext w25 w') => (ho24.below (hxa.trans hx)).ints)
    have HC9 := hidP ho24.caps
    have HX25 := hidP (hx24.trans hxa)
    clear hmb hw hb hxa hx24 ho24 m0 m1 m2
    go_wp2_with (with_reducible (refine stop_at 97 (by rfl) ?_))
    rw [HWn.out, HBn.out]
    clear HWn HBn
    unfold Stopped
    obtain ⟨m0, m1, m2⟩ := HAt.out w25 HE25.out
    go_wp2_with fail
    refine (HAd.out w25 HE25.out _ _ _ (IY.out w25 HE25.out) RY.out).mono ?_
    rintro e w26 ⟨a26, l26, c26, rfl, ho26, hx26⟩
    obtain rfl : ND = l26 := HND.out.trans ((matM_length _ _ _).symm.trans ho26.len)
    have hxa := Ext.alloc w26 (.cells #[.int .i64 p, .int .i64 (d : Int), .int .i64 (d : Int), .slice a26 ND c26] 28)
    have hmb := MatB.new w26 p d d a26 ND c26
    obtain ⟨w27, hw⟩ : ∃ w', w' = w26.alloc (.cells #[.int .i64 p, .int .i64 (d : Int), .int .i64 (d : Int), .slice a26 ND c26] 28) := ⟨_, rfl⟩
    rw [← hw] at hxa hmb
    obtain ⟨b10, hb⟩ : ∃ b', b' = w26.heap.size := ⟨_, rfl⟩
    rw [← hb] at hmb
    have HWn : Hid (w26.alloc (.cells #[.int .i64 p, .int .i64 (d : Int), .int .i64 (d : Int), .slice a26 ND c26] 28) = w27) := hw.symm
    have HBn : Hid (w26.heap.size = b10) := hb.symm
    have HE27 := hidP ((HE25.out.trans hx26).trans hxa)
    have HM10 := hidP (fun w' (hx : Ext w27 w') => hmb.below hx)
    have IM10 := hidP (fun w' (hx : Ext w27 w') => (ho26.below (hxa.trans hx)).ints)
    have HC10 := hidP ho26.caps
    have HX27 := hidP (hx26.trans hxa)
    clear hmb hw hb hxa hx26 ho26 m0 m1 m2
    go_wp2_with (with_reducible (refine stop_at 101 (by rfl) ?_))
    rw [HWn.out, HBn.out]
    clear HWn HBn
    unfold Stopped
    have h2527 : Ext w25 w27 := HX27.out
    obtain ⟨m0, m1, m2, m3⟩ := (HM9.out w27 h2527).at'
    obtain ⟨n0, n1, n2, n3⟩ := (HM10.out w27 (Ext.refl _)).at'
    have HX := hidP h2527
    clear h2527
    have HCm := hidP (HCo.out w27 a26 a24 ND c26 c24 (adM p t d ys) (adM p t d xs) (IM10.out w27 (Ext.refl _)) (IM9.out w27 HX.out) HND.out HC10.out.1 HC9.out.1 (matM_res HP0.out d _) (matM_res HP0.out d _))
    go_wp2_with fail
    refine HCm.out.mono ?_
    rintro e w28 ⟨a28, c28, rfl, ho28, hx28⟩
    rw [HF.out.com] at ho28
    have hxa := Ext.alloc w28 (.cells #[.int .i64 p, .int .i64 (d : Int), .int .i64 (d : Int), .slice a28 ND c28] 28)
    have hmb := MatB.new w28 p d d a28 ND c28
    obtain ⟨w29, hw⟩ : ∃ w', w' = w28.alloc (.cells #[.int .i64 p, .int .i64 (d : Int), .int .i64 (d : Int), .slice a28 ND c28] 28) := ⟨_, rfl⟩
    rw [← hw] at hxa hmb
    obtain ⟨b11, hb⟩ : ∃ b', b' = w28.heap.size := ⟨_, rfl⟩
    rw [← hb] at hmb
    have HWn : Hid (w28.alloc (.cells #[.int .i64 p, .int .i64 (d : Int), .int .i64 (d : Int), .slice a28 ND c28] 28) = w29) := hw.symm
    have HBn : Hid (w28.heap.size = b11) := hb.symm
    have HE29 := hidP ((HE27.out.trans hx28).trans hxa)
    have HX29 := hidP ((HX.out.trans hx28).trans hxa)
    have IXY := hidP (fun w' (hx : Ext w29 w') => IXY2.out w' (((HX25.out.trans HX29.out).trans hx)))
    have IM11 := hidP (fun w' (hx : Ext w29 w') => (ho28.below (hxa.trans hx)).ints)
    have HM11 := hidP (fun w' (hx : Ext w29 w') => hmb.below hx)
    have HC11 := hidP ho28.caps
    clear hmb hw hb hxa hx28 ho28 m0 m1 m2 m3 n0 n1 n2 n3 HCm IXY2
    go_wp2_with fail
    rw [HWn.out, HBn.out]
    clear HWn HBn
    have hE29d : Ext w29 w29.drew := Ext.drew w29
    (refine walkR_start (fun w' => Ext w29 w') 15 (by kernel_rfl) ?_; simp only [numbered, List.take_succ_cons, List.take_zero, Nat.zero_add, Nat.reduceAdd, List.length_cons, List.length_nil])
    (repeat (first | (refine walkR_still (v := ?_) rfl (by decide +kernel) rfl (fun _ _ _ h => h) hE29d ?_ ?_; rotate_left; (focus (intro w' hw'; obtain ⟨⟨m0, m1, m2⟩, ⟨n0, n1, n2, n3⟩, ⟨k0, k1, k2, k3⟩⟩ := (⟨HAt.out w' (HE29.out.trans hw'), (HM9.out w' (HX29.out.trans hw')).at', (HM11.out w' hw').at'⟩ : _ ∧ _ ∧ _); go_simp; all_goals (with_reducible rfl))); simp only [Act.put, List.setIfInBounds_toArray, List.set_cons_zero, List.set_cons_succ]) | (refine walkR_skip rfl (by decide +kernel) rfl (fun _ _ _ h => h) hE29d ?_; simp only [Act.put, List.setIfInBounds_toArray, List.set_cons_zero, List.set_cons_succ])))
    (refine walkR_later ?_; simp only [List.cons_append, List.nil_append])
    (repeat (first | (refine walkR_still (v := ?_) rfl (by decide +kernel) rfl (fun _ _ _ h => h) hE29d ?_ ?_; rotate_left; (focus (intro w' hw'; obtain ⟨⟨m0, m1, m2⟩, ⟨n0, n1, n2, n3⟩, ⟨k0, k1, k2, k3⟩⟩ := (⟨HAt.out w' (HE29.out.trans hw'), (HM9.out w' (HX29.out.trans hw')).at', (HM11.out w' hw').at'⟩ : _ ∧ _ ∧ _); go_simp; all_goals (with_reducible rfl))); simp only [Act.put, List.setIfInBounds_toArray, List.set_cons_zero, List.set_cons_succ]) | (refine walkR_skip rfl (by decide +kernel) rfl (fun _ _ _ h => h) hE29d ?_; simp only [Act.put, List.setIfInBounds_toArray, List.set_cons_zero, List.set_cons_succ])))
    (refine walkR_later ?_; simp only [List.cons_append, List.nil_append]); (refine walkR_later ?_; simp only [List.cons_append, List.nil_append]); (refine walkR_later ?_; simp only [List.cons_append, List.nil_append]); (refine walkR_later ?_; simp only [List.cons_append, List.nil_append]); (refine walkR_later ?_; simp only [List.cons_append, List.nil_append]); (refine walkR_later ?_; simp only [List.cons_append, List.nil_append]); (refine walkR_later ?_; simp only [List.cons_append, List.nil_append]); (refine walkR_later ?_; simp only [List.cons_append, List.nil_append]); (refine walkR_later ?_; simp only [List.cons_append, List.nil_append])
    (refine walkR_only (fun w' => Ext w29 w') rfl (by decide +kernel) rfl (fun _ h => h) ?_; intro K hK; go_simp; refine (HUn.out _ _ _ _ _ _ _ _ (IY.out _ (HE29.out.trans hE29d)) (IM9.out _ (HX29.out.trans hE29d)) HND.out RY.out (matM_res HP0.out d _)).mono ?_; rintro e w30 ⟨a30, rfl, ho30, hx30⟩; refine hK _ _ (hE29d.trans hx30) ?_; clear hK K; (try simp only [Act.put, List.setIfInBounds_toArray, List.set_cons_zero, List.set_cons_succ]))
    have hE30 := hE29d.trans hx30
    (refine walkR_only (fun w' => Ext w29 w') rfl (by decide +kernel) rfl (fun _ h => h) ?_; intro K hK; go_simp; refine (HIn.out _ a30 a7 d d _ _ ho30.ints (IXY.out _ hE30) HF.out.und).mono ?_; rintro e w31 ⟨rfl, hx31⟩; refine hK _ _ (hE30.trans hx31) ?_; clear hK K; (try simp only [Act.put, List.setIfInBounds_toArray, List.set_cons_zero, List.set_cons_succ]))
    have hE31 := hE30.trans hx31
    (repeat (first | (refine walkR_still (v := ?_) rfl (by decide +kernel) rfl (fun _ _ _ h => h) hE31 ?_ ?_; rotate_left; (focus (intro w' hw'; obtain ⟨⟨m0, m1, m2⟩, ⟨n0, n1, n2, n3⟩, ⟨k0, k1, k2, k3⟩⟩ := (⟨HAt.out w' (HE29.out.trans hw'), (HM9.out w' (HX29.out.trans hw')).at', (HM11.out w' hw').at'⟩ : _ ∧ _ ∧ _); go_simp; all_goals (with_reducible rfl))); simp only [Act.put, List.setIfInBounds_toArray, List.set_cons_zero, List.set_cons_succ]) | (refine walkR_skip rfl (by decide +kernel) rfl (fun _ _ _ h => h) hE31 ?_; simp only [Act.put, List.setIfInBounds_toArray, List.set_cons_zero, List.set_cons_succ])))
    (refine walkR_only (fun w' => Ext w29 w') rfl (by decide +kernel) rfl (fun _ h => h) ?_; intro K hK; go_simp; refine (HAd.out _ (HE29.out.trans hE31) _ _ _ (IXY.out _ hE31) RXY.out).mono ?_; rintro e w32 ⟨a32, l32, c32, rfl, ho32, hx32⟩; refine hK _ _ (hE31.trans hx32) ?_; clear hK K; (try simp only [Act.put, List.setIfInBounds_toArray, List.set_cons_zero, List.set_cons_succ]))
    have hE32 := hE31.trans hx32
    (refine walkR_only (fun w' => Ext w29 w') rfl (by decide +kernel) rfl (fun _ h => h) ?_; intro K hK; go_simp; refine (HEq.out _ a28 a32 ND l32 c28 c32 _ _ (IM11.out _ hE32) ho32.ints (by have := HC11.out; omega) (by have := ho32.caps; omega) rfl).mono ?_; rintro e w33 ⟨rfl, hx33⟩; refine hK _ _ (hE32.trans hx33) ?_; clear hK K; (try simp only [Act.put, List.setIfInBounds_toArray, List.set_cons_zero, List.set_cons_succ]))
    have hE33 := hE32.trans hx33
    (repeat (first | (refine walkR_still (v := ?_) rfl (by decide +kernel) rfl (fun _ _ _ h => h) hE33 ?_ ?_; rotate_left; (focus (intro w' hw'; obtain ⟨⟨m0, m1, m2⟩, ⟨n0, n1, n2, n3⟩, ⟨k0, k1, k2, k3⟩⟩ := (⟨HAt.out w' (HE29.out.trans hw'), (HM9.out w' (HX29.out.trans hw')).at', (HM11.out w' hw').at'⟩ : _ ∧ _ ∧ _); go_simp; all_goals (with_reducible rfl))); simp only [Act.put, List.setIfInBounds_toArray, List.set_cons_zero, List.set_cons_succ]) | (refine walkR_skip rfl (by decide +kernel) rfl (fun _ _ _ h => h) hE33 ?_; simp only [Act.put, List.setIfInBounds_toArray, List.set_cons_zero, List.set_cons_succ])))
    (refine walkR_tail (by rfl) (by kernel_rfl) ?_; simp only [List.drop_succ_cons, List.drop_zero])
    have HE33 := hidP ((HX3.out.trans HE29.out).trans hE33)
    clear hE29d hE30 hE31 hE32 hE33 hx30 hx31 hx32 hx33 ho30 ho32
    go_wp2
    go_ret
    exact ⟨rfl, HE33.out⟩
    -- END

theorem own : ownKnob Tryz.prog.godebug = none := by kernel_rfl
theorem laidOut : laidOutB Tryz.prog = true := by kernel_rfl
/-! ### THE ROW's STEP -/
set_option maxRecDepth 100000 in
theorem lifted (os : Os) (started : os.Started) (H : Type) (enc : TypeId × Value → H) :
    ReturnsInHanded {} Tryz.checked os 5 .any (Rows.fnBracketedSpec.pre6 enc Tryz.prog Tryz.f5 Rows.fnBracketedRow.domain false) (Rows.fnBracketedSpec.post enc Tryz.prog Tryz.f5 false true false false) := by
  refine returnsInHanded_of_change (C := Tryz.checked) own started (by kernel_rfl) Tryz.func5
    (ChangeSpec.witness6 (enc := enc) (C := Tryz.checked) false ⟨#[], #[.slice none 0 0], []⟩ 8 (by kernel_rfl) (by kernel_rfl) (by kernel_rfl) (by kernel_rfl)) ?_
  intro W base args ds gs before hval0 hW hcnd _
  have hval : ∀ (j : Nat) t v, Tryz.f5.params[j]? = some t → args[j]? = some v → Value.okWide Tryz.prog W .any base t v := hval0
  have hW' := hW
  obtain ⟨p, q, hA0, hV, rfl, hfz, hnd⟩ := hW
  have hA : DataW.TrodAll enc Tryz.prog W 0 (fun _ => true) true Tryz.f5.params.toList args.toList ds p := hA0
  rw [Tryz.params5] at hA hval
  obtain ⟨v0, vs0, d0, ds0, p0, q0, hargs, rfl, rfl, h0, r0⟩ := trodAll_cons hA
  obtain ⟨rfl, rfl, rfl⟩ := trodAll_nil r0
  obtain rfl : args = #[v0] := by cases args; simp_all
  obtain ⟨rfl, rfl⟩ := trodVars_none hV
  have lt0 : ∀ x ∈ p0, x.block < W.heap.size := fun x hx => hW'.lt x (by simp [hx])
  obtain ⟨z0, l0, m0, rfl⟩ := okWide_slice Tryz.underlying22 (hval 0 22 v0 rfl rfl)
  obtain ⟨fuel0, hf0⟩ := id h0
  obtain ⟨e0, n0, k0, xs0, q0, i0, s0⟩ := bytes_in Tryz.underlying22 Tryz.underlying5 (by kernel_rfl) hf0
  simp only [Value.cells, List.cons.injEq, and_true, Value.slice.injEq] at q0
  obtain ⟨rfl, rfl, rfl⟩ := q0
  clear hA0 hval0
  refine (walk z0 l0 m0 xs0 W i0 s0).mono fun e W' ⟨he, bel⟩ => ?_
  subst he
  exact ⟨_, rfl, _, _, _, [], _, [], hW', trodAll_mk1 (shut_bool Tryz.underlying4 _), (trodAll_cons_mk (Below.trod laidOut (by kernel_rfl) (of_decide_eq_true (by kernel_rfl)) h0 bel lt0) trodAll_mk0), rfl, bel.frame _, fun h => by cases h⟩

theorem over : Rows.fnBracketedRow.holds Tryz.pinned (OpenSpec.ofChange Rows.fnBracketedSpec) :=
  OpenClaim.holds_of_wide 5 Tryz.f5 rfl rfl rfl rfl rfl rfl rfl ⟨rfl, rfl, rfl, rfl, rfl⟩ rfl rfl rfl rfl rfl (by kernel_rfl) Tryz.func5 (by kernel_rfl)
    (of_decide_eq_true (by kernel_rfl)) (by unfold Func.isWrapper; first | (rw [if_pos (by decide +kernel)]; kernel_rfl) | (rw [if_neg (by decide +kernel)]; exact ⟨rfl, rfl⟩))
    (fun os started H enc _ => lifted os started H enc)

/-- THE STATEMENT -/
theorem proved : Rows.FnBracketedSaid :=
  over
#print axioms proved

end Go.Proofs.YtenlhfimdpcaoaaGreat.fnBracketed
