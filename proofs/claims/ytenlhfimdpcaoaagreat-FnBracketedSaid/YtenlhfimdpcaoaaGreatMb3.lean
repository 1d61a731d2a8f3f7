/-
  A table that is filled number by number; what l2Sum fills. No program in sight.
  The reference's product of square matrices: l1Mul. Plain: one number stored into a matrix.
  The reference's small functions on matrices: l1At, l1Row, l1Copy, l1Zero, l1Unit.
  l1Ints: a copy of a slice of integers.
  What draws of algebras give is valid: sums, other bases. No program in sight.
  Equations solved; matrices with an inverse. No program in sight.
  Spaces of rows modulo a prime, plain: one reduced basis for each space; kernels. No program in sight.
  Sums of algebras and algebras in other bases are algebras. No program in sight.
  The laws of brackets for all elements, out of those for the basis. No program in sight.
  The lower series of an algebra ends: its spaces lie one in the other. No program in sight.
  LowerSeries, DerivedSeries, ClassOf, IsSolvable of the program, where the chain of spaces is known.
  The loop of a series, and the series of an algebra.
  Series of an algebra: the steps that are closures, and the loop.
  The program's product of two spaces: (lie).product.
  The program's bracket and the space of rows: (lie).bracket, (lie).space, (lie).product.
-/
import Derived.Test.YtenlhfimdpcaoaaGreatMb2
namespace Go.Proofs.YtenlhfimdpcaoaaGreat
open Go.RowKit

theorem sumTo_add (n : Nat) (f g : Nat → Int) : sumTo n (fun i => f i + g i) = sumTo n f + sumTo n g := by
  induction n with
  | zero => rfl
  | succ n ih => simp only [sumTo, ih]; omega
theorem sumTo_mul (n : Nat) (a : Int) (f : Nat → Int) : a * sumTo n f = sumTo n fun i => a * f i := by
  induction n with
  | zero => simp [sumTo]
  | succ n ih => simp only [sumTo, Int.mul_add, ih]
theorem sumTo_comm (n m : Nat) (f : Nat → Nat → Int) : sumTo n (fun i => sumTo m fun j => f i j) = sumTo m fun j => sumTo n fun i => f i j := by
  induction n with
  | zero => simp only [sumTo]; exact (sumTo_zero_of fun _ _ => rfl).symm
  | succ n ih => simp only [sumTo, ih]; rw [← sumTo_add]
/-- the bracket, the first k numbers of the second element taken -/
def bto (p : Int) (t : List Int) (d : Nat) (u v : List Int) (k : Nat) : List Int := modL p d fun m => sumTo k fun j => v.getD j 0 * sumTo d fun i => u.getD i 0 * tab t d i j m
theorem bto_zero (p : Int) (t : List Int) (d : Nat) (u v : List Int) : bto p t d u v 0 = List.replicate d 0 := modL_zero p d
theorem bto_length (p : Int) (t : List Int) (d : Nat) (u v : List Int) (k : Nat) : (bto p t d u v k).length = d := modL_length _ _ _
theorem bto_res {p : Int} (hp : 0 < p) (t : List Int) (d : Nat) (u v : List Int) (k : Nat) : Res p (bto p t d u v k) := Res.modL hp _ _
theorem bto_skip (p : Int) (t : List Int) (d : Nat) (u v : List Int) (k : Nat) (h : v.getD k 0 = 0) : bto p t d u v (k + 1) = bto p t d u v k := by
  unfold bto
  apply modL_congr
  intro m _
  simp only [sumTo, h, Int.zero_mul, Int.add_zero]
theorem bto_succ (p : Int) (t : List Int) (d : Nat) (u v : List Int) (k : Nat) (hu : u.length = d) : bto p t d u v (k + 1) = addL p (bto p t d u v k) (v.getD k 0) (rightL p t d u k) := by
  unfold bto
  rw [addL_modL]
  apply modL_congr
  intro m hm
  unfold rightL
  rw [modL_get _ _ _ _ hm, hu]
  simp only [sumTo]
  rw [Int.add_emod, Int.mul_emod, ← Int.add_emod]
  conv => rhs; rw [Int.add_emod, Int.mul_emod, Int.emod_emod, ← Int.add_emod]
theorem bto_all (p : Int) (t : List Int) (d : Nat) (u v : List Int) : bto p t d u v d = brL p t d u v := by
  unfold bto brL
  apply modL_congr
  intro m _
  congr 1
  rw [sumTo_comm]
  apply sumTo_congr
  intro j _
  rw [sumTo_mul]
  apply sumTo_congr
  intro i _
  rw [← Int.mul_assoc, Int.mul_comm (v.getD j 0)]
set_option maxHeartbeats 2000000 in
theorem bracket_any (p : Int) (d : Nat) (at' : Option Addr) (N c : Nat) (t : List Int) (au av : Option Addr) (cu cv : Nat) (u v : List Int) (w : World) (hd : d ≤ 28) (hN : N = d * d * d) (hc : N ≤ c) (hc2 : c ≤ 9223372036854775807)
    (ht : IntsAt w at' N t) (hu : IntsAt w au d u) (hv : IntsAt w av d v) (hp : 1 ≤ p) (hp2 : p ≤ 10007) (hrt : Res p t) (hru : Res p u) (hrv : Res p v) :
    Calls Tryz.prog 70 #[algV p d at' N c, .slice au d cu, .slice av d cv] w fun e w' => ∃ a, e = .returned (.slice a d d) ∧ OwnI w' w.heap.size a d d (brL p t d u v) ∧ Ext w w' := by
  have HM := hidP (OwnI.made (w.alloc (.cells #[.int .i64 p, .int .i64 (d : Int), .slice at' N c] 80)) (w.heap.size + 1) d (by simp) (by unfold maxLen; omega))
  have HAL := hidP (AlgAt.new w _ rfl p d at' N c 80)
  have HX1 := hidP (Ext.alloc w (.cells #[.int .i64 p, .int .i64 (d : Int), .slice at' N c] 80))
  have hmk := make_ints (d : Int) (by omega) (by omega)
  simp only [Int.toNat_natCast] at hmk
  have HT := hidP ht
  have HU := hidP hu
  have HV := hidP hv
  have LU := hidP hu.len
  have LV := hidP hv.len
  have HRT := hidP hrt
  have HRU := hidP hru
  have HRV := hidP hrv
  have HN := hidP hN
  clear ht hu hv hrt hru hrv hN
  go_enter Tryz.func70, Tryz.ntmps70
  go_wp2
  obtain ⟨w0, hw0⟩ : ∃ w0, w0 = w.alloc (.cells #[.int .i64 p, .int .i64 (d : Int), .slice at' N c] 80) := ⟨_, rfl⟩
  rw [← hw0] at HM HAL HX1 ⊢
  have hsz : w0.heap.size = w.heap.size + 1 := by rw [hw0]; simp
  obtain ⟨w1, hw1⟩ : ∃ w1, w1 = w0.alloc (.cells (Array.replicate d (.int .i64 0)) 3) := ⟨_, rfl⟩
  rw [← hw1] at HM ⊢
  rw [hsz] at HM
  have hx01 : Ext w0 w1 := by rw [hw1]; exact Ext.alloc _ _
  have HX01 := hidP hx01
  have HAL1 := hidP (HAL.out.below hx01)
  have hst := UpdI.start HM.out.ints
  rw [← bto_zero p t d u v] at hst
  have HST := hidP hst
  have hsz1 : w.heap.size + 1 < w1.heap.size := by rw [hw1]; simp; omega
  clear hw0 hw1 hx01 hst hmk hsz
  go_loopw [15] (fun i wr => ∃ k : Nat, k ≤ d ∧ Hid (UpdI w1 wr (some ⟨w.heap.size + 1, 0, none⟩) d (bto p t d u v k)) ∧ i = .int .i64 k) (fun i _ => d - (intOf i).toNat)
  case atStart => exact ⟨0, Nat.zero_le _, HST, rfl⟩
  case round =>
    obtain ⟨k, hk, HUP, rfl⟩ := hrel
    by_cases hlt : k < d
    · have hOr := HUP.out.own HM.out
      have hALr := HAL1.out.upd HUP.out (fun b' o' e => by cases e; omega)
      have hbw : Below (w.heap.size + 1) w1 wr := HUP.out.below (Below.refl _ _) (by omega) (fun b' o' e _ => by cases e; omega)
      have hx : Ext w wr := Below.trans (HX1.out.trans HX01.out) (hbw.mono (by omega))
      obtain ⟨bu, ou, rfl, q⟩ := (HV.out.below hx).get k hlt
      by_cases hz : v.getD k 0 = 0
      · have hb : (v[k]?.getD 0 != 0) = false := by simpa [List.getD_eq_getElem?_getD] using hz
        have HS := hidP (bto_skip p t d u v k hz)
        clear hz hOr hALr hbw hx
        go_wp2
        go_roundw
        case rel => exact ⟨k + 1, by omega, (by rw [HS.out]; exact HUP.out), by go_num⟩
        case measure => simp [intOf]; omega
      · have hb : (v[k]?.getD 0 != 0) = true := by simpa [List.getD_eq_getElem?_getD] using hz
        have HS := hidP (bto_succ p t d u v k LU.out)
        have hrv := HRV.out k (by have := LV.out; omega)
        clear hz
        obtain ⟨b, o, rfl, _⟩ := HT.out.get 0 (by rw [HN.out]; exact Nat.mul_pos (Nat.mul_pos (by omega) (by omega)) (by omega))
        have HE := hidP hx
        have HO := hidP hOr
        have HPR := hidP (fun w' (hx' : Ext wr w') => right_any p d k b o N c t au cu u w' hd hlt HN.out hc hc2 (HT.out.below (HE.out.trans hx')) (HU.out.below (HE.out.trans hx')) hp hp2 HRT.out HRU.out)
        have HF := hidP (fun w' (hx' : Ext wr w') => (⟨(hALr.below hx').c0, (hALr.below hx').c1, (hALr.below hx').c2⟩ : _ ∧ _ ∧ _))
        clear hOr hALr hbw hx
        have HA := hidP (fun w' aR (hx' : Ext wr w') (hR : OwnI w' wr.heap.size aR d d (rightL p t d u k)) => addTo_any (some ⟨w.heap.size + 1, 0, none⟩) aR d d d (bto p t d u v k) (rightL p t d u k) (v.getD k 0) p w' (HO.out.below hx').ints
          hR.ints (HO.out.below hx').unfrozen (fun b1 o1 b2 o2 e1 e2 => by have h1 := (HO.out.at_base b1 o1 e1).2; have h2 := (hR.at_base b2 o2 e2).1; omega) (by omega)
          ((bto_res (by omega) t d u v k).bd (bto_length _ _ _ _ _ _) hp2) ((rightL_res (by omega) t d u k).bd (rightL_length _ _ _ _ _) hp2) hrv.1 (by omega) hp (by omega))
        rw [← HS.out] at HA
        have hE : Ext wr wr.drew := Ext.drew wr
        go_wp2
        (refine walkR_start (fun w' => Ext wr w') 8 (by kernel_rfl) ?_; simp only [numbered, List.take_succ_cons, List.take_zero, Nat.zero_add, Nat.reduceAdd, List.length_cons, List.length_nil])
        repeat (refine walkR_still (v := ?_) rfl (by decide +kernel) rfl (fun _ _ _ h => h) hE ?_ ?_; rotate_left; (focus (intro w' hw'; obtain ⟨f0, f1, f2⟩ := HF.out w' hw'; go_simp; all_goals (with_reducible rfl))); simp only [Act.put, List.setIfInBounds_toArray, List.set_cons_zero, List.set_cons_succ])
        (refine walkR_later ?_; simp only [List.cons_append, List.nil_append])
        repeat (refine walkR_still (v := ?_) rfl (by decide +kernel) rfl (fun _ _ _ h => h) hE ?_ ?_; rotate_left; (focus (intro w' hw'; obtain ⟨f0, f1, f2⟩ := HF.out w' hw'; go_simp; all_goals (with_reducible rfl))); simp only [Act.put, List.setIfInBounds_toArray, List.set_cons_zero, List.set_cons_succ])
        (refine walkR_only (fun w' => Ext wr w') rfl (by decide +kernel) rfl ?_ ?_)
        · exact fun _ h => h
        intro K hK
        go_simp
        refine (HPR.out _ hE).mono ?_
        rintro e w2 ⟨aR, rfl, hoR, hx2⟩
        have HX2 := hidP ((Ext.drew wr).trans hx2)
        have HA2 := hidP (HA.out _ aR HX2.out (hoR.base (B' := wr.heap.size) (Nat.le_refl _)))
        refine hK _ _ HX2.out ?_
        clear hK K hx2 hoR
        (try simp only [Act.put, List.setIfInBounds_toArray, List.set_cons_zero, List.set_cons_succ])
        (refine walkR_tail (by rfl) (by kernel_rfl) ?_; simp only [List.drop_succ_cons, List.drop_zero])
        go_wp2_with (go_at_call 78; refine HA2.out.mono ?_; rintro e w3 ⟨rfl, hu3⟩)
        go_roundw
        case rel => exact ⟨k + 1, by omega, HUP.out.trans (HX2.out.upd HO.out.ints hu3), by go_num⟩
        case measure => simp [intOf]; omega
    · have hu := HUP.out
      obtain rfl : k = d := by omega
      rw [bto_all] at hu
      have ho := hidP ((hu.own HM.out).base (B' := w.heap.size) (by omega))
      have hbw : Below (w.heap.size + 1) w1 wr := hu.below (Below.refl _ _) (by omega) (fun b' o' e _ => by cases e; omega)
      have hx := hidP (Below.trans (HX1.out.trans HX01.out) (hbw.mono (Nat.le_succ _)))
      clear hu hbw
      go_wp2
      go_ret
      exact ⟨_, rfl, ho.out, hx.out⟩
theorem Rows.flat {p : Int} {L : Nat} {rows : List (List Int)} (h : Rows p L rows) : rows.flatten.length = rows.length * L := by
  induction rows with
  | nil => simp
  | cons r rows ih =>
    have h0 := h.len 0 (by simp)
    simp only [List.getD_cons_zero] at h0
    rw [List.flatten_cons, List.length_append, h0, ih ⟨fun i hi => by have := h.len (i + 1) (by simpa using hi); simpa using this, fun i hi => by have := h.res (i + 1) (by simpa using hi); simpa using this⟩]
    simp only [List.length_cons, Nat.add_mul, Nat.one_mul]
    omega
end Go.Proofs.YtenlhfimdpcaoaaGreat

namespace Go.Proofs.YtenlhfimdpcaoaaGreat
open Go.RowKit

/-- brackets of the first i rows with all of T, and of row i with the first j -/
def prodTo (p : Int) (t : List Int) (d : Nat) (S T : List (List Int)) : Nat → Nat → List (List Int)
  | 0, j => (T.take j).map (brL p t d (S.getD 0 []))
  | i + 1, j => prodTo p t d S T i T.length ++ (T.take j).map (brL p t d (S.getD (i + 1) []))
theorem prodTo_row (p : Int) (t : List Int) (d : Nat) (S T : List (List Int)) (i : Nat) : prodTo p t d S T i T.length = prodTo p t d S T (i + 1) 0 := by simp [prodTo]
theorem prodTo_succ (p : Int) (t : List Int) (d : Nat) (S T : List (List Int)) (i j : Nat) (hj : j < T.length) : prodTo p t d S T i (j + 1) = prodTo p t d S T i j ++ [brL p t d (S.getD i []) (T.getD j [])] := by
  have e : (T.take (j + 1)).map (brL p t d (S.getD i [])) = (T.take j).map (brL p t d (S.getD i [])) ++ [brL p t d (S.getD i []) (T.getD j [])] := by
    rw [List.take_succ_eq_append_getElem hj, List.map_append]
    simp [List.getD_eq_getElem?_getD, hj]
  cases i with
  | zero => exact e
  | succ i => simp only [prodTo]; rw [e, List.append_assoc]
theorem prodTo_length (p : Int) (t : List Int) (d : Nat) (S T : List (List Int)) (i j : Nat) (hj : j ≤ T.length) : (prodTo p t d S T i j).length = i * T.length + j := by
  induction i generalizing j with
  | zero => simp [prodTo, hj]
  | succ i ih => simp only [prodTo, List.length_append, ih _ (Nat.le_refl _), List.length_map, List.length_take, Nat.min_eq_left hj, Nat.add_mul, Nat.one_mul]
theorem map_br_rows {p : Int} (hp : 0 < p) (t : List Int) (d : Nat) (u : List Int) (T : List (List Int)) : Rows p d (T.map (brL p t d u)) := by
  have key : ∀ i, i < (T.map (brL p t d u)).length → ∃ v, (T.map (brL p t d u)).getD i [] = brL p t d u v := fun i hi => by
    simp at hi
    exact ⟨T[i], by simp [List.getD_eq_getElem?_getD, hi]⟩
  exact ⟨fun i hi => by obtain ⟨v, e⟩ := key i hi; rw [e]; exact modL_length _ _ _, fun i hi => by obtain ⟨v, e⟩ := key i hi; rw [e]; exact Res.modL hp _ _⟩
theorem Rows.append {p : Int} {L : Nat} {R1 R2 : List (List Int)} (h1 : Rows p L R1) (h2 : Rows p L R2) : Rows p L (R1 ++ R2) := by
  have key : ∀ i, i < (R1 ++ R2).length → (i < R1.length ∧ (R1 ++ R2).getD i [] = R1.getD i []) ∨ (i - R1.length < R2.length ∧ (R1 ++ R2).getD i [] = R2.getD (i - R1.length) []) := fun i hi => by
    rw [List.length_append] at hi
    rcases Nat.lt_or_ge i R1.length with h | h
    · exact .inl ⟨h, by simp [List.getD_eq_getElem?_getD, List.getElem?_append_left h]⟩
    · exact .inr ⟨by omega, by simp [List.getD_eq_getElem?_getD, List.getElem?_append_right h]⟩
  constructor
  · intro i hi
    rcases key i hi with ⟨h, e⟩ | ⟨h, e⟩ <;> rw [e]
    · exact h1.len i h
    · exact h2.len _ h
  · intro i hi
    rcases key i hi with ⟨h, e⟩ | ⟨h, e⟩ <;> rw [e]
    · exact h1.res i h
    · exact h2.res _ h
theorem prodTo_rows {p : Int} (hp : 0 < p) (t : List Int) (d : Nat) (S T : List (List Int)) (i j : Nat) : Rows p d (prodTo p t d S T i j) := by
  induction i generalizing j with
  | zero => exact map_br_rows hp _ _ _ _
  | succ i ih => exact (ih _).append (map_br_rows hp _ _ _ _)
end Go.Proofs.YtenlhfimdpcaoaaGreat

namespace Go.Proofs.YtenlhfimdpcaoaaGreat
open Go.RowKit

theorem matRows_flatten {p : Int} {d : Nat} {R : List (List Int)} (h : Rows p d R) : matRows R.length d R.flatten = R := by
  induction R with
  | nil => rfl
  | cons r R ih =>
    have h0 := h.len 0 (by simp)
    simp only [List.getD_cons_zero] at h0
    have ht : Rows p d R := ⟨fun i hi => by have := h.len (i + 1) (by simpa using hi); simpa using this, fun i hi => by have := h.res (i + 1) (by simpa using hi); simpa using this⟩
    have ih := ih ht
    unfold matRows at ih ⊢
    rw [List.length_cons, List.range_succ_eq_map, List.map_cons, List.map_map]
    congr 1
    · simp [h0]
    · conv => rhs; rw [← ih]
      apply List.map_congr_left
      intro i _
      show List.take d (List.drop ((i + 1) * d) (r :: R).flatten) = List.take d (List.drop (i * d) R.flatten)
      rw [List.flatten_cons, Nat.add_mul, Nat.one_mul, Nat.add_comm, ← List.drop_drop]
      rw [List.drop_left' h0]
theorem OwnI.caps {w : World} {B : Nat} {a : Option Addr} {n c : Nat} {xs : List Int} (h : OwnI w B a n c xs) : n ≤ c ∧ c ≤ 9223372036854775807 := by
  rcases h.row.2 with ⟨he, h0⟩ | ⟨g, cap, cur, he, _, _, hnc, hcm, _⟩
  · simp only [Value.slice.injEq] at he
    omega
  · simp only [Value.slice.injEq] at he
    unfold maxLen at hcm
    omega
end Go.Proofs.YtenlhfimdpcaoaaGreat

namespace Go.Proofs.YtenlhfimdpcaoaaGreat
open Go.RowKit

end Go.Proofs.YtenlhfimdpcaoaaGreat

namespace Go.Proofs.YtenlhfimdpcaoaaGreat
open Go.RowKit

theorem matRows_flat {r d : Nat} {data : List Int} (h : data.length = r * d) : (matRows r d data).flatten = data := by
  induction r generalizing data with
  | zero => simp at h; subst h; rfl
  | succ r ih =>
    unfold matRows at ih ⊢
    rw [List.range_succ_eq_map, List.map_cons, List.map_map, List.flatten_cons]
    have h1 : (data.drop d).length = r * d := by rw [List.length_drop, h, Nat.add_mul, Nat.one_mul]; omega
    have h2 := ih h1
    have e : (List.map ((fun i => List.take d (List.drop (i * d) data)) ∘ Nat.succ) (List.range r)) = (List.range r).map fun i => List.take d (List.drop (i * d) (data.drop d)) := by
      apply List.map_congr_left
      intro i _
      show List.take d (List.drop ((i + 1) * d) data) = _
      rw [List.drop_drop, Nat.add_mul, Nat.one_mul, Nat.add_comm]
    rw [e, h2]
    simp
end Go.Proofs.YtenlhfimdpcaoaaGreat

namespace Go.Proofs.YtenlhfimdpcaoaaGreat
open Go.RowKit

theorem sumTo_swap3 (n m k : Nat) (f : Nat → Nat → Nat → Int) : sumTo n (fun i => sumTo m fun j => sumTo k fun l => f i j l) = sumTo k fun l => sumTo n fun i => sumTo m fun j => f i j l := by
  rw [sumTo_congr (g := fun i => sumTo k fun l => sumTo m fun j => f i j l) fun i _ => sumTo_swap m k _, sumTo_swap]
theorem unitTo_get (n : Nat) : ∀ k, k ≤ n → ∀ i j, i < n → j < n → (unitTo n k).getD (i * n + j) 0 = if i < k ∧ i = j then 1 else 0
  | 0, _, i, j, hi, hj => by
    rw [if_neg (by omega)]
    unfold unitTo
    simp [List.getD_eq_getElem?_getD, place_lt hi hj]
  | k + 1, hk, i, j, hi, hj => by
    have ih := unitTo_get n k (by omega) i j hi hj
    have hlt : k * n + k < (unitTo n k).length := by rw [unitTo_length]; exact place_lt (by omega) (by omega)
    unfold unitTo
    rw [getD_setL _ _ _ _ _ hlt]
    by_cases e : k * n + k = i * n + j
    · have e1 : i = k := by
        have h1 := place_div (n := n) (i := k) (j := k) (by omega)
        have h2 := place_div (n := n) (i := i) (j := j) hj
        rw [e] at h1
        omega
      subst e1
      have e2 : i = j := by omega
      rw [if_pos e, if_pos ⟨by omega, e2⟩]
    · rw [if_neg e, ih]
      have : (i < k ∧ i = j) ↔ (i < k + 1 ∧ i = j) := by
        constructor
        · rintro ⟨a, b⟩; exact ⟨by omega, b⟩
        · rintro ⟨a, b⟩
          refine ⟨?_, b⟩
          subst b
          rcases Nat.lt_or_ge i k with h | h
          · exact h
          · obtain rfl : i = k := by omega
            exact absurd rfl e
      simp only [this]
/-! ### the derived series -/
end Go.Proofs.YtenlhfimdpcaoaaGreat

namespace Go.Proofs.YtenlhfimdpcaoaaGreat
open Go.RowKit

/-- the bracket of basis elements i and j with k, by tables -/
def jT (t : List Int) (d i j k m : Nat) : Int := sumTo d fun l => tab t d i j l * tab t d l k m
structure LieT (p : Int) (d : Nat) (t : List Int) : Prop where
  pos : 0 < p
  skew : ∀ i j m, i < d → j < d → m < d → (tab t d i j m + tab t d j i m) % p = 0
  diag : ∀ i m, i < d → m < d → tab t d i i m % p = 0
  jac : ∀ i j k, i < d → j < d → k < d → ∀ m, m < d → (jT t d i j k m + jT t d j k i m + jT t d k i j m) % p = 0
theorem neg_of_sum {p a b : Int} (h : (a + b) % p = 0) : a % p = (-b) % p := by
  rw [show a = (a + b) + -b by omega, Int.add_emod, h, Int.zero_add, Int.emod_emod]
theorem jT_skew {p : Int} {d : Nat} {t : List Int} (hs : ∀ i j m, i < d → j < d → m < d → (tab t d i j m + tab t d j i m) % p = 0) {i j k m : Nat} (hi : i < d) (hj : j < d) : (jT t d i j k m + jT t d j i k m) % p = 0 := by
  unfold jT
  rw [← sumTo_addF, sumTo_modC (g := fun _ => 0) fun l hl => by
    rw [← Int.add_mul, Int.mul_emod, hs i j l hi hj hl, Int.zero_mul], sumTo_zero]
  rfl
theorem jac_all {p : Int} {d : Nat} {t : List Int} (hs : ∀ i j m, i < d → j < d → m < d → (tab t d i j m + tab t d j i m) % p = 0) (hd : ∀ i m, i < d → m < d → tab t d i i m % p = 0)
    (hj : ∀ i j k, i < d → j < d → k < d → i < j → j < k → ∀ m, m < d → (jT t d i j k m + jT t d j k i m + jT t d k i j m) % p = 0) :
    ∀ i j k, i < d → j < d → k < d → ∀ m, m < d → (jT t d i j k m + jT t d j k i m + jT t d k i j m) % p = 0 := by
  have cyc : ∀ {i j k : Nat}, (∀ m, m < d → (jT t d i j k m + jT t d j k i m + jT t d k i j m) % p = 0) → ∀ m, m < d → (jT t d j k i m + jT t d k i j m + jT t d i j k m) % p = 0 := fun {i j k} h m hm => by
    rw [← h m hm]
    congr 1
    omega
  have swp : ∀ {i j k : Nat}, i < d → j < d → k < d → (∀ m, m < d → (jT t d i j k m + jT t d j k i m + jT t d k i j m) % p = 0) → ∀ m, m < d → (jT t d j i k m + jT t d i k j m + jT t d k j i m) % p = 0 := fun {i j k} hi hj hk h m hm => by
    have e1 := jT_skew hs (k := k) (m := m) hi hj
    have e2 := jT_skew hs (k := j) (m := m) hk hi
    have e3 := jT_skew hs (k := i) (m := m) hj hk
    have h1 := h m hm
    have e4 : jT t d j i k m + jT t d i k j m + jT t d k j i m = ((jT t d i j k m + jT t d j i k m) + (jT t d k i j m + jT t d i k j m) + (jT t d j k i m + jT t d k j i m)) - (jT t d i j k m + jT t d j k i m + jT t d k i j m) := by omega
    rw [e4, Int.sub_emod, h1, Int.add_emod, Int.add_emod (jT t d i j k m + jT t d j i k m), e1, e2, e3]
    rfl
  have dup : ∀ {i k : Nat}, i < d → k < d → ∀ m, m < d → (jT t d i i k m + jT t d i k i m + jT t d k i i m) % p = 0 := fun {i k} hi hk m hm => by
    have e1 : jT t d i i k m % p = 0 := by
      unfold jT
      rw [sumTo_modC (g := fun _ => 0) fun l hl => by rw [Int.mul_emod, hd i l hi hl, Int.zero_mul], sumTo_zero]
      rfl
    have e2 := jT_skew hs (k := i) (m := m) hi hk
    rw [Int.add_assoc, Int.add_emod, e1, e2]
    rfl
  intro i j k hi hj' hk
  rcases Nat.lt_trichotomy i j with h1 | h1 | h1
  · rcases Nat.lt_trichotomy j k with h2 | h2 | h2
    · exact hj i j k hi hj' hk h1 h2
    · subst h2
      exact cyc (cyc (dup hj' hi))
    · rcases Nat.lt_trichotomy i k with h3 | h3 | h3
      · -- i < k < j
        exact cyc (swp hi hk hj' (hj i k j hi hk hj' h3 h2))
      · subst h3
        exact cyc (dup hi hj')
      · -- k < i < j
        exact cyc (hj k i j hk hi hj' h3 h1)
  · subst h1
    exact dup hi hk
  · rcases Nat.lt_trichotomy i k with h2 | h2 | h2
    · -- j < i < k
      exact swp hj' hi hk (hj j i k hj' hi hk h1 h2)
    · subst h2
      exact cyc (dup hi hj')
    · rcases Nat.lt_trichotomy j k with h3 | h3 | h3
      · -- j < k < i
        exact cyc (cyc (hj j k i hj' hk hi h3 h2))
      · subst h3
        exact cyc (cyc (dup hj' hi))
      · -- k < j < i
        exact cyc (cyc (swp hk hj' hi (hj k j i hk hj' hi h3 h1)))
theorem lieT_of {p d : Int} {t : List Int} (h : algB p d t = true) : LieT p d.toNat t := by
  obtain ⟨hh, hsk, hjac⟩ := algB_true.1 h
  obtain ⟨hp, hd0, hd, hl, hr⟩ := headB_true hh
  obtain ⟨p2, _⟩ := prime_bounds hp
  obtain ⟨n, hn⟩ : ∃ n, n = d.toNat := ⟨_, rfl⟩
  rw [← hn] at hsk hjac ⊢
  have hlt : t.length = n * n * n := by
    have : (n : Int) = d := by omega
    rw [← this] at hl
    have e : ((n * n * n : Nat) : Int) = (n : Int) * n * n := by simp
    omega
  have hpl : ∀ i j, i < n → j < n → (pairL t n i j).length = n := fun i j hi hj => pairL_length hlt hi hj
  have sk1 : ∀ i j, i < n → j ≤ i → ∀ m, m < n → (tab t n i j m + tab t n j i m) % p = 0 := fun i j hi hj m hm => by
    have h1 := hsk i hi j (by omega)
    unfold skewB at h1
    simp only [Bool.and_eq_true] at h1
    have h2 := zeroB_true.1 h1.1 m (by rw [addL_length, hpl i j hi (by omega)]; exact hm)
    rw [addL_get _ _ _ _ _ (by rw [hpl i j hi (by omega)]; exact hm), pairL_get i j m hm, pairL_get j i m hm, Int.one_mul] at h2
    exact h2
  have skew : ∀ i j m, i < n → j < n → m < n → (tab t n i j m + tab t n j i m) % p = 0 := fun i j m hi hj hm => by
    rcases Nat.le_total j i with h1 | h1
    · exact sk1 i j hi h1 m hm
    · rw [Int.add_comm]
      exact sk1 j i hj h1 m hm
  have diag : ∀ i m, i < n → m < n → tab t n i i m % p = 0 := fun i m hi hm => by
    have h1 := hsk i hi i (by omega)
    unfold skewB at h1
    simp only [Bool.and_eq_true, Bool.or_eq_true, decide_eq_true_eq, ne_eq, not_true_eq_false, false_or] at h1
    have h2 := zeroB_true.1 h1.2 m (by rw [hpl i i hi hi]; exact hm)
    rw [pairL_get i i m hm] at h2
    rw [h2]
    rfl
  have hright : ∀ i j k, i < n → j < n → ∀ m, m < n → (rightL p t n (pairL t n i j) k).getD m 0 = jT t n i j k m % p := fun i j k hi hj m hm => by
    unfold rightL jT
    rw [modL_get _ _ _ _ hm, hpl i j hi hj]
    congr 1
    exact sumTo_congr fun l hl => by rw [pairL_get i j l hl]
  refine ⟨by omega, skew, diag, jac_all skew diag fun i j k hi hj hk h1 h2 m hm => ?_⟩
  have h3 := hjac i hi j hj k hk h1 h2
  unfold jacB jacL at h3
  have h4 := zeroB_true.1 h3 m (by simp only [addL_length, rightL_length]; exact hm)
  rw [addL_get _ _ _ _ _ (by simp only [addL_length, rightL_length]; exact hm), addL_get _ _ _ _ _ (by simp only [rightL_length]; exact hm), hright i j k hi hj m hm, hright j k i hj hk m hm, hright k i j hk hi m hm, Int.one_mul, Int.one_mul] at h4
  rw [← h4, Int.emod_add_emod, Int.add_emod_emod, Int.add_emod (jT t n i j k m + jT t n j k i m), Int.add_emod (jT t n i j k m % p + jT t n j k i m % p)]
  rw [Int.add_emod (jT t n i j k m)]
/-! ### all elements -/
theorem sumTo_pairs (f : Nat → Nat → Int) : ∀ n, (sumTo n fun i => sumTo n fun j => f i j) = sumTo n fun i => f i i + sumTo i fun j => f i j + f j i
  | 0 => rfl
  | n + 1 => by
    have ih := sumTo_pairs f n
    simp only [sumTo]
    rw [sumTo_addF, ih]
    have e : (sumTo n fun j => f n j + f j n) = (sumTo n fun j => f n j) + sumTo n fun j => f j n := sumTo_addF n _ _
    rw [e]
    omega
/-- the bracket of an element with itself -/
theorem br_self {p : Int} {d : Nat} {t : List Int} (h : LieT p d t) (x : List Int) : brL p t d x x = List.replicate d 0 := by
  rw [← modL_zero p]
  unfold brL
  refine modL_congr fun m hm => ?_
  rw [sumTo_pairs (fun i j => x.getD i 0 * x.getD j 0 * tab t d i j m) d, sumTo_modC (g := fun _ => 0) fun i hi => by
    rw [Int.add_emod, Int.mul_emod, h.diag i m hi hm, Int.mul_zero, sumTo_modC (g := fun _ => 0) fun j hj => by
      rw [Int.mul_comm (x.getD j 0), ← Int.mul_add, Int.mul_emod, h.skew i j m hi (by omega) hm, Int.mul_zero], sumTo_zero]
    rfl, sumTo_zero]
theorem br_anti {p : Int} {d : Nat} {t : List Int} (h : LieT p d t) (x y : List Int) : addL p (brL p t d x y) 1 (brL p t d y x) = List.replicate d 0 := by
  have hp := h.pos
  rw [← modL_zero p]
  have e : brL p t d x y = modL p d fun k => sumTo d fun i' => sumTo d fun j' => x.getD i' 0 * y.getD j' 0 * tab t d i' j' k := rfl
  rw [e, addL_modL]
  refine modL_congr fun m hm => ?_
  unfold brL
  rw [modL_get _ _ _ _ hm, Int.one_mul, Int.add_emod_emod, sumTo_swap d d (fun i' j' => y.getD i' 0 * x.getD j' 0 * tab t d i' j' m), ← sumTo_addF, sumTo_modC (g := fun _ => 0) fun i hi => by
    rw [← sumTo_addF, sumTo_modC (g := fun _ => 0) fun j hj => by
      rw [Int.mul_comm (y.getD j 0), ← Int.mul_add, Int.mul_emod, h.skew i j m hi hj hm, Int.mul_zero], sumTo_zero], sumTo_zero]
/-- sums over three places -/
def sum3 (d : Nat) (f : Nat → Nat → Nat → Int) : Int := sumTo d fun i => sumTo d fun j => sumTo d fun k => f i j k
theorem sum3_congr {p : Int} {d : Nat} {f g : Nat → Nat → Nat → Int} (h : ∀ i j k, i < d → j < d → k < d → f i j k % p = g i j k % p) : sum3 d f % p = sum3 d g % p :=
  sumTo_modC fun i hi => sumTo_modC fun j hj => sumTo_modC fun k hk => h i j k hi hj hk
theorem sum3_add (d : Nat) (f g : Nat → Nat → Nat → Int) : sum3 d (fun i j k => f i j k + g i j k) = sum3 d f + sum3 d g := by
  unfold sum3
  rw [← sumTo_addF]
  refine sumTo_congr fun i _ => ?_
  rw [← sumTo_addF]
  exact sumTo_congr fun j _ => sumTo_addF d _ _
theorem sum3_cyc (d : Nat) (f : Nat → Nat → Nat → Int) : sum3 d (fun i j k => f j k i) = sum3 d f := by
  unfold sum3
  rw [sumTo_swap]
  refine sumTo_congr fun j _ => ?_
  rw [sumTo_swap]
theorem br_br {p : Int} {d : Nat} {t : List Int} (x y z : List Int) : brL p t d (brL p t d x y) z = modL p d fun m => sum3 d fun i j k => x.getD i 0 * y.getD j 0 * z.getD k 0 * jT t d i j k m := by
  unfold brL
  refine modL_congr fun m hm => ?_
  have e1 : (sumTo d fun l => sumTo d fun k => (modL p d fun k => sumTo d fun i' => sumTo d fun j' => x.getD i' 0 * y.getD j' 0 * tab t d i' j' k).getD l 0 * z.getD k 0 * tab t d l k m) % p = (sumTo d fun l => sumTo d fun k => sumTo d fun i => sumTo d fun j => x.getD i 0 * y.getD j 0 * z.getD k 0 * (tab t d i j l * tab t d l k m)) % p := by
    refine sumTo_modC fun l hl => sumTo_modC fun k _ => ?_
    rw [modL_get _ _ _ _ hl, Int.mul_assoc, mul_emod_l, sumTo_mulR]
    congr 1
    refine sumTo_congr fun i _ => ?_
    rw [sumTo_mulR]
    refine sumTo_congr fun j _ => ?_
    simp only [Int.mul_assoc, Int.mul_left_comm, Int.mul_comm]
  rw [e1]
  congr 1
  unfold sum3 jT
  have e2 : (sumTo d fun l => sumTo d fun k => sumTo d fun i => sumTo d fun j => x.getD i 0 * y.getD j 0 * z.getD k 0 * (tab t d i j l * tab t d l k m)) = sumTo d fun l => sumTo d fun i => sumTo d fun j => sumTo d fun k => x.getD i 0 * y.getD j 0 * z.getD k 0 * (tab t d i j l * tab t d l k m) := by
    refine sumTo_congr fun l _ => ?_
    rw [sumTo_swap]
    exact sumTo_congr fun i _ => sumTo_swap d d _
  rw [e2, sumTo_swap]
  refine sumTo_congr fun i _ => ?_
  rw [sumTo_swap]
  refine sumTo_congr fun j _ => ?_
  rw [sumTo_swap]
  exact sumTo_congr fun k _ => (sumTo_mulL d _ _).symm
/-- the law of Jacobi for all elements -/
theorem br_jacobi {p : Int} {d : Nat} {t : List Int} (h : LieT p d t) (x y z : List Int) : addL p (addL p (brL p t d (brL p t d x y) z) 1 (brL p t d (brL p t d y z) x)) 1 (brL p t d (brL p t d z x) y) = List.replicate d 0 := by
  rw [br_br x y z, addL_modL, addL_modL, ← modL_zero p]
  refine modL_congr fun m hm => ?_
  rw [br_br y z x, br_br z x y, modL_get _ _ _ _ hm, modL_get _ _ _ _ hm, Int.one_mul, Int.one_mul, Int.add_emod_emod, Int.add_right_comm, Int.add_emod_emod, Int.add_right_comm]
  have e1 : (sum3 d fun i j k => y.getD i 0 * z.getD j 0 * x.getD k 0 * jT t d i j k m) = sum3 d fun i j k => x.getD i 0 * y.getD j 0 * z.getD k 0 * jT t d j k i m := by
    rw [← sum3_cyc d (fun i j k => y.getD i 0 * z.getD j 0 * x.getD k 0 * jT t d i j k m)]
    unfold sum3
    refine sumTo_congr fun i _ => sumTo_congr fun j _ => sumTo_congr fun k _ => ?_
    simp only [Int.mul_assoc, Int.mul_left_comm, Int.mul_comm]
  have e2 : (sum3 d fun i j k => z.getD i 0 * x.getD j 0 * y.getD k 0 * jT t d i j k m) = sum3 d fun i j k => x.getD i 0 * y.getD j 0 * z.getD k 0 * jT t d k i j m := by
    rw [← sum3_cyc d (fun i j k => z.getD i 0 * x.getD j 0 * y.getD k 0 * jT t d i j k m), ← sum3_cyc d (fun i j k => z.getD j 0 * x.getD k 0 * y.getD i 0 * jT t d j k i m)]
    unfold sum3
    refine sumTo_congr fun i _ => sumTo_congr fun j _ => sumTo_congr fun k _ => ?_
    simp only [Int.mul_assoc, Int.mul_left_comm, Int.mul_comm]
  rw [e1, e2, ← sum3_add, ← sum3_add, sum3_congr (g := fun _ _ _ => 0) fun i j k hi hj hk => by
    rw [← Int.mul_add, ← Int.mul_add, Int.mul_emod, h.jac i j k hi hj hk m hm, Int.mul_zero]]
  unfold sum3
  rw [sumTo_congr (g := fun _ => 0) fun i _ => by rw [sumTo_congr (g := fun _ => 0) fun j _ => sumTo_zero d, sumTo_zero], sumTo_zero]
/-- the bracket is linear -/
theorem br_lin {p : Int} {d : Nat} {t : List Int} (x z y : List Int) (c : Int) (hx : x.length = d) : brL p t d (addL p x c z) y = addL p (brL p t d x y) c (brL p t d z y) := by
  have e : brL p t d x y = modL p d fun k => sumTo d fun i' => sumTo d fun j' => x.getD i' 0 * y.getD j' 0 * tab t d i' j' k := rfl
  rw [e, addL_modL]
  unfold brL
  refine modL_congr fun m hm => ?_
  rw [modL_get _ _ _ _ hm]
  have e2 : (sumTo d fun i => sumTo d fun j => (addL p x c z).getD i 0 * y.getD j 0 * tab t d i j m) % p = ((sumTo d fun i => sumTo d fun j => x.getD i 0 * y.getD j 0 * tab t d i j m) + c * (sumTo d fun i => sumTo d fun j => z.getD i 0 * y.getD j 0 * tab t d i j m)) % p := by
    rw [sumTo_mulL, ← sumTo_addF]
    refine sumTo_modC fun i hi => ?_
    rw [sumTo_mulL, ← sumTo_addF]
    refine sumTo_modC fun j _ => ?_
    rw [addL_get _ _ _ _ _ (by omega), Int.mul_assoc, mul_emod_l, Int.add_mul]
    simp only [Int.mul_assoc]
  rw [e2, Int.add_emod, Int.add_emod _ (c * _ ), mul_emod_r]
end Go.Proofs.YtenlhfimdpcaoaaGreat

namespace Go.Proofs.YtenlhfimdpcaoaaGreat
open Go.RowKit

theorem algB_of_lie {p d : Int} {t : List Int} (hh : headB p d t = true) (h : LieT p d.toNat t) : algB p d t = true := by
  obtain ⟨hp, hd0, hd, hl, hr⟩ := headB_true hh
  have hp0 := h.pos
  obtain ⟨n, hn⟩ : ∃ n, n = d.toNat := ⟨_, rfl⟩
  rw [algB_true]
  unfold AlgP
  rw [← hn] at h ⊢
  have hlt : t.length = n * n * n := by
    have : (n : Int) = d := by omega
    rw [← this] at hl
    have e : ((n * n * n : Nat) : Int) = (n : Int) * n * n := by simp
    omega
  have hpl : ∀ i j, i < n → j < n → (pairL t n i j).length = n := fun i j hi hj => pairL_length hlt hi hj
  have hright : ∀ i j k, i < n → j < n → ∀ m, m < n → (rightL p t n (pairL t n i j) k).getD m 0 = jT t n i j k m % p := fun i j k hi hj m hm => by
    unfold rightL jT
    rw [modL_get _ _ _ _ hm, hpl i j hi hj]
    congr 1
    exact sumTo_congr fun l hl => by rw [pairL_get i j l hl]
  refine ⟨hh, fun i hi j hj => ?_, fun i hi j hj k hk h1 h2 => ?_⟩
  · have hj' : j < n := by omega
    unfold skewB
    rw [Bool.and_eq_true, Bool.or_eq_true]
    refine ⟨zeroB_true.2 fun m hm => ?_, ?_⟩
    · rw [addL_length, hpl i j hi hj'] at hm
      rw [addL_get _ _ _ _ _ (by rw [hpl i j hi hj']; exact hm), pairL_get i j m hm, pairL_get j i m hm, Int.one_mul]
      exact h.skew i j m hi hj' hm
    · right
      refine zeroB_true.2 fun m hm => ?_
      have hm' : m < n := by rw [hpl i i hi hi] at hm; exact hm
      have h3 := h.diag i m hi hm'
      have h4 := pairL_res hr n i i m hm
      rw [pairL_get i i m hm'] at h4 ⊢
      rwa [Int.emod_eq_of_lt h4.1 h4.2] at h3
  · unfold jacB jacL
    refine zeroB_true.2 fun m hm => ?_
    simp only [addL_length, rightL_length] at hm
    rw [addL_get _ _ _ _ _ (by simp only [addL_length, rightL_length]; exact hm), addL_get _ _ _ _ _ (by simp only [rightL_length]; exact hm), hright i j k hi hj m hm, hright j k i hj hk m hm, hright k i j hk hi m hm, Int.one_mul, Int.one_mul]
    rw [Int.emod_add_emod, Int.add_emod_emod, ← h.jac i j k hi hj hk m hm]
    rw [Int.add_emod, Int.add_emod (jT t n i j k m + jT t n j k i m), Int.add_emod (jT t n i j k m), Int.add_emod (jT t n i j k m % p), Int.emod_emod, Int.emod_emod]
/-! ### sums -/
theorem sumTo_split (a b : Nat) (f : Nat → Int) : sumTo (a + b) f = sumTo a f + sumTo b fun l => f (a + l) := by
  induction b with
  | zero => simp [sumTo]
  | succ b ih =>
    show sumTo (a + b) f + f (a + b) = _
    rw [ih]
    simp only [sumTo]
    omega
/-- the table of a sum, number by number -/
def sumE (t1 t2 : List Int) (a b i j m : Nat) : Int := if i < a ∧ j < a ∧ m < a then tab t1 a i j m else if a ≤ i ∧ a ≤ j ∧ a ≤ m then tab t2 b (i - a) (j - a) (m - a) else 0
theorem sumE_jac (t1 t2 : List Int) (a b i j k m : Nat) : (sumTo (a + b) fun l => sumE t1 t2 a b i j l * sumE t1 t2 a b l k m) = if i < a ∧ j < a ∧ k < a ∧ m < a then jT t1 a i j k m else if a ≤ i ∧ a ≤ j ∧ a ≤ k ∧ a ≤ m then jT t2 b (i - a) (j - a) (k - a) (m - a) else 0 := by
  rw [sumTo_split]
  by_cases h1 : i < a ∧ j < a ∧ k < a ∧ m < a
  · obtain ⟨h2, h3, h4, h5⟩ := h1
    rw [if_pos ⟨h2, h3, h4, h5⟩, sumTo_congr (n := b) (g := fun _ => 0) fun l _ => by
      unfold sumE
      rw [if_neg (by omega), if_neg (by omega), Int.zero_mul], sumTo_zero, Int.add_zero]
    unfold jT
    exact sumTo_congr fun l hl => by
      unfold sumE
      rw [if_pos (by omega), if_pos (by omega)]
  · rw [if_neg h1]
    by_cases h6 : a ≤ i ∧ a ≤ j ∧ a ≤ k ∧ a ≤ m
    · obtain ⟨h2, h3, h4, h5⟩ := h6
      rw [if_pos ⟨h2, h3, h4, h5⟩, sumTo_congr (n := a) (g := fun _ => 0) fun l hl => by
        unfold sumE
        rw [if_neg (by omega), if_neg (by omega), Int.zero_mul], sumTo_zero, Int.zero_add]
      unfold jT
      exact sumTo_congr fun l hl => by
        unfold sumE
        rw [if_neg (by omega), if_pos (by omega), if_neg (by omega), if_pos (by omega), Nat.add_sub_cancel_left]
    · rw [if_neg h6, sumTo_congr (n := a) (g := fun _ => 0) fun l hl => by
        unfold sumE
        by_cases h7 : i < a ∧ j < a ∧ l < a
        · rw [if_pos h7]
          by_cases h8 : l < a ∧ k < a ∧ m < a
          · exact absurd ⟨h7.1, h7.2.1, h8.2⟩ h1
          · rw [if_neg h8, if_neg (by omega), Int.mul_zero]
        · rw [if_neg h7, if_neg (by omega), Int.zero_mul], sumTo_zero, sumTo_congr (n := b) (g := fun _ => 0) fun l hl => by
        unfold sumE
        rw [if_neg (by omega)]
        by_cases h7 : a ≤ i ∧ a ≤ j ∧ a ≤ a + l
        · rw [if_pos h7, if_neg (by omega)]
          by_cases h8 : a ≤ a + l ∧ a ≤ k ∧ a ≤ m
          · exact absurd ⟨h7.1, h7.2.1, h8.2⟩ h6
          · rw [if_neg h8, Int.mul_zero]
        · rw [if_neg h7, Int.zero_mul], sumTo_zero]
      rfl
theorem sum_lie {p : Int} {a b : Nat} {t1 t2 T : List Int} (h1 : LieT p a t1) (h2 : LieT p b t2) (hT : ∀ i j m, i < a + b → j < a + b → m < a + b → tab T (a + b) i j m = sumE t1 t2 a b i j m) : LieT p (a + b) T := by
  refine ⟨h1.pos, fun i j m hi hj hm => ?_, fun i m hi hm => ?_, fun i j k hi hj hk m hm => ?_⟩
  · rw [hT i j m hi hj hm, hT j i m hj hi hm]
    unfold sumE
    by_cases e1 : i < a ∧ j < a ∧ m < a
    · rw [if_pos e1, if_pos ⟨e1.2.1, e1.1, e1.2.2⟩]
      exact h1.skew i j m e1.1 e1.2.1 e1.2.2
    · rw [if_neg e1, if_neg (show ¬(j < a ∧ i < a ∧ m < a) from fun h => e1 ⟨h.2.1, h.1, h.2.2⟩)]
      by_cases e2 : a ≤ i ∧ a ≤ j ∧ a ≤ m
      · rw [if_pos e2, if_pos ⟨e2.2.1, e2.1, e2.2.2⟩]
        exact h2.skew _ _ _ (by omega) (by omega) (by omega)
      · rw [if_neg e2, if_neg (show ¬(a ≤ j ∧ a ≤ i ∧ a ≤ m) from fun h => e2 ⟨h.2.1, h.1, h.2.2⟩)]
        rfl
  · rw [hT i i m hi hi hm]
    unfold sumE
    split
    · rename_i e1
      exact h1.diag i m e1.1 e1.2.2
    · split
      · exact h2.diag _ _ (by omega) (by omega)
      · rfl
  · have key : ∀ i j k, i < a + b → j < a + b → k < a + b → jT T (a + b) i j k m = sumTo (a + b) fun l => sumE t1 t2 a b i j l * sumE t1 t2 a b l k m := fun i j k hi hj hk => by
      unfold jT
      exact sumTo_congr fun l hl => by rw [hT i j l hi hj hl, hT l k m hl hk hm]
    rw [key i j k hi hj hk, key j k i hj hk hi, key k i j hk hi hj, sumE_jac, sumE_jac, sumE_jac]
    by_cases e1 : i < a ∧ j < a ∧ k < a ∧ m < a
    · obtain ⟨e2, e3, e4, e5⟩ := e1
      rw [if_pos ⟨e2, e3, e4, e5⟩, if_pos ⟨e3, e4, e2, e5⟩, if_pos ⟨e4, e2, e3, e5⟩]
      exact h1.jac i j k e2 e3 e4 m e5
    · rw [if_neg e1, if_neg (show ¬(j < a ∧ k < a ∧ i < a ∧ m < a) from fun h => e1 ⟨h.2.2.1, h.1, h.2.1, h.2.2.2⟩), if_neg (show ¬(k < a ∧ i < a ∧ j < a ∧ m < a) from fun h => e1 ⟨h.2.1, h.2.2.1, h.1, h.2.2.2⟩)]
      by_cases e2 : a ≤ i ∧ a ≤ j ∧ a ≤ k ∧ a ≤ m
      · obtain ⟨e3, e4, e5, e6⟩ := e2
        rw [if_pos ⟨e3, e4, e5, e6⟩, if_pos ⟨e4, e5, e3, e6⟩, if_pos ⟨e5, e3, e4, e6⟩]
        exact h2.jac _ _ _ (by omega) (by omega) (by omega) _ (by omega)
      · rw [if_neg e2, if_neg (show ¬(a ≤ j ∧ a ≤ k ∧ a ≤ i ∧ a ≤ m) from fun h => e2 ⟨h.2.2.1, h.1, h.2.1, h.2.2.2⟩), if_neg (show ¬(a ≤ k ∧ a ≤ i ∧ a ≤ j ∧ a ≤ m) from fun h => e2 ⟨h.2.1, h.2.2.1, h.1, h.2.2.2⟩)]
        rfl
/-! ### other bases -/
/-- rows without a relation -/
def Indep (p : Int) (d : Nat) (M : List (List Int)) : Prop := ∀ c : Nat → Int, (∀ j, j < d → (sumTo M.length fun i => c i * (M.getD i []).getD j 0) % p = 0) → ∀ i, i < M.length → c i % p = 0
/-- the brackets of the rows M are told by the table T -/
def ToldBy (p : Int) (t : List Int) (d : Nat) (M : List (List Int)) (T : List Int) : Prop :=
  ∀ i j, i < M.length → j < M.length → ∀ q, q < d → (sumTo M.length fun k => tab T M.length i j k * (M.getD k []).getD q 0) % p = (brL p t d (M.getD i []) (M.getD j [])).getD q 0
theorem br_comb {p : Int} {t : List Int} {d : Nat} {M : List (List Int)} {u : List Int} (c : Nat → Int) (hu : ∀ q, q < d → u.getD q 0 % p = (sumTo M.length fun l => c l * (M.getD l []).getD q 0) % p) (y : List Int) {m : Nat} (hm : m < d) :
    (brL p t d u y).getD m 0 % p = (sumTo M.length fun l => c l * (brL p t d (M.getD l []) y).getD m 0) % p := by
  unfold brL
  rw [modL_get _ _ _ _ hm, Int.emod_emod]
  have e1 : (sumTo d fun i => sumTo d fun j => u.getD i 0 * y.getD j 0 * tab t d i j m) % p = (sumTo d fun i => sumTo d fun j => sumTo M.length fun l => c l * ((M.getD l []).getD i 0 * y.getD j 0 * tab t d i j m)) % p := by
    refine sumTo_modC fun i hi => sumTo_modC fun j hj => ?_
    have e2 : u.getD i 0 * y.getD j 0 * tab t d i j m = (y.getD j 0 * tab t d i j m) * u.getD i 0 := by
      rw [Int.mul_assoc, Int.mul_comm (u.getD i 0)]
    rw [e2, Int.mul_emod, hu i hi, ← Int.mul_emod, sumTo_mulL]
    congr 1
    refine sumTo_congr fun l _ => ?_
    simp only [Int.mul_assoc, Int.mul_left_comm, Int.mul_comm]
  rw [e1, sumTo_swap3]
  refine sumTo_modC fun l hl => ?_
  rw [modL_get _ _ _ _ hm, mul_emod_r]
  congr 1
  rw [sumTo_mulL]
  exact sumTo_congr fun i _ => (sumTo_mulL d _ _).symm
theorem emod3 {p a b c a' b' c' : Int} (h1 : a % p = a' % p) (h2 : b % p = b' % p) (h3 : c % p = c' % p) : (a + b + c) % p = (a' + b' + c') % p := by
  rw [Int.add_emod (a + b) c, Int.add_emod a b, h1, h2, h3, ← Int.add_emod a' b', ← Int.add_emod (a' + b') c']
theorem getD_zeros (d m : Nat) : (List.replicate d (0 : Int)).getD m 0 = 0 := by
  simp only [List.getD_eq_getElem?_getD, List.getElem?_replicate]
  split <;> rfl
theorem change_lie {p : Int} {d : Nat} {t T : List Int} {M : List (List Int)} (h : LieT p d t) (hI : Indep p d M) (hT : ToldBy p t d M T) : LieT p M.length T := by
  have hp := h.pos
  refine ⟨hp, fun i j m hi hj hm => ?_, fun i m hi hm => ?_, fun i j k hi hj hk m hm => ?_⟩
  · refine hI (fun m => tab T M.length i j m + tab T M.length j i m) (fun q hq => ?_) m hm
    have h1 := congrArg (fun l : List Int => l.getD q 0) (br_anti h (M.getD i []) (M.getD j []))
    simp only [getD_zeros] at h1
    rw [addL_get _ _ _ _ _ (by rw [brL_length]; exact hq), ← hT i j hi hj q hq, ← hT j i hj hi q hq, Int.one_mul, Int.emod_add_emod, Int.add_emod_emod, ← sumTo_addF] at h1
    rw [sumTo_congr (g := fun l => tab T M.length i j l * (M.getD l []).getD q 0 + tab T M.length j i l * (M.getD l []).getD q 0) fun l _ => Int.add_mul _ _ _]
    exact h1
  · refine hI (fun m => tab T M.length i i m) (fun q hq => ?_) m hm
    rw [hT i i hi hi q hq, br_self h, getD_zeros]
  · refine hI (fun m => jT T M.length i j k m + jT T M.length j k i m + jT T M.length k i j m) (fun q hq => ?_) m hm
    have key : ∀ i j k, i < M.length → j < M.length → k < M.length → (sumTo M.length fun m => jT T M.length i j k m * (M.getD m []).getD q 0) % p = (brL p t d (brL p t d (M.getD i []) (M.getD j [])) (M.getD k [])).getD q 0 % p := fun i j k hi hj hk => by
      rw [br_comb (fun l => tab T M.length i j l) (fun q' hq' => by rw [← hT i j hi hj q' hq', Int.emod_emod]) (M.getD k []) hq]
      rw [sumTo_modC (f := fun l => tab T M.length i j l * (brL p t d (M.getD l []) (M.getD k [])).getD q 0) (g := fun l => sumTo M.length fun m => tab T M.length i j l * tab T M.length l k m * (M.getD m []).getD q 0) fun l hl => by
        rw [← hT l k hl hk q hq, mul_emod_r, sumTo_mulL]
        congr 1
        exact sumTo_congr fun m _ => (Int.mul_assoc _ _ _).symm]
      rw [sumTo_swap]
      congr 1
      refine sumTo_congr fun m _ => ?_
      unfold jT
      rw [sumTo_mulR]
    have h1 := congrArg (fun l : List Int => l.getD q 0) (br_jacobi h (M.getD i []) (M.getD j []) (M.getD k []))
    simp only [getD_zeros] at h1
    rw [addL_get _ _ _ _ _ (by rw [addL_length, brL_length]; exact hq), addL_get _ _ _ _ _ (by rw [brL_length]; exact hq), Int.one_mul, Int.one_mul, Int.emod_add_emod] at h1
    rw [sumTo_congr (g := fun m => (jT T M.length i j k m * (M.getD m []).getD q 0 + jT T M.length j k i m * (M.getD m []).getD q 0) + jT T M.length k i j m * (M.getD m []).getD q 0) fun m _ => by rw [Int.add_mul, Int.add_mul], sumTo_addF, sumTo_addF]
    rw [emod3 (key i j k hi hj hk) (key j k i hj hk hi) (key k i j hk hi hj)]
    exact h1
end Go.Proofs.YtenlhfimdpcaoaaGreat

namespace Go.Proofs.YtenlhfimdpcaoaaGreat
open Go.RowKit

/-! ### kernels -/
def Annih (p : Int) (d : Nat) (A : List (List Int)) (x : Nat → Int) : Prop := ∀ i, i < A.length → (sumTo d fun j => (A.getD i []).getD j 0 * x j) % p = 0
theorem annih_sp {p : Int} {d : Nat} {A : List (List Int)} {x v : Nat → Int} (h : Annih p d A x) (hv : InSp p d A v) : (sumTo d fun j => v j * x j) % p = 0 := by
  obtain ⟨c, hc⟩ := hv
  rw [sumTo_modC (g := fun j => sumTo A.length fun i => c i * ((A.getD i []).getD j 0 * x j)) fun j hj => by
    rw [Int.mul_emod, hc j hj, ← Int.mul_emod, sumTo_mulR]
    congr 1
    exact sumTo_congr fun i _ => Int.mul_assoc _ _ _]
  rw [sumTo_swap, sumTo_modC (g := fun _ => 0) fun i hi => by
    rw [← sumTo_mulL, Int.mul_emod, h i hi, Int.mul_zero], sumTo_zero]
  rfl
theorem annih_eq {p : Int} {d : Nat} {A B : List (List Int)} (h : SpEq p d A B) {x : Nat → Int} : Annih p d A x ↔ Annih p d B x :=
  ⟨fun k i hi => annih_sp k (h.right i hi), fun k i hi => annih_sp k (h.left i hi)⟩
def pivB (st : List (List Int) × List Int) (j : Nat) : Bool := (List.range st.2.length).any fun k => pivN st k == j
theorem pivB_true {st : List (List Int) × List Int} {j : Nat} : pivB st j = true ↔ ∃ k, k < st.2.length ∧ pivN st k = j := by
  simp [pivB]
/-- the solution that belongs to a column without a pivot -/
def freeRow (p : Int) (d : Nat) (st : List (List Int) × List Int) (c : Nat) : List Int := modL p d fun j => if j = c then 1 else -(sumTo st.2.length fun i => if pivN st i = j then entN st i c else 0)
theorem piv_inj {p : Int} {d : Nat} {st : List (List Int) × List Int} (h : Ech p d st) {i k : Nat} (hi : i < st.2.length) (hk : k < st.2.length) (e : pivN st i = pivN st k) : i = k := by
  rcases Nat.lt_trichotomy i k with h1 | h1 | h1
  · have := h.mono i k h1 hk; omega
  · exact h1
  · have := h.mono k i h1 hi; omega
theorem freeRow_piv {p : Int} {d : Nat} {st : List (List Int) × List Int} (h : Ech p d st) {c i : Nat} (hc : pivB st c = false) (hi : i < st.2.length) : (freeRow p d st c).getD (pivN st i) 0 = (-(entN st i c)) % p := by
  have hne : pivN st i ≠ c := fun e => by
    have := pivB_true.2 ⟨i, hi, e⟩
    rw [hc] at this
    cases this
  unfold freeRow
  rw [modL_get _ _ _ _ (h.lt i hi), if_neg hne, sumTo_one (k := i) hi fun k hk hki => if_neg fun e => hki (piv_inj h hk hi e), if_pos rfl]
theorem freeRow_free {p : Int} {d : Nat} {st : List (List Int) × List Int} {c j : Nat} (hj : j < d) (hb : pivB st j = false) : (freeRow p d st c).getD j 0 = (if j = c then 1 else 0) % p := by
  unfold freeRow
  rw [modL_get _ _ _ _ hj]
  split
  · rfl
  · rw [sumTo_congr (g := fun _ => 0) fun i hi => if_neg fun e => by
      have := pivB_true.2 ⟨i, hi, e⟩
      rw [hb] at this
      exact Bool.noConfusion this, sumTo_zero]
    rfl
/-- an equation of a reduced row, its pivot apart -/
theorem row_split {p : Int} {d : Nat} {st : List (List Int) × List Int} (h : Ech p d st) (hl : st.2.length ≤ st.1.length) {i : Nat} (hi : i < st.2.length) (x : Nat → Int) :
    (sumTo d fun j => (st.1.getD i []).getD j 0 * x j) = x (pivN st i) + sumTo d fun j => if pivB st j = true then 0 else entN st i j * x j := by
  rw [sumTo_congr (g := fun j => (if pivN st i = j then 1 else 0) * x j + if pivB st j = true then 0 else entN st i j * x j) fun j hj => by
    show entN st i j * x j = _
    by_cases hb : pivB st j = true
    · rw [if_pos hb]
      obtain ⟨k, hk, e⟩ := pivB_true.1 hb
      by_cases e2 : pivN st i = j
      · rw [if_pos e2, ← e2, h.one i hi, Int.add_zero]
      · rw [if_neg e2, ← e, h.off k i hk (by omega) (fun e3 => e2 (by rw [e3]; exact e))]
        omega
    · rw [if_neg hb, if_neg fun e => hb (pivB_true.2 ⟨i, hi, e⟩)]
      omega, sumTo_addF, sumTo_only (h.lt i hi)]
theorem annih_free {p : Int} (_hp : 0 < p) {d : Nat} {st : List (List Int) × List Int} (h : Ech p d st) (hl : st.2.length ≤ st.1.length) {c : Nat} (hc : c < d) (hb : pivB st c = false) : Annih p d st.1 (rowF (freeRow p d st c)) := by
  intro i hi
  by_cases hir : i < st.2.length
  · rw [row_split h hl hir]
    unfold rowF
    rw [freeRow_piv h hb hir]
    have e : (sumTo d fun j => if pivB st j = true then 0 else entN st i j * (freeRow p d st c).getD j 0) % p = (sumTo d fun j => (if c = j then 1 else 0) * entN st i j) % p := sumTo_modC fun j hj => by
      by_cases hbj : pivB st j = true
      · rw [if_pos hbj, if_neg fun e => by rw [e] at hb; rw [hb] at hbj; cases hbj]
        rw [Int.zero_mul]
      · rw [if_neg hbj, freeRow_free hj (by simpa using hbj), mul_emod_r]
        by_cases e : j = c
        · rw [if_pos e, if_pos e.symm, Int.mul_one, Int.one_mul]
        · rw [if_neg e, if_neg (Ne.symm e), Int.mul_zero, Int.zero_mul]
    rw [Int.add_emod, e, sumTo_only hc, Int.emod_emod, ← Int.add_emod, Int.add_left_neg]
    rfl
  · rw [sumTo_congr (g := fun _ => 0) fun j hj => by
      have := h.rest i (by omega) hi j hj
      unfold entN at this
      rw [this, Int.zero_mul], sumTo_zero]
    rfl
end Go.Proofs.YtenlhfimdpcaoaaGreat

namespace Go.Proofs.YtenlhfimdpcaoaaGreat
open Go.RowKit

/-! ### equations: the last column is the right side -/
def solveL (p : Int) (n : Nat) (st : List (List Int) × List Int) : List Int := modL p n fun j => sumTo st.2.length fun i => if pivN st i = j then entN st i n else 0
theorem annih_last {p : Int} {n : Nat} {A : List (List Int)} {x : Nat → Int} : Annih p (n + 1) A x ↔ ∀ i, i < A.length → ((sumTo n fun j => (A.getD i []).getD j 0 * x j) + (A.getD i []).getD n 0 * x n) % p = 0 := Iff.rfl
theorem solve_ok {p : Int} (hp : primeB p = true) {n : Nat} {A : List (List Int)} (hA : Rows p (n + 1) A) {x0 : Nat → Int} (hx : ∀ i, i < A.length → (sumTo n fun j => (A.getD i []).getD j 0 * x0 j) % p = (A.getD i []).getD n 0 % p) :
    pivB (redTo p A (n + 1)) n = false ∧ ∀ i, i < A.length → (sumTo n fun j => (A.getD i []).getD j 0 * (solveL p n (redTo p A (n + 1))).getD j 0) % p = (A.getD i []).getD n 0 % p := by
  obtain ⟨p2, _⟩ := prime_bounds hp
  have hp0 : 0 < p := by omega
  obtain ⟨a1, a2⟩ := red_all hp hA (n + 1) (Nat.le_refl _)
  have ok := redTo_ok hp0 hA (n + 1)
  have hpn := ok.pn
  have hln := ok.len
  obtain ⟨st, hst⟩ : ∃ st, st = redTo p A (n + 1) := ⟨_, rfl⟩
  rw [← hst] at a1 a2 hpn hln ⊢
  have h0 : Annih p (n + 1) A (fun j => if j = n then -1 else x0 j) := annih_last.2 fun i hi => by
    simp only [if_true]
    rw [sumTo_congr (g := fun j => (A.getD i []).getD j 0 * x0 j) fun j hj => by rw [if_neg (by omega)], Int.add_emod, hx i hi, ← Int.add_emod, Int.mul_neg, Int.mul_one, Int.add_right_neg]
    rfl
  have h1 := (annih_eq a2).1 h0
  have hpv : pivB st n = false := by
    cases hb : pivB st n with
    | false => rfl
    | true =>
      obtain ⟨k, hk, e⟩ := pivB_true.1 hb
      have h2 := annih_last.1 h1 k (by omega)
      simp only [if_true] at h2
      have h3 := a1.one k hk
      rw [e] at h3
      unfold entN at h3
      rw [h3, sumTo_congr (g := fun _ => 0) fun j hj => by
        have := a1.left k j hk (by omega)
        unfold entN at this
        rw [this, Int.zero_mul], sumTo_zero, Int.zero_add, Int.one_mul] at h2
      have h4 := Int.emod_emod_of_dvd (-1) (Int.dvd_refl p)
      have h5 : (-1 : Int) % p = p - 1 := by
        rw [show (-1 : Int) = (p - 1) + p * (-1) by omega, Int.add_mul_emod_self_left, Int.emod_eq_of_lt (by omega) (by omega)]
      omega
  refine ⟨hpv, fun i hi => ?_⟩
  have h2 := annih_last.1 ((annih_eq a2).2 (annih_free hp0 a1 (by omega) (c := n) (by omega) hpv)) i hi
  have hF : ∀ j, j < n → rowF (freeRow p (n + 1) st n) j = (-(sumTo st.2.length fun i => if pivN st i = j then entN st i n else 0)) % p := fun j hj => by
    unfold rowF freeRow
    rw [modL_get _ _ _ _ (by omega), if_neg (by omega)]
  have hFn : rowF (freeRow p (n + 1) st n) n = 1 := by
    unfold rowF freeRow
    rw [modL_get _ _ _ _ (by omega), if_pos rfl]
    exact Int.emod_eq_of_lt (by omega) (by omega)
  rw [hFn, Int.mul_one] at h2
  have h3 : (sumTo n fun j => (A.getD i []).getD j 0 * rowF (freeRow p (n + 1) st n) j) % p = (-(sumTo n fun j => (A.getD i []).getD j 0 * (solveL p n st).getD j 0)) % p := by
    rw [show -(sumTo n fun j => (A.getD i []).getD j 0 * (solveL p n st).getD j 0) = sumTo n fun j => -1 * ((A.getD i []).getD j 0 * (solveL p n st).getD j 0) by rw [← sumTo_mulL]; omega]
    refine sumTo_modC fun j hj => ?_
    unfold solveL
    rw [hF j hj, modL_get _ _ _ _ hj, mul_emod_r, show ∀ a b : Int, -1 * (a * (b % p)) = (-a) * (b % p) from fun a b => by rw [← Int.mul_assoc]; congr 1; omega, mul_emod_r]
    congr 1
    rw [Int.mul_neg, Int.neg_mul]
  have h4 : ((-(sumTo n fun j => (A.getD i []).getD j 0 * (solveL p n st).getD j 0)) + (A.getD i []).getD n 0) % p = 0 := by
    rw [Int.add_emod, ← h3, ← Int.add_emod]
    exact h2
  have h5 := congrArg (fun z => (z + (sumTo n fun j => (A.getD i []).getD j 0 * (solveL p n st).getD j 0)) % p) h4
  simp only [Int.emod_add_emod, Int.zero_add] at h5
  rw [← h5]
  congr 1
  omega
/-! ### matrices with an inverse -/
/-- the rows of A reach everything, and have no relation -/
structure Basis (p : Int) (n : Nat) (A : List Int) : Prop where
  full : ∀ v : Nat → Int, ∃ c : Nat → Int, ∀ j, j < n → v j % p = (sumTo n fun i => c i * entM n A i j) % p
  indep : ∀ c : Nat → Int, (∀ j, j < n → (sumTo n fun i => c i * entM n A i j) % p = 0) → ∀ i, i < n → c i % p = 0
theorem basis_one {p : Int} (n : Nat) : Basis p n (oneM p n) := by
  have key : ∀ (c : Nat → Int) j, j < n → (sumTo n fun i => c i * entM n (oneM p n) i j) % p = c j % p := fun c j hj => by
    rw [sumTo_modC (g := fun i => (if j = i then 1 else 0) * c i) fun i hi => by
      unfold oneM
      rw [matM_at p _ hi hj, mul_emod_r, Int.mul_comm]
      by_cases e : i = j
      · rw [if_pos e, if_pos e.symm]
      · rw [if_neg e, if_neg (Ne.symm e)], sumTo_only hj]
  exact ⟨fun v => ⟨v, fun j hj => (key v j hj).symm⟩, fun c hc i hi => by rw [← key c i hi]; exact hc i hi⟩
theorem row_mul {p : Int} {n : Nat} (A E : List Int) (c : Nat → Int) {j : Nat} (hj : j < n) : (sumTo n fun i => c i * entM n (mulM p n A E) i j) % p = (sumTo n fun k => (sumTo n fun i => c i * entM n A i k) * entM n E k j) % p := by
  rw [sumTo_modC (g := fun i => sumTo n fun k => c i * entM n A i k * entM n E k j) fun i hi => by
    unfold mulM
    rw [matM_at p _ hi hj, mul_emod_r, sumTo_mulL]
    congr 1
    exact sumTo_congr fun k _ => (Int.mul_assoc _ _ _).symm]
  rw [sumTo_swap]
  congr 1
  exact sumTo_congr fun k _ => (sumTo_mulR n _ _).symm
theorem Basis.mul {p : Int} {n : Nat} {A E F : List Int} (h : Basis p n A) (h1 : mulM p n E F = oneM p n) (h2 : mulM p n F E = oneM p n) : Basis p n (mulM p n A E) := by
  have unit : ∀ (X Y : List Int) (_ : mulM p n X Y = oneM p n) (v : Nat → Int) j, j < n → (sumTo n fun k => (sumTo n fun i => v i * entM n X i k) * entM n Y k j) % p = v j % p := fun X Y e v j hj => by
    rw [← row_mul X Y v hj, e, sumTo_modC (g := fun i => (if j = i then 1 else 0) * v i) fun i hi => by
      unfold oneM
      rw [matM_at p _ hi hj, mul_emod_r, Int.mul_comm]
      by_cases e : i = j
      · rw [if_pos e, if_pos e.symm]
      · rw [if_neg e, if_neg (Ne.symm e)], sumTo_only hj]
  refine ⟨fun v => ?_, fun c hc i hi => ?_⟩
  · obtain ⟨c, hc⟩ := h.full fun k => sumTo n fun i => v i * entM n F i k
    refine ⟨c, fun j hj => ?_⟩
    rw [row_mul A E c hj, ← unit F E h2 v j hj]
    exact sumTo_modC fun k hk => by rw [Int.mul_emod, hc k hk, ← Int.mul_emod]
  · refine h.indep c (fun j hj => ?_) i hi
    have h3 := unit E F h1 (fun k => sumTo n fun i => c i * entM n A i k) j hj
    rw [← h3, sumTo_modC (g := fun _ => 0) fun k hk => by
      rw [Int.mul_emod, ← row_mul A E c hk, hc k hk, Int.zero_mul], sumTo_zero]
    rfl
/-- the unit matrix with one more number -/
def elemM (p : Int) (n a b : Nat) (x : Int) : List Int := matM p n fun i j => (if i = j then 1 else 0) + if i = a ∧ j = b then x else 0
theorem elem_off {p : Int} {n a b : Nat} (ha : a < n) (hb : b < n) (hne : a ≠ b) (x : Int) : mulM p n (elemM p n a b x) (elemM p n a b (-x)) = oneM p n := by
  refine matM_congr fun i j hi hj => ?_
  rw [sumTo_modC (g := fun k => ((if i = k then 1 else 0) * ((if k = j then 1 else 0) + if k = a ∧ j = b then -x else 0)) + ((if b = k then 1 else 0) * ((if i = a then x else 0) * ((if k = j then 1 else 0) + if k = a ∧ j = b then -x else 0)))) fun k hk => by
    unfold elemM
    rw [matM_at p _ hi hk, matM_at p _ hk hj, mul_emod_l, mul_emod_r, Int.add_mul]
    congr 2
    by_cases e : i = a ∧ k = b
    · rw [if_pos e, if_pos e.2.symm, if_pos e.1, Int.one_mul]
    · rw [if_neg e]
      by_cases e2 : b = k
      · rw [if_pos e2, if_neg (fun h => e ⟨h, e2.symm⟩), Int.zero_mul, Int.mul_zero]
      · rw [if_neg e2, Int.zero_mul, Int.zero_mul], sumTo_addF, sumTo_only hi, sumTo_only hb]
  congr 1
  by_cases e1 : i = a ∧ j = b
  · obtain ⟨rfl, rfl⟩ := e1
    rw [if_neg hne, if_pos ⟨rfl, rfl⟩, if_pos rfl, if_pos rfl, if_neg (show ¬(j = i ∧ j = j) from fun h => hne h.1.symm)]
    omega
  · rw [if_neg e1]
    by_cases e2 : i = a
    · rw [if_pos e2, if_neg (show ¬ b = j from fun h => e1 ⟨e2, h.symm⟩), if_neg (show ¬(b = a ∧ j = b) from fun h => hne h.1.symm)]
      omega
    · rw [if_neg e2]
      omega
theorem elem_diag {p : Int} {n a : Nat} (ha : a < n) {x y : Int} (h : x * y % p = 1 % p) : mulM p n (elemM p n a a (x - 1)) (elemM p n a a (y - 1)) = oneM p n := by
  refine matM_congr fun i j hi hj => ?_
  rw [sumTo_modC (g := fun k => (if i = k then 1 else 0) * ((if i = a then x else 1) * ((if k = j then 1 else 0) + if k = a ∧ j = a then y - 1 else 0))) fun k hk => by
    unfold elemM
    rw [matM_at p _ hi hk, matM_at p _ hk hj, mul_emod_l, mul_emod_r, ← Int.mul_assoc]
    congr 2
    by_cases e : i = k
    · subst e
      by_cases e2 : i = a
      · rw [if_pos rfl, if_pos ⟨e2, e2⟩, if_pos e2]
        omega
      · rw [if_pos rfl, if_neg (fun h => e2 h.1), if_neg e2]
        omega
    · rw [if_neg e, if_neg (fun h => e (h.1.trans h.2.symm)), Int.zero_mul]
      omega, sumTo_only hi]
  by_cases e1 : i = a
  · subst e1
    rw [if_pos rfl]
    by_cases e2 : i = j
    · subst e2
      rw [if_pos rfl, if_pos ⟨rfl, rfl⟩, show 1 + (y - 1) = y by omega]
      exact h
    · rw [if_neg e2, if_neg (fun h => e2 h.2.symm), Int.add_zero, Int.mul_zero]
  · rw [if_neg e1, if_neg (show ¬(i = a ∧ j = a) from fun h => e1 h.1), Int.one_mul, Int.add_zero]
end Go.Proofs.YtenlhfimdpcaoaaGreat

namespace Go.Proofs.YtenlhfimdpcaoaaGreat
open Go.RowKit

theorem tab_res {n : Nat} {p : Int} {T : List Int} (hl : T.length = n * n * n) (h : ∀ i j k, i < n → j < n → k < n → 0 ≤ tab T n i j k ∧ tab T n i j k < p) : Res p T := by
  intro q hq
  rw [hl] at hq
  have hn : 0 < n := by
    rcases Nat.eq_zero_or_pos n with h0 | h0
    · subst h0; simp at hq
    · exact h0
  have h1 : q / n < n * n := Nat.div_lt_of_lt_mul (by rw [Nat.mul_comm]; exact hq)
  have h2 := h (q / n / n) (q / n % n) (q % n) (Nat.div_lt_of_lt_mul h1) (Nat.mod_lt _ hn) (Nat.mod_lt _ hn)
  unfold tab at h2
  rwa [Nat.div_add_mod', Nat.div_add_mod'] at h2
theorem headB_of {p : Int} {n : Nat} {T : List Int} (hp : primeB p = true) (hn : n ≤ 28) (hl : T.length = n * n * n) (hr : Res p T) : headB p n T = true := by
  unfold headB
  simp only [Bool.and_eq_true, decide_eq_true_eq]
  exact ⟨⟨⟨hp, insB_true.2 ⟨by omega, by omega⟩⟩, by rw [hl]; simp⟩, resB_true.2 hr⟩
theorem sum_valid {p : Int} {a b : Nat} {t1 t2 T : List Int} (h1 : algB p a t1 = true) (h2 : algB p b t2 = true) (hn : a + b ≤ 28) (hl : T.length = (a + b) * (a + b) * (a + b))
    (hT : ∀ i j m, i < a + b → j < a + b → m < a + b → tab T (a + b) i j m = sumE t1 t2 a b i j m) : algB p (a + b : Nat) T = true := by
  have l1 := lieT_of h1
  have l2 := lieT_of h2
  rw [Int.toNat_natCast] at l1 l2
  obtain ⟨g1, _⟩ := algB_true.1 h1
  obtain ⟨hp, _, _, e1, r1⟩ := headB_true g1
  obtain ⟨g2, _⟩ := algB_true.1 h2
  obtain ⟨_, _, _, e2, r2⟩ := headB_true g2
  have e1' : t1.length = a * a * a := by
    have e : ((a * a * a : Nat) : Int) = (a : Int) * a * a := by simp
    omega
  have e2' : t2.length = b * b * b := by
    have e : ((b * b * b : Nat) : Int) = (b : Int) * b * b := by simp
    omega
  have hp0 := l1.pos
  have hb : ∀ {n : Nat} {t : List Int}, t.length = n * n * n → Res p t → ∀ i j k, i < n → j < n → k < n → 0 ≤ tab t n i j k ∧ tab t n i j k < p := fun {n t} hl hr i j k hi hj hk => by
    refine hr _ ?_
    have := nidx_lt hi hj
    rw [hl]
    omega
  have hr : Res p T := tab_res hl fun i j k hi hj hk => by
    rw [hT i j k hi hj hk]
    unfold sumE
    split
    · rename_i h
      exact hb e1' r1 i j k h.1 h.2.1 h.2.2
    · split
      · exact hb e2' r2 _ _ _ (by omega) (by omega) (by omega)
      · omega
  have hL := sum_lie l1 l2 hT
  refine algB_of_lie (headB_of hp hn hl hr) ?_
  rw [Int.toNat_natCast]
  exact hL
/-! ### another basis -/
def rowsM (n : Nat) (M : List Int) : List (List Int) := (List.range n).map fun i => (List.range n).map fun j => entM n M i j
theorem rowsM_length (n : Nat) (M : List Int) : (rowsM n M).length = n := by simp [rowsM]
theorem rowsM_get {n : Nat} (M : List Int) {i j : Nat} (hi : i < n) (hj : j < n) : ((rowsM n M).getD i []).getD j 0 = entM n M i j := by
  simp [rowsM, List.getD_eq_getElem?_getD, hi, hj]
/-- the equations for the coordinates of v in the rows of M -/
def augM (p : Int) (n : Nat) (M v : List Int) : List (List Int) := (List.range n).map fun q => modL p (n + 1) fun k => if k < n then entM n M k q else v.getD q 0
theorem augM_length (p : Int) (n : Nat) (M v : List Int) : (augM p n M v).length = n := by simp [augM]
theorem augM_row (p : Int) {n : Nat} (M v : List Int) {q : Nat} (hq : q < n) : (augM p n M v).getD q [] = modL p (n + 1) fun k => if k < n then entM n M k q else v.getD q 0 := by
  simp [augM, List.getD_eq_getElem?_getD, hq]
theorem augM_rows {p : Int} (hp : 0 < p) (n : Nat) (M v : List Int) : Rows p (n + 1) (augM p n M v) :=
  ⟨fun i hi => by rw [augM_length] at hi; rw [augM_row p M v hi]; exact modL_length _ _ _, fun i hi => by rw [augM_length] at hi; rw [augM_row p M v hi]; exact Res.modL hp _ _⟩
theorem coords_ok {p : Int} (hp : primeB p = true) {n : Nat} {M : List Int} (hM : Basis p n M) (v : List Int) :
    pivB (redTo p (augM p n M v) (n + 1)) n = false ∧ ∀ q, q < n → (sumTo n fun k => (solveL p n (redTo p (augM p n M v) (n + 1))).getD k 0 * entM n M k q) % p = v.getD q 0 % p := by
  have hp0 : 0 < p := by have := (prime_bounds hp).1; omega
  obtain ⟨c, hc⟩ := hM.full fun j => v.getD j 0
  have hrow : ∀ q, q < n → ∀ (x : Nat → Int), (sumTo n fun j => ((augM p n M v).getD q []).getD j 0 * x j) % p = (sumTo n fun j => x j * entM n M j q) % p := fun q hq x => sumTo_modC fun j hj => by
    rw [augM_row p M v hq, modL_get _ _ _ _ (by omega), if_pos hj, mul_emod_l, Int.mul_comm]
  have hlast : ∀ q, q < n → ((augM p n M v).getD q []).getD n 0 % p = v.getD q 0 % p := fun q hq => by
    rw [augM_row p M v hq, modL_get _ _ _ _ (by omega), if_neg (by omega), Int.emod_emod]
  obtain ⟨h1, h2⟩ := solve_ok hp (augM_rows hp0 n M v) (x0 := c) fun q hq => by
    rw [augM_length] at hq
    rw [hrow q hq c, hlast q hq, ← hc q hq]
  refine ⟨h1, fun q hq => ?_⟩
  have h3 := h2 q (by rw [augM_length]; exact hq)
  rw [hrow q hq (fun j => (solveL p n (redTo p (augM p n M v) (n + 1))).getD j 0), hlast q hq] at h3
  exact h3
theorem change_valid {p : Int} {n : Nat} {t T M : List Int} (h : algB p n t = true) (hM : Basis p n M) (hl : T.length = n * n * n)
    (hT : ∀ i j k, i < n → j < n → k < n → tab T n i j k = (solveL p n (redTo p (augM p n M (brL p t n ((rowsM n M).getD i []) ((rowsM n M).getD j []))) (n + 1))).getD k 0) : algB p n T = true := by
  have hL := lieT_of h
  rw [Int.toNat_natCast] at hL
  obtain ⟨g1, _⟩ := algB_true.1 h
  obtain ⟨hp, _, hn, _, _⟩ := headB_true g1
  have hp0 := hL.pos
  have hsl : ∀ st : List (List Int) × List Int, ∀ k, k < n → 0 ≤ (solveL p n st).getD k 0 ∧ (solveL p n st).getD k 0 < p := fun st k hk => by
    unfold solveL
    rw [modL_get _ _ _ _ hk]
    exact ⟨Int.emod_nonneg _ (by omega), Int.emod_lt_of_pos _ hp0⟩
  have hr : Res p T := tab_res hl fun i j k hi hj hk => by
    rw [hT i j k hi hj hk]
    exact hsl _ k hk
  have hI : Indep p n (rowsM n M) := fun c hc i hi => by
    rw [rowsM_length] at hi hc
    refine hM.indep c (fun j hj => ?_) i hi
    rw [← hc j hj]
    congr 1
    exact sumTo_congr fun k hk => by rw [rowsM_get M hk hj]
  have hTo : ToldBy p t n (rowsM n M) T := fun i j hi hj q hq => by
    rw [rowsM_length] at hi hj ⊢
    have h1 := (coords_ok hp hM (brL p t n ((rowsM n M).getD i []) ((rowsM n M).getD j []))).2 q hq
    have h2 : (brL p t n ((rowsM n M).getD i []) ((rowsM n M).getD j [])).getD q 0 % p = (brL p t n ((rowsM n M).getD i []) ((rowsM n M).getD j [])).getD q 0 := by
      unfold brL
      rw [modL_get _ _ _ _ hq, Int.emod_emod]
    rw [h2] at h1
    rw [← h1]
    congr 1
    exact sumTo_congr fun k hk => by rw [rowsM_get M hk hq, hT i j k hi hj hk]
  have hN := change_lie hL hI hTo
  rw [rowsM_length] at hN
  refine algB_of_lie (headB_of hp (by omega) hl hr) ?_
  rw [Int.toNat_natCast]
  exact hN
end Go.Proofs.YtenlhfimdpcaoaaGreat

namespace Go.Proofs.YtenlhfimdpcaoaaGreat
open Go.RowKit
theorem l1Ints_any (a : Option Addr) (n c : Nat) (xs : List Int) (w : World) (h : IntsAt w a n xs) (hnil : a = none → c = 0) (hn : n ≤ 1000000000) :
    Calls Tryz.prog 180 #[.slice a n c] w fun e w' => ∃ a' c', e = .returned (.slice a' n c') ∧ OwnI w' w.heap.size a' n c' xs ∧ Ext w w' := by
  have H := hidP (h.below (Ext.alloc w (.cells #[] 3)))
  have hm := OwnI.made w w.heap.size 0 (Nat.le_refl _) (by unfold maxLen; omega)
  rw [show Array.replicate 0 (Value.int .i64 0) = #[] from rfl] at hm
  have HM := hidP hm
  have HN := hidP hnil
  clear h hnil hm
  go_enter Tryz.func180, Tryz.ntmps180
  go_wp2_with (at_builtin; refine wpList_append_ints rfl (.tmp 3) (.tmp 4) rfl w.heap.size (some ⟨w.heap.size, 0, none⟩) 0 0 [] rfl HM.out a n c xs rfl H.out HN.out (by omega) (by simp) ?_; intro a' c' w' ho hg)
  go_ret
  rw [Nat.zero_add, List.nil_append] at ho
  exact ⟨_, _, rfl, ho, grown_ext hg (Ext.alloc w _) (by simp) (fun q e => by cases e; exact Nat.le_refl _)⟩
end Go.Proofs.YtenlhfimdpcaoaaGreat

namespace Go.Proofs.YtenlhfimdpcaoaaGreat
open Go.RowKit

theorem l1At_any (p : Int) (r s i j N c : Nat) (a : Option Addr) (data : List Int) (w : World) (h : IntsAt w a N data) (hN : N ≤ 1000000000) (hlt : i * s + j < N) :
    Calls Tryz.prog 136 #[matV p r s a N c, .int .i64 i, .int .i64 j] w fun e w' => e = .returned (.int .i64 (data.getD (i * s + j) 0)) ∧ Ext w w' := by
  have hx0 := Ext.alloc w (.cells #[.int .i64 p, .int .i64 (r : Int), .int .i64 (s : Int), .slice a N c] 28)
  have HM := hidP (MatAt.new w _ rfl p r s a N c 28)
  obtain ⟨b, o, rfl, q⟩ := (h.below hx0).get (i * s + j) hlt
  have HX := hidP hx0
  obtain ⟨t, ht⟩ : ∃ t, i * s = t := ⟨_, rfl⟩
  have e1 : (i : Int) * (s : Int) = (t : Int) := by rw [← ht]; simp
  rw [ht] at hlt q ⊢
  clear ht hx0 h
  obtain ⟨c0, c1, c2, c3⟩ := HM.out
  go_enter Tryz.func136, Tryz.ntmps136
  go_wp2
  go_ret
  exact ⟨rfl, HX.out⟩
theorem l1Row_any (p : Int) (r s i b o N c : Nat) (data : List Int) (w : World) (h : IntsAt w (some ⟨b, o, none⟩) N data) (hN : N = r * s) (hc : N ≤ c) (hc2 : c ≤ 9223372036854775807) (hr : r ≤ 1000000) (hs : s ≤ 1000000) (hs1 : 1 ≤ s) (hi : i < r) :
    Calls Tryz.prog 184 #[matV p r s (some ⟨b, o, none⟩) N c, .int .i64 i] w fun e w' => ∃ a' c', e = .returned (.slice a' s c') ∧ IntsAt w' a' s ((matRows r s data).getD i []) ∧ Ext w w' := by
  have hx0 := Ext.alloc w (.cells #[.int .i64 p, .int .i64 (r : Int), .int .i64 (s : Int), .slice (some ⟨b, o, none⟩) N c] 28)
  have HM := hidP (MatAt.new w _ rfl p r s (some ⟨b, o, none⟩) N c 28)
  have hks := mul_lt_of (s := s) hi
  have HI := hidP ((h.below hx0).part (i * s) s (by rw [hN]; exact hks))
  have HX := hidP hx0
  have HRow : Hid ((matRows r s data).getD i [] = (data.drop (i * s)).take s) := matRows_get r s data i hi
  rw [HRow.out]
  have hb1 : i * s ≤ 1000000 * 1000000 := Nat.mul_le_mul (by omega) hs
  obtain ⟨t, ht⟩ : ∃ t, i * s = t := ⟨_, rfl⟩
  have e4 : (i : Int) * (s : Int) = (t : Int) := by rw [← ht]; simp
  have e5 : ((i : Int) + 1) * (s : Int) = ((t + s : Nat) : Int) := by rw [← ht, Int.add_mul, Int.one_mul]; simp
  rw [ht] at hks HI hb1 ⊢
  have hlt1 : t < c := by omega
  have hlt2 : t + s ≤ c := by omega
  have hct : ¬ c = t := by omega
  clear ht hx0 h HRow hN
  generalize (data.drop t).take s = row at *
  have e6 : t + s - t = s := by omega
  obtain ⟨c0, c1, c2, c3⟩ := HM.out
  go_enter Tryz.func184, Tryz.ntmps184
  go_wp2
  go_ret
  exact ⟨some ⟨b, o + t, none⟩, c - t, by simp only [e6]; rfl, HI.out, HX.out⟩
set_option maxHeartbeats 1000000 in
theorem l1Copy_any (p r s : Int) (a : Option Addr) (N c : Nat) (data : List Int) (w : World) (h : IntsAt w a N data) (hnil : a = none → c = 0) (hN : N ≤ 1000000000) :
    Calls Tryz.prog 152 #[matV p r s a N c] w fun e w' => ∃ a' c', e = .returned (matV p r s a' N c') ∧ OwnI w' w.heap.size a' N c' data ∧ Ext w w' := by
  have hx0 := (Ext.alloc w (.cells #[.int .i64 p, .int .i64 r, .int .i64 s, .slice a N c] 28)).trans (Ext.alloc _ (.cells #[.int .i64 0, .int .i64 0, .int .i64 0, .slice none 0 0] 28))
  have HM := hidP (MatAt.below (MatAt.new w _ rfl p r s a N c 28) (Ext.alloc _ (.cells #[.int .i64 0, .int .i64 0, .int .i64 0, .slice none 0 0] 28)))
  have hnew := fun w1 hx j => new_cell (w' := w1) (w := w.alloc (.cells #[.int .i64 p, .int .i64 r, .int .i64 s, .slice a N c] 28)) (cs := #[.int .i64 0, .int .i64 0, .int .i64 0, .slice none 0 0]) (E := 28) (b := w.heap.size + 1) (by simp) hx j
  have HC := hidP (fun w' (hx : Ext ((w.alloc (.cells #[.int .i64 p, .int .i64 r, .int .i64 s, .slice a N c] 28)).alloc (.cells #[.int .i64 0, .int .i64 0, .int .i64 0, .slice none 0 0] 28)) w') => l1Ints_any a N c data w' ((h.below hx0).below hx) hnil hN)
  have HX := hidP hx0
  have hsz : ((w.alloc (.cells #[.int .i64 p, .int .i64 r, .int .i64 s, .slice a N c] 28)).alloc (.cells #[.int .i64 0, .int .i64 0, .int .i64 0, .slice none 0 0] 28)).heap.size = w.heap.size + 2 := by simp
  clear hx0 h
  go_enter Tryz.func152, Tryz.ntmps152
  go_wp2
  obtain ⟨wb, hwb⟩ : ∃ wb, wb = ((w.alloc (.cells #[.int .i64 p, .int .i64 r, .int .i64 s, .slice a N c] 28)).alloc (.cells #[.int .i64 0, .int .i64 0, .int .i64 0, .slice none 0 0] 28)) := ⟨_, rfl⟩
  rw [← hwb] at HM hnew HC HX hsz ⊢
  clear hwb
  have HF := hidP (fun w' (hx : Ext wb w') => (⟨(HM.out.below hx).c0, (HM.out.below hx).c1, (HM.out.below hx).c2, (HM.out.below hx).c3⟩ : _ ∧ _ ∧ _ ∧ _))
  have HNW := hidP hnew
  clear hnew
  have hE : Ext wb wb.drew := Ext.drew wb
  (refine walkR_start (fun w' => Ext wb w') 9 (by kernel_rfl) ?_; simp only [numbered, List.take_succ_cons, List.take_zero, Nat.zero_add, Nat.reduceAdd, List.length_cons, List.length_nil])
  repeat (refine walkR_still (v := ?_) rfl (by decide +kernel) rfl (fun _ _ _ h => h) hE ?_ ?_; rotate_left; (focus (intro w' hw'; obtain ⟨f0, f1, f2, f3⟩ := HF.out w' hw'; go_simp; all_goals (with_reducible rfl))); simp only [Act.put, List.setIfInBounds_toArray, List.set_cons_zero, List.set_cons_succ])
  (refine walkR_only (fun w' => Ext wb w') rfl (by decide +kernel) rfl (fun _ h => h) ?_; intro K hK; go_simp; refine (HC.out _ hE).mono ?_; rintro e w3 ⟨a3, c3, rfl, ho3, hx3⟩; refine hK _ _ (hE.trans hx3) ?_; clear hK K; (try simp only [Act.put, List.setIfInBounds_toArray, List.set_cons_zero, List.set_cons_succ]))
  have hE3 := hE.trans hx3
  have HO3 := hidP (ho3.base (B' := wb.heap.size) hE.size)
  have HE3 := hidP hE3
  clear ho3 hx3 hE
  repeat (refine walkR_still (v := ?_) rfl (by decide +kernel) rfl (fun _ _ _ h => h) hE3 ?_ ?_; rotate_left; (focus (intro w' hw'; skip; go_simp; all_goals (with_reducible rfl))); simp only [Act.put, List.setIfInBounds_toArray, List.set_cons_zero, List.set_cons_succ])
  (refine walkR_tail (by rfl) (by kernel_rfl) ?_; simp only [List.drop_succ_cons, List.drop_zero])
  obtain ⟨r0, y0⟩ := HNW.out w3 HE3.out 0
  obtain ⟨r1, y1⟩ := HNW.out w3 HE3.out 1
  obtain ⟨r2, y2⟩ := HNW.out w3 HE3.out 2
  obtain ⟨r3, y3⟩ := HNW.out w3 HE3.out 3
  have r0 := r0.trans (show _ = some (Value.int .i64 0) from rfl)
  have r1 := r1.trans (show _ = some (Value.int .i64 0) from rfl)
  have r2 := r2.trans (show _ = some (Value.int .i64 0) from rfl)
  have r3 := r3.trans (show _ = some (Value.slice none 0 0) from rfl)
  go_wp2
  refine bodyPost_ret (v := matV p r s a3 N c3) (by simp [results, Tryz.results152, go_sem, r0, r1, r2, r3]) rfl ?_
  refine ⟨a3, c3, rfl, ?_, ?_⟩
  · refine OwnI.base (B := wb.heap.size) ?_ (by omega)
    refine OwnI.setBelow (OwnI.setBelow (OwnI.setBelow (OwnI.setBelow HO3.out _ _ ?_ _) _ _ ?_ _) _ _ ?_ _) _ _ ?_ _ <;> omega
  · refine Ext.setNew (Ext.setNew (Ext.setNew (Ext.setNew (HX.out.trans HE3.out) _ _ ?_ _) _ _ ?_ _) _ _ ?_ _) _ _ ?_ _ <;> omega
set_option maxHeartbeats 1000000 in
theorem l1Zero_any (p r s : Int) (w : World) (hr0 : 0 ≤ r) (hr1 : r ≤ 40) (hs0 : 0 ≤ s) (hs1 : s ≤ 40) :
    Calls Tryz.prog 135 #[.int .i64 p, .int .i64 r, .int .i64 s] w fun e w' => ∃ a, e = .returned (matV p r s a (r * s).toNat (r * s).toNat) ∧ OwnI w' w.heap.size a (r * s).toNat (r * s).toNat (List.replicate (r * s).toNat 0) ∧ Ext w w' := by
  have k3 : 0 ≤ r * s := Int.mul_nonneg hr0 hs0
  have k4 : r * s ≤ 40 * 40 := Int.mul_le_mul hr1 hs1 hs0 (by omega)
  have hmk := make_ints (r * s) k3 (by omega)
  have HM := hidP (fun w' (hb : w.heap.size ≤ w'.heap.size) => OwnI.made w' w.heap.size (r * s).toNat hb (by unfold maxLen; omega))
  go_enter Tryz.func135, Tryz.ntmps135
  go_wp2
  refine bodyPost_ret (v := matV p r s (some ⟨w.heap.size + 1, 0, none⟩) _ _) (by simp [results, Tryz.results135, go_sem]) rfl ⟨_, rfl, ?_, ?_⟩
  · have := HM.out (w.alloc (.cells #[.int .i64 p, .int .i64 r, .int .i64 s, .slice (some ⟨w.heap.size + 1, 0, none⟩) (r * s).toNat (r * s).toNat] 28)) (by simp)
    simpa using this
  · exact (Ext.alloc w _).trans (Ext.alloc _ _)
set_option maxHeartbeats 1000000 in
theorem l1Unit_any (p : Int) (n : Nat) (w : World) (hn : n ≤ 40) :
    Calls Tryz.prog 128 #[.int .i64 p, .int .i64 n] w fun e w' => ∃ a, e = .returned (matV p n n a (n * n) (n * n)) ∧ OwnI w' w.heap.size a (n * n) (n * n) (unitTo n n) ∧ Ext w w' := by
  have HZ := hidP (fun w' => l1Zero_any p n n w' (by omega) (by omega) (by omega) (by omega))
  have hnn : ((n : Int) * n).toNat = n * n := by rw [← Int.natCast_mul]; exact Int.toNat_natCast _
  have hb : n * n ≤ 40 * 40 := Nat.mul_le_mul hn hn
  rw [hnn] at HZ
  have hx0 := Ext.alloc w (.cells #[.int .i64 0, .int .i64 0, .int .i64 0, .slice none 0 0] 28)
  have hnew := fun w1 hx j => new_cell (w' := w1) (w := w) (cs := #[.int .i64 0, .int .i64 0, .int .i64 0, .slice none 0 0]) (E := 28) (b := w.heap.size) rfl hx j
  have HX0 := hidP hx0
  have hsz : w.heap.size < (w.alloc (.cells #[.int .i64 0, .int .i64 0, .int .i64 0, .slice none 0 0] 28)).heap.size := by simp
  obtain ⟨w0, hw0⟩ : ∃ w0, w0 = w.alloc (.cells #[.int .i64 0, .int .i64 0, .int .i64 0, .slice none 0 0] 28) := ⟨_, rfl⟩
  clear hx0 hnn
  go_enter Tryz.func128, Tryz.ntmps128
  go_wp2_with fail
  rw [← hw0] at HX0 hnew hsz ⊢
  clear hw0
  refine (HZ.out _).mono ?_
  rintro e w1 ⟨a, rfl, ho, hx⟩
  have HNW := hidP (fun w2 hx2 j => hnew w2 (hx.trans hx2) j)
  have HO1 := hidP ho
  have HX1 := hidP (HX0.out.trans hx)
  have HS1 := hidP hx.size
  clear ho hx hnew HZ
  go_wp2
  have HM := hidP (MatAt.new w1 _ rfl p n n a (n * n) (n * n) 28)
  have hxa := Ext.alloc w1 (.cells #[.int .i64 p, .int .i64 (n : Int), .int .i64 (n : Int), .slice a (n * n) (n * n)] 28)
  have HA := hidP (HO1.out.below hxa)
  obtain ⟨w2, hw2⟩ : ∃ w2, w2 = w1.alloc (.cells #[.int .i64 p, .int .i64 (n : Int), .int .i64 (n : Int), .slice a (n * n) (n * n)] 28) := ⟨_, rfl⟩
  rw [← hw2] at HM hxa HA ⊢
  clear hw2
  have HXA := hidP hxa
  have HU0 := hidP (UpdI.start HA.out.ints)
  have HBS := hidP (fun b o e => HO1.out.at_base b o e)
  clear hxa HX0
  have HF : Hid (∀ w' ys, UpdI w2 w' a (n * n) ys → MatAt w' w1.heap.size p n n a (n * n) (n * n) ∧ (∀ j, w'.cell? ⟨w.heap.size, j, none⟩ = w2.cell? ⟨w.heap.size, j, none⟩ ∧ w'.frozen? ⟨w.heap.size, j, none⟩ = w2.frozen? ⟨w.heap.size, j, none⟩)) := by
    intro w' ys hu
    have hl := World.block_lt_of_cell? w2 _ HM.out.c0
    have hh : w'.heap[w1.heap.size]? = w2.heap[w1.heap.size]? := hu.other _ hl (fun b o e _ => by have := (HBS.out b o e).2; omega)
    have h0 : w'.heap[w.heap.size]? = w2.heap[w.heap.size]? := hu.other _ (by have := HS1.out; have := HXA.out.size; omega) (fun b o e _ => by have := (HBS.out b o e).1; omega)
    exact ⟨⟨(World.cell?_of_block (a := ⟨w1.heap.size, 0, none⟩) hh).trans HM.out.c0, (World.cell?_of_block (a := ⟨w1.heap.size, 1, none⟩) hh).trans HM.out.c1, (World.cell?_of_block (a := ⟨w1.heap.size, 2, none⟩) hh).trans HM.out.c2, (World.cell?_of_block (a := ⟨w1.heap.size, 3, none⟩) hh).trans HM.out.c3⟩,
      fun j => ⟨World.cell?_of_block (a := ⟨w.heap.size, j, none⟩) h0, by simp only [World.frozen?, h0]⟩⟩
  go_loopw [6] (fun v wr => ∃ k : Nat, k ≤ n ∧ v = .int .i64 k ∧ Hid (UpdI w2 wr a (n * n) (unitTo n k))) (fun v _ => n - (intOf v).toNat)
  case atStart => exact ⟨0, Nat.zero_le _, rfl, HU0⟩
  case round =>
    obtain ⟨k, hk, rfl, HU⟩ := hrel
    obtain ⟨c0, c1, c2, c3⟩ := (HF.out _ _ HU.out).1
    by_cases hlt : k < n
    · have hkn := mul_lt_of (s := n) hlt
      obtain ⟨b, o, rfl, _⟩ := HA.out.ints.get 0 (by omega)
      have hk2 : k * n + k < n * n := by omega
      obtain ⟨v0, q, z⟩ := HU.out.cellAt (k * n + k) hk2
      have z2 : wr.frozen? ⟨b, o + (k * n + k), none⟩ = false := z.trans (HA.out.unfrozen _ b o hk2 rfl)
      have hs := HU.out.store (k * n + k) hk2 1
      have HS := hidP hs
      have HT : Hid (unitTo n (k + 1) = (unitTo n k).set (k * n + k) 1) := rfl
      obtain ⟨t, ht⟩ : ∃ t, k * n = t := ⟨_, rfl⟩
      have e4 : (k : Int) * (n : Int) = (t : Int) := by rw [← ht]; simp
      rw [ht] at hk2 q z2 HS HT
      obtain ⟨nn, hnn⟩ : ∃ nn, n * n = nn := ⟨_, rfl⟩
      have HNN := hidP hnn
      clear hs z ht hkn
      rw [hnn] at hk2 hb c3
      clear hnn
      go_wp2
      go_roundw
      case rel => exact ⟨k + 1, by omega, by go_num, by rw [HT.out]; exact HS⟩
      case measure => simp [intOf]; omega
    · obtain rfl : k = n := by omega
      obtain ⟨_, hf⟩ := HF.out _ _ HU.out
      have r0 := (hf 0).1.trans ((HNW.out w2 HXA.out 0).1.trans (show _ = some (Value.int .i64 0) from rfl))
      have r1 := (hf 1).1.trans ((HNW.out w2 HXA.out 1).1.trans (show _ = some (Value.int .i64 0) from rfl))
      have r2 := (hf 2).1.trans ((HNW.out w2 HXA.out 2).1.trans (show _ = some (Value.int .i64 0) from rfl))
      have r3 := (hf 3).1.trans ((HNW.out w2 HXA.out 3).1.trans (show _ = some (Value.slice none 0 0) from rfl))
      have y0 := (hf 0).2.trans (HNW.out w2 HXA.out 0).2
      have y1 := (hf 1).2.trans (HNW.out w2 HXA.out 1).2
      have y2 := (hf 2).2.trans (HNW.out w2 HXA.out 2).2
      have y3 := (hf 3).2.trans (HNW.out w2 HXA.out 3).2
      have HOF := hidP (HU.out.own HA.out)
      have HXF : Hid (Ext w wr) := HU.out.below (HX1.out.trans HXA.out) (HX1.out.trans HXA.out).size (fun b o e _ => by have := (HBS.out b o e).1; omega)
      have hsz2 := HS1.out
      clear hf
      go_wp2
      refine bodyPost_ret (v := matV p k k a (k * k) (k * k)) (by simp [results, Tryz.results128, go_sem, r0, r1, r2, r3]) rfl ⟨_, rfl, ?_, ?_⟩
      · refine OwnI.base (B := w0.heap.size) ?_ (by omega)
        refine OwnI.setBelow (OwnI.setBelow (OwnI.setBelow (OwnI.setBelow HOF.out _ _ ?_ _) _ _ ?_ _) _ _ ?_ _) _ _ ?_ _ <;> omega
      · refine Ext.setNew (Ext.setNew (Ext.setNew (Ext.setNew HXF.out _ _ ?_ _) _ _ ?_ _) _ _ ?_ _) _ _ ?_ _ <;> omega
end Go.Proofs.YtenlhfimdpcaoaaGreat

namespace Go.Proofs.YtenlhfimdpcaoaaGreat
open Go.RowKit

theorem matM_ext {p : Int} {n : Nat} {X : List Int} {f : Nat → Nat → Int} (hl : X.length = n * n) (h : ∀ i j, i < n → j < n → X.getD (i * n + j) 0 = f i j % p) : X = matM p n f := by
  refine ints_ext (by rw [hl, matM_length]) fun q hq => ?_
  rw [hl] at hq
  have hn : 0 < n := by
    rcases Nat.eq_zero_or_pos n with h0 | h0
    · subst h0; simp at hq
    · exact h0
  have h1 : q / n < n := Nat.div_lt_of_lt_mul hq
  have h2 : q % n < n := Nat.mod_lt _ hn
  have h3 : q / n * n + q % n = q := by rw [Nat.mul_comm]; exact Nat.div_add_mod q n
  have e1 := h (q / n) (q % n) h1 h2
  have e2 := matM_at p f h1 h2
  unfold entM at e2
  rw [h3] at e1 e2
  rw [e1, e2]
theorem matM_set {p : Int} {n i j : Nat} (hi : i < n) (hj : j < n) (f : Nat → Nat → Int) (v : Int) : (matM p n f).set (i * n + j) (v % p) = matM p n fun a b => if a = i ∧ b = j then v else f a b := by
  refine matM_ext (by rw [List.length_set, matM_length]) fun a b ha hb => ?_
  rw [List.getD_eq_getElem?_getD, List.getElem?_set]
  by_cases e : i * n + j = a * n + b
  · have h1 := congrArg (· / n) e
    have h2 := congrArg (· % n) e
    simp only [place_div hj, place_div hb, place_mod hj, place_mod hb] at h1 h2
    rw [if_pos e, if_pos (by rw [matM_length]; exact place_lt hi hj), if_pos ⟨h1.symm, h2.symm⟩]
    rfl
  · rw [if_neg e, if_neg (fun h => e (by rw [h.1, h.2])), ← List.getD_eq_getElem?_getD]
    exact matM_at p f ha hb
/-- on the way: rows ahead of i done, in row i the first k summands, of the next one the first j columns -/
def mulEl (n : Nat) (A B : List Int) (i k j a b : Nat) : Int :=
  if a < i then sumTo n fun l => entM n A a l * entM n B l b else if a = i then (sumTo k fun l => entM n A a l * entM n B l b) + (if b < j then entM n A i k * entM n B k b else 0) else 0
def mulTo (p : Int) (n : Nat) (A B : List Int) (i k j : Nat) : List Int := matM p n (mulEl n A B i k j)
theorem mulTo_zero (p : Int) (n : Nat) (A B : List Int) : mulTo p n A B 0 0 0 = List.replicate (n * n) 0 := by
  symm
  refine matM_ext (by simp) fun a b ha hb => ?_
  unfold mulEl
  rw [if_neg (by omega)]
  have h0 : (if a = 0 then (sumTo 0 fun l => entM n A a l * entM n B l b) + (if b < 0 then entM n A 0 0 * entM n B 0 b else 0) else (0 : Int)) = 0 := by
    split
    · rw [if_neg (by omega)]; rfl
    · rfl
  rw [h0]
  simp [List.getD_eq_getElem?_getD, List.getElem?_replicate]
  split <;> simp
theorem mulTo_row (p : Int) (n : Nat) (A B : List Int) (i : Nat) : mulTo p n A B i n 0 = mulTo p n A B (i + 1) 0 0 := by
  refine matM_congr fun a b _ _ => ?_
  unfold mulEl
  by_cases h : a < i
  · rw [if_pos h, if_pos (by omega)]
  · rw [if_neg h]
    by_cases h2 : a = i
    · rw [if_pos h2, if_neg (show ¬ b < 0 by omega), if_pos (show a < i + 1 by omega), Int.add_zero]
    · rw [if_neg h2, if_neg (show ¬ a < i + 1 by omega)]
      by_cases h3 : a = i + 1
      · rw [if_pos h3, if_neg (show ¬ b < 0 by omega)]; rfl
      · rw [if_neg h3]
theorem mulTo_next (p : Int) (n : Nat) (A B : List Int) (i k : Nat) : mulTo p n A B i k n = mulTo p n A B i (k + 1) 0 := by
  refine matM_congr fun a b _ hb => ?_
  unfold mulEl
  by_cases h : a < i
  · rw [if_pos h, if_pos h]
  · rw [if_neg h, if_neg h]
    by_cases h2 : a = i
    · rw [if_pos h2, if_pos h2, if_pos hb, if_neg (show ¬ b < 0 by omega), Int.add_zero, sumTo, h2]
    · rw [if_neg h2, if_neg h2]
theorem mulTo_skip (p : Int) (n : Nat) (A B : List Int) (i k j : Nat) (h0 : entM n A i k = 0) : mulTo p n A B i k j = mulTo p n A B i (k + 1) 0 := by
  refine matM_congr fun a b _ hb => ?_
  unfold mulEl
  by_cases h : a < i
  · rw [if_pos h, if_pos h]
  · rw [if_neg h, if_neg h]
    by_cases h2 : a = i
    · rw [if_pos h2, if_pos h2, if_neg (by omega : ¬ b < 0), sumTo, h2, h0]
      simp
    · rw [if_neg h2, if_neg h2]
theorem mulTo_set (p : Int) {n : Nat} (A B : List Int) {i k j : Nat} (hi : i < n) (hj : j < n) :
    (mulTo p n A B i k j).set (i * n + j) (((mulTo p n A B i k j).getD (i * n + j) 0 + entM n A i k * entM n B k j) % p) = mulTo p n A B i k (j + 1) := by
  have hg : (mulTo p n A B i k j).getD (i * n + j) 0 = mulEl n A B i k j i j % p := matM_at p _ hi hj
  rw [hg, Int.add_emod, Int.emod_emod_of_dvd _ (Int.dvd_refl p), ← Int.add_emod]
  unfold mulTo
  rw [matM_set hi hj]
  refine matM_congr fun a b _ _ => ?_
  by_cases e : a = i ∧ b = j
  · obtain ⟨rfl, rfl⟩ := e
    rw [if_pos ⟨rfl, rfl⟩]
    unfold mulEl
    rw [if_neg (Nat.lt_irrefl _), if_pos rfl, if_neg (Nat.lt_irrefl _), if_neg (Nat.lt_irrefl _), if_pos rfl, if_pos (Nat.lt_succ_self _), Int.add_zero]
  · rw [if_neg e]
    unfold mulEl
    by_cases h : a < i
    · rw [if_pos h, if_pos h]
    · rw [if_neg h, if_neg h]
      by_cases h2 : a = i
      · rw [if_pos h2, if_pos h2]
        by_cases h3 : b < j
        · rw [if_pos h3, if_pos (by omega)]
        · rw [if_neg h3, if_neg (by omega)]
      · rw [if_neg h2, if_neg h2]
theorem mulTo_all (p : Int) (n : Nat) (A B : List Int) : mulTo p n A B n 0 0 = mulM p n A B := by
  refine matM_congr fun a b ha _ => ?_
  unfold mulEl
  rw [if_pos ha]
theorem mulTo_at {p : Int} (hp : 0 < p) {n : Nat} (A B : List Int) (i k j : Nat) {t : Nat} (ht : t < n * n) : 0 ≤ (mulTo p n A B i k j).getD t 0 ∧ (mulTo p n A B i k j).getD t 0 < p := by
  have := matM_res hp n (mulEl n A B i k j) t (by rw [matM_length]; exact ht)
  exact this
theorem MatAt.upd {w w' : World} {b : Nat} {p r s : Int} {a : Option Addr} {n c : Nat} {a' : Option Addr} {n' : Nat} {ys : List Int} (h : MatAt w b p r s a n c) (hu : UpdI w w' a' n' ys) (hne : ∀ b' o', a' = some ⟨b', o', none⟩ → b ≠ b') : MatAt w' b p r s a n c :=
  have hl := World.block_lt_of_cell? w _ h.c0
  have hh := hu.other b hl fun b' o' e _ => hne b' o' e
  ⟨(World.cell?_of_block (a := ⟨b, 0, none⟩) hh).trans h.c0, (World.cell?_of_block (a := ⟨b, 1, none⟩) hh).trans h.c1, (World.cell?_of_block (a := ⟨b, 2, none⟩) hh).trans h.c2, (World.cell?_of_block (a := ⟨b, 3, none⟩) hh).trans h.c3⟩
set_option maxRecDepth 100000 in
set_option maxHeartbeats 8000000 in
theorem l1Mul_any (p : Int) (n : Nat) (a1 a2 : Option Addr) (c1 c2 : Nat) (A B : List Int) (w : World) (hA : IntsAt w a1 (n * n) A) (hB : IntsAt w a2 (n * n) B) (hrA : Res p A) (hrB : Res p B) (hp : 2 ≤ p) (hp2 : p ≤ 10007) (hn : n ≤ 40) :
    Calls Tryz.prog 129 #[matV p n n a1 (n * n) c1, matV p n n a2 (n * n) c2] w fun e w' => ∃ a, e = .returned (matV p n n a (n * n) (n * n)) ∧ OwnI w' w.heap.size a (n * n) (n * n) (mulM p n A B) ∧ Ext w w' := by
  have hAl := hA.len
  have hBl := hB.len
  have hx1 := Ext.alloc w (.cells #[.int .i64 p, .int .i64 (n : Int), .int .i64 (n : Int), .slice a1 (n * n) c1] 28)
  obtain ⟨w1, hw1⟩ : ∃ w1, w1 = w.alloc (.cells #[.int .i64 p, .int .i64 (n : Int), .int .i64 (n : Int), .slice a1 (n * n) c1] 28) := ⟨_, rfl⟩
  have hx2 := Ext.alloc w1 (.cells #[.int .i64 p, .int .i64 (n : Int), .int .i64 (n : Int), .slice a2 (n * n) c2] 28)
  obtain ⟨w2, hw2⟩ : ∃ w2, w2 = w1.alloc (.cells #[.int .i64 p, .int .i64 (n : Int), .int .i64 (n : Int), .slice a2 (n * n) c2] 28) := ⟨_, rfl⟩
  have hx3 := Ext.alloc w2 (.cells #[.int .i64 0, .int .i64 0, .int .i64 0, .slice none 0 0] 28)
  obtain ⟨w3, hw3⟩ : ∃ w3, w3 = w2.alloc (.cells #[.int .i64 0, .int .i64 0, .int .i64 0, .slice none 0 0] 28) := ⟨_, rfl⟩
  have s1 : w1.heap.size = w.heap.size + 1 := by rw [hw1]; simp
  have s2 : w2.heap.size = w.heap.size + 1 + 1 := by rw [hw2]; simp [s1]
  have s3 : w3.heap.size = w.heap.size + 1 + 1 + 1 := by rw [hw3]; simp [s2]
  rw [← hw1] at hx1
  rw [← hw2] at hx2
  rw [← hw3] at hx3
  have hM1 : MatAt w3 w.heap.size p n n a1 (n * n) c1 := ((by rw [hw1]; exact MatAt.new w _ rfl _ _ _ _ _ _ _ : MatAt w1 w.heap.size p n n a1 (n * n) c1).below hx2).below hx3
  have hM2 : MatAt w3 (w.heap.size + 1) p n n a2 (n * n) c2 := (by rw [hw2]; exact MatAt.new w1 _ s1.symm _ _ _ _ _ _ _ : MatAt w2 (w.heap.size + 1) p n n a2 (n * n) c2).below hx3
  have hM3 : MatAt w3 (w.heap.size + 1 + 1) 0 0 0 none 0 0 := by rw [hw3]; exact MatAt.new w2 _ s2.symm _ _ _ _ _ _ _
  have hF3 : ∀ j, w3.frozen? ⟨w.heap.size + 1 + 1, j, none⟩ = false := fun j => by rw [hw3]; exact frozen_top _ _ _ _ _ s2.symm
  have hX := hx1.trans (hx2.trans hx3)
  have HA := hidP (hA.below hX)
  have HB := hidP (hB.below hX)
  have HX := hidP hX
  have HM1 := hidP hM1
  have HM2 := hidP hM2
  have HM3 := hidP hM3
  have HF3 := hidP hF3
  have HZ := hidP (l1Zero_any p n n w3 (by omega) (by omega) (by omega) (by omega))
  have hnn : ((n : Int) * n).toNat = n * n := by rw [← Int.natCast_mul]; exact Int.toNat_natCast _
  rw [hnn] at HZ
  have HbA : Hid (∀ b o, a1 = some ⟨b, o, none⟩ → 0 < n * n → b < w.heap.size) := fun b o e h0 => by subst e; exact hA.block_lt h0
  have HbB : Hid (∀ b o, a2 = some ⟨b, o, none⟩ → 0 < n * n → b < w.heap.size) := fun b o e h0 => by subst e; exact hB.block_lt h0
  have HrA := hidP hrA
  have HrB := hidP hrB
  have HAl := hidP hAl
  have HBl := hidP hBl
  have hnb : n * n ≤ 40 * 40 := Nat.mul_le_mul hn hn
  obtain ⟨N, hN⟩ : ∃ N, N = n * n := ⟨_, rfl⟩
  have HN := hidP hN
  rw [← hN] at HA HB HM1 HM2 HZ hnb HAl HBl HbA HbB ⊢
  have hS3 : Hid (w3.heap.size = w.heap.size + 1 + 1 + 1) := s3
  obtain ⟨d0, d1, d2, d3⟩ := HM1.out
  obtain ⟨b0, b1, b2, b3⟩ := HM2.out
  clear hA hB hx1 hx2 hx3 hX hM1 hM2 hM3 hF3 hrA hrB hAl hBl hnn s3
  go_enter Tryz.func129, Tryz.ntmps129
  go_wp2_with fail
  rw [← hw1, ← hw2, ← hw3]
  clear hw1 hw2 hw3 s1 s2 hN
  refine HZ.out.mono ?_
  rintro e w4 ⟨a4, rfl, ho4, hx4⟩
  have hx5 := hx4.trans (Ext.alloc w4 (.cells #[.int .i64 p, .int .i64 (n : Int), .int .i64 (n : Int), .slice a4 N N] 28))
  have HM5 := hidP (MatAt.new w4 _ rfl p n n a4 N N 28)
  have HO5 := hidP (ho4.below (Ext.alloc w4 (.cells #[.int .i64 p, .int .i64 (n : Int), .int .i64 (n : Int), .slice a4 N N] 28)))
  have HBs : Hid (∀ b o, a4 = some ⟨b, o, none⟩ → w.heap.size + 1 + 1 < b ∧ b < w4.heap.size) := by
    intro b o e
    have h1 := ho4.at_base b o e
    have h2 := hS3.out
    omega
  have HX5 := hidP hx5
  have HM15 := hidP (HM1.out.below hx5)
  have HM25 := hidP (HM2.out.below hx5)
  have HM35 := hidP (HM3.out.below hx5)
  have HA5 := hidP (HA.out.below hx5)
  have HB5 := hidP (HB.out.below hx5)
  have HF5 : Hid (∀ j, (w4.alloc (.cells #[.int .i64 p, .int .i64 (n : Int), .int .i64 (n : Int), .slice a4 N N] 28)).frozen? ⟨w.heap.size + 1 + 1, j, none⟩ = false) := fun j =>
    (hx5.frozen (p := ⟨w.heap.size + 1 + 1, j, none⟩) (World.block_lt_of_cell? w3 ⟨w.heap.size + 1 + 1, 0, none⟩ HM3.out.c0)).trans (HF3.out j)
  obtain ⟨bm, hbm⟩ : ∃ b, b = w4.heap.size := ⟨_, rfl⟩
  have HBm := hidP hbm
  have hB1 : w.heap.size + 1 + 1 < bm := by
    have h1 := hx4.size
    have h2 := hS3.out
    omega
  have HB1 := hidP hB1
  obtain ⟨wb, hwb⟩ : ∃ x, x = w4.alloc (.cells #[.int .i64 p, .int .i64 (n : Int), .int .i64 (n : Int), .slice a4 N N] 28) := ⟨_, rfl⟩
  rw [← hwb] at HM5 HO5 HX5 HM15 HM25 HM35 HA5 HB5 HF5
  rw [← hbm] at HM5
  obtain ⟨H, hH⟩ : ∃ H, H = w.heap.size := ⟨_, rfl⟩
  have HH := hidP hH
  rw [← hH] at HM15 HM25 HM35 HF5 HBs HB1
  have HU0 : Hid (UpdI wb wb a4 N (mulTo p n A B 0 0 0)) := by
    rw [mulTo_zero, ← HN.out]
    exact UpdI.start HO5.out.ints
  have HMb : Hid (bm < wb.heap.size ∧ w3.heap.size ≤ wb.heap.size) := ⟨World.block_lt_of_cell? wb _ HM5.out.c0, HX5.out.size⟩
  have hne : ∀ (ax : Option Addr) (X : List Int), Hid (∀ b o, ax = some ⟨b, o, none⟩ → 0 < N → b < w.heap.size) → IntsAt wb ax N X → ∀ wr ys, UpdI wb wr a4 N ys → IntsAt wr ax N X := by
    intro ax X hb hi wr ys hu
    rcases Nat.eq_zero_or_pos N with h0 | h0
    · subst h0
      exact ⟨hi.len, fun i h => by omega⟩
    · exact hu.others hi fun b o b' o' e e' => by
        have h1 := (HBs.out b o e).1
        have h2 := hb.out b' o' e' h0
        have h3 := HH.out
        omega
  have HAr := hidP (fun wr ys hu => hne a1 A HbA HA5.out wr ys hu)
  have HBr := hidP (fun wr ys hu => hne a2 B HbB HB5.out wr ys hu)
  have HMs : Hid (∀ wr ys, UpdI wb wr a4 N ys → MatAt wr H p n n a1 N c1 ∧ MatAt wr (H + 1) p n n a2 N c2 ∧ MatAt wr bm p n n a4 N N ∧ MatAt wr (H + 1 + 1) 0 0 0 none 0 0 ∧ ∀ j, wr.frozen? ⟨H + 1 + 1, j, none⟩ = false) := by
    intro wr ys hu
    have hb := HBs.out
    have hm := HBm.out
    refine ⟨HM15.out.upd hu (fun b o e => by have := (hb b o e).1; omega), HM25.out.upd hu (fun b o e => by have := (hb b o e).1; omega), HM5.out.upd hu (fun b o e => by have := (hb b o e).2; omega), HM35.out.upd hu (fun b o e => by have := (hb b o e).1; omega), fun j => ?_⟩
    have hl : H + 1 + 1 < wb.heap.size := World.block_lt_of_cell? wb ⟨H + 1 + 1, 0, none⟩ HM35.out.c0
    rw [World.frozen?_of_block (a := ⟨H + 1 + 1, j, none⟩) (hu.other (H + 1 + 1) hl fun b o e _ => by have := (hb b o e).1; omega)]
    exact HF5.out j
  clear hne ho4 hx4 hx5 hB1 HM1 HM2 HM3 HA HB HF3 HZ d0 d1 d2 d3 b0 b1 b2 b3 HM15 HM25 HM5 HM35 HF5
  go_wp2
  rw [← hwb, ← hbm, ← hH]
  clear hwb hbm hH
  go_loopw [6] (fun v6 wr => ∃ i : Nat, i ≤ n ∧ v6 = .int .i64 i ∧ Hid (UpdI wb wr a4 N (mulTo p n A B i 0 0))) (fun v6 _ => n - (intOf v6).toNat)
  case atStart => exact ⟨0, Nat.zero_le _, rfl, HU0⟩
  case round =>
    clear HU0
    obtain ⟨i, hi, rfl, HU⟩ := hrel
    obtain ⟨⟨m0, m1, m2, m3⟩, _, _, _, _⟩ := HMs.out wr _ HU.out
    by_cases hin : i < n
    · have hiI : (i : Int) < (n : Int) := by omega
      go_wp2
      go_loopw [7] (fun v7 wr => ∃ k : Nat, k ≤ n ∧ v7 = .int .i64 k ∧ Hid (UpdI wb wr a4 N (mulTo p n A B i k 0))) (fun v7 _ => n - (intOf v7).toNat)
      case atStart => exact ⟨0, Nat.zero_le _, rfl, HU⟩
      case round =>
        clear HU m0 m1 m2 m3
        obtain ⟨k, hk, rfl, HU⟩ := hrel
        obtain ⟨⟨m0, m1, m2, m3⟩, _, _, _, _⟩ := HMs.out wr _ HU.out
        by_cases hkn : k < n
        · have hkI : (k : Int) < (n : Int) := by omega
          have hik : i * n + k < N := by rw [HN.out]; exact place_lt hin hkn
          have HAt := hidP (l1At_any p n n i k N c1 a1 A wr (HAr.out wr _ HU.out) (by have := HN.out; have := Nat.mul_le_mul hn hn; omega) hik)
          have hxr := HrA.out (i * n + k) (by rw [HAl.out]; exact hik)
          have HSk := hidP (mulTo_skip p n A B i k 0)
          have hat : entM n A i k = A.getD (i * n + k) 0 := rfl
          have HSet := hidP (fun j (hj : j < n) => mulTo_set p A B (i := i) (k := k) (j := j) hin hj)
          rw [hat] at HSk HSet
          generalize A.getD (i * n + k) 0 = x at *
          go_wp2_with fail
          refine HAt.out.mono ?_
          rintro e w6 ⟨rfl, hx6⟩
          have HU6 := hidP (HU.out.ext hx6)
          clear m0 m1 m2 m3 hat HAt HU hx6 hik
          by_cases hx0 : x = 0
          · have HU7 : Hid (UpdI wb w6 a4 N (mulTo p n A B i (k + 1) 0)) := by
              rw [← HSk.out hx0]
              exact HU6.out
            subst hx0
            obtain ⟨_, ⟨m0, m1, m2, m3⟩, _, _, _⟩ := HMs.out w6 _ HU6.out
            clear HU6 HSk HSet
            go_wp2
            go_loopw [9] (fun v9 wr => v9 = .int .i64 0 ∧ Hid (UpdI wb wr a4 N (mulTo p n A B i (k + 1) 0))) (fun _ _ => 0)
            case atStart => exact ⟨rfl, HU7⟩
            case round =>
              clear HU7 m0 m1 m2 m3
              obtain ⟨rfl, HU7⟩ := hrel
              obtain ⟨_, ⟨m0, m1, m2, m3⟩, _, _, _⟩ := HMs.out wr _ HU7.out
              have h0n : (0 : Int) < (n : Int) := by omega
              go_wp2
              go_roundw
              case rel => exact ⟨k + 1, by omega, by go_num, HU7⟩
              case measure => simp [intOf]; omega
          · have hxb : (x != 0) = true := by simpa using hx0
            clear HSk
            go_wp2
            go_loopw [9] (fun v9 wr => ∃ j : Nat, j ≤ n ∧ v9 = .int .i64 j ∧ Hid (UpdI wb wr a4 N (mulTo p n A B i k j))) (fun v9 _ => n - (intOf v9).toNat)
            case atStart => exact ⟨0, Nat.zero_le _, rfl, HU6⟩
            case round =>
              clear HU6
              obtain ⟨j, hj, rfl, HU⟩ := hrel
              by_cases hjn : j < n
              · have hjI : (j : Int) < (n : Int) := by omega
                obtain ⟨t, ht⟩ : ∃ t, t = i * n + j := ⟨_, rfl⟩
                have htN : t < N := by rw [HN.out, ht]; exact place_lt hin hjn
                have hkj : k * n + j < N := by rw [HN.out]; exact place_lt hkn hjn
                obtain ⟨b4, rfl, _, _, _, hz4⟩ := HO5.out.cell t htN
                obtain ⟨hc4, hf4⟩ := HU.out.cellInt t htN
                rw [Nat.zero_add] at hc4 hf4
                have hz4 := hf4.trans hz4
                have hset := HSet.out j hjn
                rw [← ht] at hset
                have hbt : entM n B k j = B.getD (k * n + j) 0 := rfl
                rw [hbt] at hset
                have hyr := HrB.out (k * n + j) (by rw [HBl.out]; exact hkj)
                have hur := mulTo_at (show 0 < p by omega) A B i k j (t := t) (by rw [← HN.out]; exact htN)
                have HBt := hidP (fun w' (hx : Ext wr w') => l1At_any p n n k j N c2 a2 B w' ((HBr.out wr _ HU.out).below hx) (by have := HN.out; have := Nat.mul_le_mul hn hn; omega) hkj)
                have HMr := hidP (fun w' (hx : Ext wr w') => (⟨(HMs.out wr _ HU.out).1.below hx, (HMs.out wr _ HU.out).2.1.below hx, (HMs.out wr _ HU.out).2.2.1.below hx⟩ : _ ∧ _ ∧ _))
                have hbl4 := World.block_lt_of_cell? wr _ hc4
                have HC4 := hidP (fun w' (hx : Ext wr w') => (⟨(hx.cell (p := ⟨b4, t, none⟩) hbl4).trans hc4, (hx.frozen (p := ⟨b4, t, none⟩) hbl4).trans hz4⟩ : _ ∧ _))
                generalize B.getD (k * n + j) 0 = y at *
                generalize (mulTo p n A B i k j).getD t 0 = u at *
                have htI : (t : Int) = (i : Int) * n + j := by rw [ht, Int.natCast_add, Int.natCast_mul]
                have hm0 : 0 ≤ (i : Int) * n := Int.mul_nonneg (by omega) (by omega)
                have hNb : N ≤ 1600 := by have := HN.out; have := Nat.mul_le_mul hn hn; omega
                have e1 : IntKind.i64.wrap ((i : Int) * n) = (i : Int) * n := wrap_in (by omega) (by omega)
                have e2 : IntKind.i64.wrap ((i : Int) * n + j) = (t : Int) := by rw [← htI]; exact wrap_in (by omega) (by omega)
                have hxy0 : 0 ≤ x * y := Int.mul_nonneg hxr.1 hyr.1
                have hxy1 : x * y ≤ 100140049 := Int.le_trans (Int.mul_le_mul (show x ≤ 10007 by omega) (show y ≤ 10007 by omega) hyr.1 (by decide)) (by decide)
                have e3 : IntKind.i64.wrap (x * y) = x * y := wrap_in (by omega) (by omega)
                have e4 : IntKind.i64.wrap (u + x * y) = u + x * y := wrap_in (by omega) (by omega)
                have e5 : (u + x * y).tmod p = (u + x * y) % p := Int.tmod_eq_emod_of_nonneg (by omega)
                have hpz : ¬ p = 0 := by omega
                have htI2 : (t : Int) < (N : Int) := by omega
                have ht0 : (0 : Int) ≤ (t : Int) := by omega
                have HSe := hidP hset
                have hu2 := HU.out.store t htN ((u + x * y) % p)
                rw [Nat.zero_add, hset] at hu2
                obtain ⟨_, ⟨m0, m1, m2, m3⟩, _, _, _⟩ := HMs.out wr _ HU.out
                have hE : Ext wr wr.drew := Ext.drew wr
                have htN2 := hidP htN
                clear hset hu2 ht htN hkj hc4 hz4 hf4 hbt htI hbl4 hNb
                go_wp2
                (refine walkR_start (fun w' => Ext wr w') 29 (by kernel_rfl) ?_; simp only [numbered, List.take_succ_cons, List.take_zero, Nat.zero_add, Nat.reduceAdd, List.length_cons, List.length_nil])
                (repeat (first | (refine walkR_still (v := ?_) rfl (by decide +kernel) rfl (fun _ _ _ h => h) hE ?_ ?_; rotate_left; (focus (intro w' hw'; obtain ⟨⟨⟨x0, x1, x2, x3⟩, ⟨y0, y1, y2, y3⟩, ⟨z0, z1, z2, z3⟩⟩, k0, _⟩ := And.intro (HMr.out w' hw') (HC4.out w' hw'); go_simp; all_goals (with_reducible rfl))); simp only [Act.put, List.setIfInBounds_toArray, List.set_cons_zero, List.set_cons_succ]) | (refine walkR_skip rfl (by decide +kernel) rfl (fun _ _ _ h => h) hE ?_; simp only [Act.put, List.setIfInBounds_toArray, List.set_cons_zero, List.set_cons_succ])))
                (refine walkR_later ?_; simp only [List.cons_append, List.nil_append]); (refine walkR_later ?_; simp only [List.cons_append, List.nil_append]); (refine walkR_later ?_; simp only [List.cons_append, List.nil_append])
                (repeat (first | (refine walkR_still (v := ?_) rfl (by decide +kernel) rfl (fun _ _ _ h => h) hE ?_ ?_; rotate_left; (focus (intro w' hw'; obtain ⟨⟨⟨x0, x1, x2, x3⟩, ⟨y0, y1, y2, y3⟩, ⟨z0, z1, z2, z3⟩⟩, k0, _⟩ := And.intro (HMr.out w' hw') (HC4.out w' hw'); go_simp; all_goals (with_reducible rfl))); simp only [Act.put, List.setIfInBounds_toArray, List.set_cons_zero, List.set_cons_succ]) | (refine walkR_skip rfl (by decide +kernel) rfl (fun _ _ _ h => h) hE ?_; simp only [Act.put, List.setIfInBounds_toArray, List.set_cons_zero, List.set_cons_succ])))
                (refine walkR_later ?_; simp only [List.cons_append, List.nil_append]); (refine walkR_later ?_; simp only [List.cons_append, List.nil_append])
                (refine walkR_only (fun w' => Ext wr w') rfl (by decide +kernel) rfl (fun _ h => h) ?_; intro K hK; go_simp; refine (HBt.out _ hE).mono ?_; rintro e w7 ⟨rfl, hx7⟩; refine hK _ _ (hE.trans hx7) ?_; clear hK K; (try simp only [Act.put, List.setIfInBounds_toArray, List.set_cons_zero, List.set_cons_succ]))
                have hE7 := hE.trans hx7
                (repeat (first | (refine walkR_still (v := ?_) rfl (by decide +kernel) rfl (fun _ _ _ h => h) hE7 ?_ ?_; rotate_left; (focus (intro w' hw'; obtain ⟨⟨⟨x0, x1, x2, x3⟩, ⟨y0, y1, y2, y3⟩, ⟨z0, z1, z2, z3⟩⟩, k0, _⟩ := And.intro (HMr.out w' hw') (HC4.out w' hw'); go_simp; all_goals (with_reducible rfl))); simp only [Act.put, List.setIfInBounds_toArray, List.set_cons_zero, List.set_cons_succ]) | (refine walkR_skip rfl (by decide +kernel) rfl (fun _ _ _ h => h) hE7 ?_; simp only [Act.put, List.setIfInBounds_toArray, List.set_cons_zero, List.set_cons_succ])))
                (refine walkR_tail (by rfl) (by kernel_rfl) ?_; simp only [List.drop_succ_cons, List.drop_zero])
                have hu7 := HU.out.ext hE7
                have hst := hu7.store t htN2.out ((u + x * y) % p)
                rw [Nat.zero_add, HSe.out] at hst
                have HU8 := hidP hst
                obtain ⟨k0, k1⟩ := HC4.out w7 hE7
                clear hu7 hst hE hE7 hx7 HU HMr HC4 HBt m0 m1 m2 m3
                go_wp2
                go_roundw
                case rel => exact ⟨j + 1, by omega, by go_num, HU8⟩
                case measure => simp [intOf]; omega
              · obtain rfl : j = n := by omega
                have hjj : ¬ (j : Int) < (j : Int) := by omega
                have HU2 : Hid (UpdI wb wr a4 N (mulTo p j A B i (k + 1) 0)) := by
                  rw [← mulTo_next]
                  exact HU.out
                obtain ⟨_, ⟨m0, m1, m2, m3⟩, _, _, _⟩ := HMs.out wr _ HU.out
                clear HU
                go_wp2
                go_roundw
                case rel => exact ⟨k + 1, by omega, by go_num, HU2⟩
                case measure => simp [intOf]; omega
        · obtain rfl : k = n := by omega
          have hkk : ¬ (k : Int) < (k : Int) := by omega
          have HU2 : Hid (UpdI wb wr a4 N (mulTo p k A B (i + 1) 0 0)) := by
            rw [← mulTo_row]
            exact HU.out
          clear HU
          go_wp2
          go_roundw
          case rel => exact ⟨i + 1, by omega, by go_num, HU2⟩
          case measure => simp [intOf]; omega
    · obtain rfl : i = n := by omega
      have HU2 : Hid (UpdI wb wr a4 N (mulM p i A B)) := by
        rw [← mulTo_all]
        exact HU.out
      obtain ⟨_, _, ⟨z0, z1, z2, z3⟩, ⟨r0, r1, r2, r3⟩, hfz⟩ := HMs.out wr _ HU.out
      have y0 := hfz 0
      have y1 := hfz 1
      have y2 := hfz 2
      have y3 := hfz 3
      have hii : ¬ (i : Int) < (i : Int) := by omega
      have HO := hidP (HU2.out.own HO5.out)
      have HEx := hidP (HU2.out.below HX5.out HMb.out.2 (fun b o e _ => by
        have h1 := (HBs.out b o e).1
        have h2 := hS3.out
        have h3 := HH.out
        omega))
      have HLt : Hid (H + 1 + 1 < w3.heap.size ∧ w.heap.size ≤ H + 1 + 1) := by
        have h2 := hS3.out
        have h3 := HH.out
        show _ ∧ _
        omega
      clear hfz HU
      go_wp2
      refine bodyPost_ret (v := matV p (i : Int) (i : Int) a4 N N) (by simp [results, Tryz.results129, go_sem, r0, r1, r2, r3]) rfl ?_
      refine ⟨a4, rfl, ?_, ?_⟩
      · exact ((((HO.out.setBelow _ _ HLt.out.1 _).setBelow _ _ HLt.out.1 _).setBelow _ _ HLt.out.1 _).setBelow _ _ HLt.out.1 _).base HX.out.size
      · exact Ext.setNew (Ext.setNew (Ext.setNew (Ext.setNew (HX.out.trans HEx.out) _ _ HLt.out.2 _) _ _ HLt.out.2 _) _ _ HLt.out.2 _) _ _ HLt.out.2 _
end Go.Proofs.YtenlhfimdpcaoaaGreat

namespace Go.Proofs.YtenlhfimdpcaoaaGreat
open Go.RowKit

theorem place_inj3 {n x y z X Y Z : Nat} (hy : y < n) (hz : z < n) (hY : Y < n) (hZ : Z < n) (e : (x * n + y) * n + z = (X * n + Y) * n + Z) : x = X ∧ y = Y ∧ z = Z := by
  have h1 : x * n + y = X * n + Y := by rw [← place_div (i := x * n + y) hz, e, place_div hZ]
  have h2 : z = Z := by rw [← place_mod (i := x * n + y) hz, e, place_mod hZ]
  have h3 : x = X := by rw [← place_div (i := x) hy, h1, place_div hY]
  have h4 : y = Y := by rw [← place_mod (i := x) hy, h1, place_mod hY]
  exact ⟨h3, h4, h2⟩
theorem tab_setAt {n x y z X Y Z : Nat} {T : List Int} (hl : T.length = n * n * n) (_ : x < n) (hy : y < n) (hz : z < n) (hX : X < n) (hY : Y < n) (hZ : Z < n) (v : Int) :
    tab (T.set ((X * n + Y) * n + Z) v) n x y z = if x = X ∧ y = Y ∧ z = Z then v else tab T n x y z := by
  have hb := nidx_lt hX hY
  unfold tab
  rw [List.getD_eq_getElem?_getD, List.getElem?_set]
  by_cases e : x = X ∧ y = Y ∧ z = Z
  · obtain ⟨rfl, rfl, rfl⟩ := e
    rw [if_pos rfl, if_pos (by omega), if_pos ⟨rfl, rfl, rfl⟩]
    rfl
  · rw [if_neg (fun h => e (place_inj3 hY hZ hy hz h |> fun ⟨a, b, c⟩ => ⟨a.symm, b.symm, c.symm⟩)), if_neg e, List.getD_eq_getElem?_getD]
/-- the places of D are filled by f, the others hold 0 -/
structure TabD (n : Nat) (f : Nat → Nat → Nat → Int) (D : Nat → Nat → Nat → Prop) (T : List Int) : Prop where
  len : T.length = n * n * n
  on : ∀ x y z, x < n → y < n → z < n → D x y z → tab T n x y z = f x y z
  off : ∀ x y z, x < n → y < n → z < n → ¬ D x y z → tab T n x y z = 0
theorem TabD.step {n : Nat} {f : Nat → Nat → Nat → Int} {D D' : Nat → Nat → Nat → Prop} {T : List Int} (h : TabD n f D T) {X Y Z : Nat} (hX : X < n) (hY : Y < n) (hZ : Z < n)
    (hD : ∀ x y z, x < n → y < n → z < n → (D' x y z ↔ D x y z ∨ (x = X ∧ y = Y ∧ z = Z))) : TabD n f D' (T.set ((X * n + Y) * n + Z) (f X Y Z)) := by
  refine ⟨by rw [List.length_set]; exact h.len, fun x y z hx hy hz hd => ?_, fun x y z hx hy hz hd => ?_⟩
  · rw [tab_setAt h.len hx hy hz hX hY hZ]
    by_cases e : x = X ∧ y = Y ∧ z = Z
    · rw [if_pos e]
      obtain ⟨rfl, rfl, rfl⟩ := e
      rfl
    · rw [if_neg e]
      exact h.on x y z hx hy hz (((hD x y z hx hy hz).1 hd).resolve_right e)
  · rw [tab_setAt h.len hx hy hz hX hY hZ, if_neg fun e => hd ((hD x y z hx hy hz).2 (.inr e))]
    exact h.off x y z hx hy hz fun e => hd ((hD x y z hx hy hz).2 (.inl e))
theorem TabD.congr {n : Nat} {f : Nat → Nat → Nat → Int} {D D' : Nat → Nat → Nat → Prop} {T : List Int} (h : TabD n f D T) (hD : ∀ x y z, x < n → y < n → z < n → (D' x y z ↔ D x y z)) : TabD n f D' T :=
  ⟨h.len, fun x y z hx hy hz hd => h.on x y z hx hy hz ((hD x y z hx hy hz).1 hd), fun x y z hx hy hz hd => h.off x y z hx hy hz fun e => hd ((hD x y z hx hy hz).2 e)⟩
theorem TabD.zero (n : Nat) (f : Nat → Nat → Nat → Int) : TabD n f (fun _ _ _ => False) (List.replicate (n * n * n) 0) := by
  refine ⟨List.length_replicate, fun _ _ _ _ _ _ h => h.elim, fun x y z _ _ _ _ => ?_⟩
  unfold tab
  rw [List.getD_eq_getElem?_getD, List.getElem?_replicate]
  split <;> rfl
/-- ahead of the place (i, j, k) -/
def befP (i j k x y z : Nat) : Prop := x < i ∨ (x = i ∧ (y < j ∨ (y = j ∧ z < k)))
/-- the places of the first part, up to (i, j, k) -/
def sumD1 (a i j k x y z : Nat) : Prop := x < a ∧ y < a ∧ z < a ∧ befP i j k x y z
/-- and those of the second -/
def sumD2 (a i j k x y z : Nat) : Prop := (x < a ∧ y < a ∧ z < a) ∨ (a ≤ x ∧ a ≤ y ∧ a ≤ z ∧ befP (a + i) (a + j) (a + k) x y z)
theorem sumD1_zero (a x y z : Nat) : sumD1 a 0 0 0 x y z ↔ False := ⟨fun h => by unfold sumD1 befP at h; omega, False.elim⟩
theorem sumD1_step {a i j k : Nat} (hi : i < a) (hj : j < a) (hk : k < a) (x y z : Nat) : sumD1 a i j (k + 1) x y z ↔ sumD1 a i j k x y z ∨ (x = i ∧ y = j ∧ z = k) := by unfold sumD1 befP; omega
theorem sumD1_row {a i j : Nat} (x y z : Nat) : sumD1 a i (j + 1) 0 x y z ↔ sumD1 a i j a x y z := by unfold sumD1 befP; omega
theorem sumD1_next {a i : Nat} (x y z : Nat) : sumD1 a (i + 1) 0 0 x y z ↔ sumD1 a i a 0 x y z := by unfold sumD1 befP; omega
theorem sumD2_zero (a x y z : Nat) : sumD2 a 0 0 0 x y z ↔ sumD1 a a 0 0 x y z := by unfold sumD2 sumD1 befP; omega
theorem sumD2_step {a i j k : Nat} (x y z : Nat) : sumD2 a i j (k + 1) x y z ↔ sumD2 a i j k x y z ∨ (x = a + i ∧ y = a + j ∧ z = a + k) := by unfold sumD2 befP; omega
theorem sumD2_row {a b i j : Nat} (x y z : Nat) (hz : z < a + b) : sumD2 a i (j + 1) 0 x y z ↔ sumD2 a i j b x y z := by unfold sumD2 befP; omega
theorem sumD2_next {a b i : Nat} (x y z : Nat) (hy : y < a + b) (_ : z < a + b) : sumD2 a (i + 1) 0 0 x y z ↔ sumD2 a i b 0 x y z := by unfold sumD2 befP; omega
theorem sumE_one {t1 t2 : List Int} {a b i j k : Nat} (hi : i < a) (hj : j < a) (hk : k < a) : sumE t1 t2 a b i j k = tab t1 a i j k := by unfold sumE; rw [if_pos ⟨hi, hj, hk⟩]
theorem sumE_two {t1 t2 : List Int} {a b i j k : Nat} : sumE t1 t2 a b (a + i) (a + j) (a + k) = tab t2 b i j k := by
  unfold sumE
  rw [if_neg (by omega), if_pos ⟨by omega, by omega, by omega⟩, Nat.add_sub_cancel_left, Nat.add_sub_cancel_left, Nat.add_sub_cancel_left]
theorem sumD2_all {t1 t2 T : List Int} {a b : Nat} (h : TabD (a + b) (sumE t1 t2 a b) (sumD2 a b 0 0) T) : ∀ i j m, i < a + b → j < a + b → m < a + b → tab T (a + b) i j m = sumE t1 t2 a b i j m := by
  intro i j m hi hj hm
  by_cases hd : sumD2 a b 0 0 i j m
  · exact h.on i j m hi hj hm hd
  · rw [h.off i j m hi hj hm hd]
    unfold sumD2 befP at hd
    unfold sumE
    rw [if_neg (by omega), if_neg (by omega)]
end Go.Proofs.YtenlhfimdpcaoaaGreat
