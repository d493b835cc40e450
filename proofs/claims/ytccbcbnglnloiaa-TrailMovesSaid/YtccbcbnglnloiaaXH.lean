/- Joined: SO5 to SO16. -/
import Derived.Test.YtccbcbnglnloiaaXG
set_option linter.unusedVariables false
set_option linter.unusedSimpArgs false
set_option maxRecDepth 20000
set_option maxHeartbeats 2000000
namespace Go.Proofs.Ytccbcbnglnloiaa.G
open Go
structure InsR (Y : List Int) (a i j : Nat) : Prop where
 rest : ∀ p q u v, a ≤ p → p < q → q ≤ i → p ≠ j → q ≠ j → Y[p]? = some u → Y[q]? = some v → u ≤ v
 low : ∀ q v x, j < q → q ≤ i → Y[q]? = some v → Y[j]? = some x → x ≤ v
theorem InsR.start {Y : List Int} {a i : Nat} (h : Rises Y a i) : InsR Y a i i :=
 ⟨fun p q u v h1 h2 h3 h4 h5 hu hv => h p q u v h1 h2 (by omega) hu hv, fun q v x h1 h2 => by omega⟩
theorem InsR.done {Y : List Int} {a i j : Nat} (h : InsR Y a i j) (hj : j ≤ i) (hd : ∀ y x, a < j → Y[j - 1]? = some y → Y[j]? = some x → y ≤ x) (hl : i < Y.length) : Rises Y a (i + 1) := by
 intro p q u v h1 h2 h3 hu hv
 by_cases c1 : p = j
 ·subst c1; exact h.low q v u h2 (by omega) hv hu
 ·by_cases c2 : q = j
  ·subst c2
   have hy : Y[q - 1]? = some (Y[q - 1]'(by omega)) := List.getElem?_eq_getElem (by omega)
   have h5 := hd _ v (by omega) hy hv
   by_cases c3 : p = q - 1
   ·subst c3; rw [hy] at hu; cases hu; exact h5
   ·have := h.rest p (q - 1) u _ h1 (by omega) (by omega) c1 (by omega) hu hy
    omega
  ·exact h.rest p q u v h1 h2 (by omega) c1 c2 hu hv
theorem InsR.step {Y : List Int} {a i j : Nat} {x y : Int} (h : InsR Y a i j) (hj : a < j) (hji : j ≤ i) (hl : i < Y.length) (hy : Y[j - 1]? = some y) (hx : Y[j]? = some x) (hlt : x < y) : InsR ((Y.set j y).set (j - 1) x) a i (j - 1) := by
 have g : ∀ k, ((Y.set j y).set (j - 1) x)[k]? = if k = j - 1 then some x else if k = j then some y else Y[k]? := by
  intro k
  rw [List.getElem?_set, List.getElem?_set, List.length_set]
  by_cases c1 : k = j - 1
  ·subst c1; simp; omega
  ·rw [if_neg (Ne.symm c1), if_neg c1]
   by_cases c2 : k = j
   ·subst c2; simp; omega
   ·rw [if_neg (Ne.symm c2), if_neg c2]
 constructor
 ·intro p q u v h1 h2 h3 h4 h5 hu hv
  rw [g, if_neg h4] at hu
  rw [g, if_neg h5] at hv
  split at hu
  ·rename_i e; subst e
   cases hu
   rw [if_neg (by omega)] at hv
   exact h.rest (p - 1) q _ v (by omega) (by omega) h3 (by omega) (by omega) hy hv
  ·split at hv
   ·rename_i e1 e; subst e
    cases hv
    exact h.rest p (q - 1) u _ h1 (by omega) (by omega) (by omega) (by omega) hu hy
   ·exact h.rest p q u v h1 h2 h3 (by assumption) (by assumption) hu hv
 ·intro q v x' h1 h2 hv hx'
  rw [g, if_pos rfl] at hx'
  cases hx'
  rw [g, if_neg (by omega)] at hv
  split at hv
  ·cases hv; omega
  ·exact h.low q v x (by omega) h2 hv hx
theorem insR_round (X : List Int) (b cap a m i j n : Nat) (hn : X.length = n) (hj : j < n) (haj : a ≤ j) (hc : n ≤ 1000000) (J : JH) (hJ : J[b]? = some (.cells 0 (uL X) false)) (K : Out IV → JH → Prop)
  (h1 : (∀ y x, a < j → X[j - 1]? = some y → X[j]? = some x → y ≤ x) → K (.goto 1 [.sl b 0 0 n cap 1, nI a, nI m, nI i]) J)
  (h2 : ∀ y x, a < j → X[j - 1]? = some y → X[j]? = some x → x < y → K (.goto 2 [.sl b 0 0 n cap 1, nI a, nI m, nI i, nI (j - 1)]) (J.setIfInBounds b (.cells 0 (uL ((X.set j y).set (j - 1) x)) false))) :
  WP (dn BI l_slices_insertionSortOrdered_uint32_k1 [.sl b 0 0 n cap 1, nI a, nI m, nI i, nI j] J) K := by
 unfold l_slices_insertionSortOrdered_uint32_k1
 by_cases hj0 : j = a
 ·subst hj0
  simp -implicitDefEqProofs only [go_sem, dnW_ite, go_sem_proc, show ¬ ((j : Int) > (j : Int)) by omega]
  exact h1 (fun y x h => by omega)
 ·have hw : IntKind.i64.wrap ((j : Int) - 1) = ((j - 1 : Nat) : Int) := by rw [wrap_i64 (by omega) (by omega)]; omega
  have e1 : ((uL X).drop j).take 1 = [uI X[j]] := uL_at X (by omega)
  have e2 : ((uL X).drop (j - 1)).take 1 = [uI X[j - 1]] := uL_at X (by omega)
  have g1 : X[j]? = some X[j] := List.getElem?_eq_getElem (by omega)
  have g2 : X[j - 1]? = some X[j - 1] := List.getElem?_eq_getElem (by omega)
  have l1 := uL_len X
  have hb := lt_get hJ
  generalize X[j] = x at *
  generalize X[j - 1] = y at *
  have hle := uLess_ok x y
  have s1 := uL_set X j y (by omega)
  have s2 := uL_set (X.set j y) (j - 1) x (by rw [List.length_set]; omega)
  have l2 := uL_len (X.set j y)
  rw [List.length_set] at l2
  have c1 : ((j : Int) > (a : Int)) := by omega
  have b0 : (b < J.size) = True := by simp [hb]
  have j1 : (0 + j * 1 = j) := by omega
  have j2 : (0 + (j - 1) * 1 = j - 1) := by omega
  have j3 : (j - 1 < n) = True := by simp; omega
  have j4 : (j < n) = True := by simp [hj]
  have u1 : ∀ t, icells (uI t) = [uI t] := fun t => rfl
  have u2 : ∀ t, ione (uI t) = true := fun t => rfl
  have r1 : j + 1 ≤ n := by omega
  have r2 : j - 1 + 1 ≤ n := by omega
  by_cases hlt : x < y
  ·have h2' := h2 y x (by omega) g2 g1 hlt
   have hl : pc BI F_cmp_Less_uint32 [uI x, uI y] = some (.sc (.bool true)) := by rw [hle]; simp [hlt]
   simp -implicitDefEqProofs only [go_sem, dnW_ite, go_sem_proc, c1, hw, j1, j2, j3, j4, hJ, l1, hn, r1, r2, e1, e2, dcp hl rfl, l_slices_insertionSortOrdered_uint32_k0, ↓u1, ↓u2, s1, s2, l2, set_get _ hb, set_set, Array.size_setIfInBounds, b0]
   exact h2'
  ·have h1' := h1 (fun y' x' _ ha hx => by rw [g2] at ha; rw [g1] at hx; cases ha; cases hx; omega)
   have hl : pc BI F_cmp_Less_uint32 [uI x, uI y] = some (.sc (.bool false)) := by rw [hle]; simp [hlt]
   simp -implicitDefEqProofs only [go_sem, dnW_ite, go_sem_proc, c1, hw, j1, j2, j3, j4, hJ, l1, hn, r1, r2, e1, e2, dcp hl rfl]
   exact h1'
theorem InsR_ok (X : List Int) (b cap a n : Nat) (ha : a ≤ n) (hn : n ≤ X.length) (hc : X.length ≤ 1000000) (J : JH) (hJ : J[b]? = some (.cells 0 (uL X) false)) :
  RP (ic BI F_slices_insertionSortOrdered_uint32 [.sl b 0 0 X.length cap 1, nI a, nI n] J) fun v J' => v = .tup [] ∧ ∃ Y, Same X Y a n ∧ Rises Y a n ∧ J' = J.setIfInBounds b (.cells 0 (uL Y) false) := by
 refine RP_run fn_slices_insertionSortOrdered_uint32 rfl fun K hK => ?_
 unfold l_slices_insertionSortOrdered_uint32
 have hb := lt_get hJ
 have hw0 : IntKind.i64.wrap ((a : Int) + 1) = ((a + 1 : Nat) : Int) := by rw [wrap_i64 (by omega) (by omega)]; omega
 simp -implicitDefEqProofs only [go_sem, dnW_ite, go_sem_proc, hw0, dn_loop]
 refine WP_rangeT (n - a) (fun k vs J' => ∃ Y, vs = [.sl b 0 0 X.length cap 1, nI a, nI n, nI (a + 1 + k)] ∧ Same X Y a n ∧ Rises Y a (a + 1 + k) ∧ J' = J.setIfInBounds b (.cells 0 (uL Y) false)) ?_ ⟨X, rfl, .refl _ _ _, fun p q u v h1 h2 h3 => by omega, (set_own hJ).symm⟩
 rintro k vs J1 ⟨Y, rfl, hS, hR, rfl⟩ hk K1 g1 g2 g3
 unfold l_slices_insertionSortOrdered_uint32_k3
 have hlen := hS.len
 by_cases hlt : a + 1 + k < n
 ·simp -implicitDefEqProofs only [go_sem, dnW_ite, go_sem_proc, show (((a + 1 + k : Nat) : Int) < (n : Int)) by omega, dn_loop]
  refine WP_loop (by decide) (fun m vs J' => ∃ Z j, m = j ∧ a ≤ j ∧ j ≤ a + 1 + k ∧ vs = [.sl b 0 0 X.length cap 1, nI a, nI n, nI (a + 1 + k), nI j] ∧ Same X Z a n ∧ InsR Z a (a + 1 + k) j ∧ J' = J.setIfInBounds b (.cells 0 (uL Z) false)) ?_ (a + 1 + k) _ _ ⟨Y, a + 1 + k, rfl, by omega, Nat.le_refl _, rfl, hS, .start hR, rfl⟩
  rintro m vs J2 ⟨Z, j, rfl, haj, hji, rfl, hZ, hI, rfl⟩ K2 q1 q2 q3
  have hlz := hZ.len
  refine insR_round Z b cap a n (a + 1 + k) m X.length hlz (by omega) haj hc _ (set_get _ hb) K2 ?_ ?_
  ·intro hd
   refine q2 _ _ ?_
   unfold l_slices_insertionSortOrdered_uint32_k2
   have hw1 : IntKind.i64.wrap (((a + 1 + k : Nat) : Int) + 1) = ((a + 1 + (k + 1) : Nat) : Int) := by rw [wrap_i64 (by omega) (by omega)]; omega
   simp -implicitDefEqProofs only [go_sem, dnW_ite, go_sem_proc, hw1]
   exact g1 (by omega) _ _ ⟨Z, rfl, hZ, hI.done hji hd (by omega), rfl⟩
  ·intro y x h0 hy hx hlt2
   rw [set_set]
   have e : (Z.set m y).set (m - 1) x = ((Z.set m (Z[m - 1]'(by omega))).set (m - 1) (Z[m]'(by omega))) := by
    rw [List.getElem?_eq_getElem (by omega)] at hy hx
    rw [← Option.some.inj hy, ← Option.some.inj hx]
   refine q1 _ (m - 1) _ (by omega) ⟨_, m - 1, rfl, by omega, by omega, rfl, ?_, hI.step h0 hji (by omega) hy hx hlt2, rfl⟩
   rw [e]
   exact hZ.trans (.swap (by omega) ⟨by omega, by omega⟩ ⟨by omega, by omega⟩)
 ·simp -implicitDefEqProofs only [go_sem, dnW_ite, go_sem_proc, show ¬ (((a + 1 + k : Nat) : Int) < (n : Int)) by omega]
  refine g3 _ _ (hK _ _ ⟨rfl, Y, hS, fun p q u v h1 h2 h3 => hR p q u v h1 h2 (by omega), rfl⟩)
def CntAt (J : JH) (c : Nat) (k : Nat) : Prop := ∃ z : Int, J[c]? = some (.cells 0 [.int .i64 z] false) ∧ 0 ≤ z ∧ z ≤ k
section
variable {X : List Int} {b cap : Nat} {J : JH} (hJ : J[b]? = some (.cells 0 (uL X) false)) {c : Nat}
include hJ
theorem order2_ok {k : Nat} (hk : k ≤ 100) (hc : CntAt J c k) {p q : Nat} (hp : p < X.length) (hq : q < X.length) :
  RP (ic BI F_slices_order2Ordered_uint32 [.sl b 0 0 X.length cap 1, nI p, nI q, .ptr c 0 0] J) fun v J' => (∃ p' q', v = .tup [nI p', nI q'] ∧ (p' = p ∨ p' = q) ∧ (q' = p ∨ q' = q)) ∧ CntAt J' c (k + 1) ∧ Fr J J' [c] := by
 refine RP_run fn_slices_order2Ordered_uint32 rfl fun K hK => ?_
 unfold l_slices_order2Ordered_uint32
 obtain ⟨z, hz, z0, z1⟩ := hc
 have e1 : ((uL X).drop p).take 1 = [uI X[p]] := uL_at X (by omega)
 have e2 : ((uL X).drop q).take 1 = [uI X[q]] := uL_at X (by omega)
 have hle := uLess_ok X[q] X[p]
 have l1 := uL_len X
 generalize X[p] = x at *
 generalize X[q] = y at *
 have j1 : (0 + p * 1 = p) := by omega
 have j2 : (0 + q * 1 = q) := by omega
 have j3 : (p < X.length) = True := by simp; omega
 have j4 : (q < X.length) = True := by simp; omega
 have r1 : p + 1 ≤ X.length := by omega
 have r2 : q + 1 ≤ X.length := by omega
 have hw : IntKind.i64.wrap (z + 1) = z + 1 := wrap_i64 (by omega) (by omega)
 by_cases hlt : y < x
 ·have hl : pc BI F_cmp_Less_uint32 [uI y, uI x] = some (.sc (.bool true)) := by rw [hle]; simp [hlt]
  simp -implicitDefEqProofs only [go_sem, dnW_ite, go_sem_proc, j1, j2, j3, j4, hJ, l1, r1, r2, e1, e2, dcp hl rfl, iisNil, hz, inb hz, hw]
  exact hK _ _ ⟨⟨q, p, rfl, .inr rfl, .inl rfl⟩, ⟨z + 1, set_get _ (lt_get hz), by omega, by omega⟩, Fr.set _ _ (by simp)⟩
 ·have hl : pc BI F_cmp_Less_uint32 [uI y, uI x] = some (.sc (.bool false)) := by rw [hle]; simp [hlt]
  simp -implicitDefEqProofs only [go_sem, dnW_ite, go_sem_proc, j1, j2, j3, j4, hJ, l1, r1, r2, e1, e2, dcp hl rfl]
  exact hK _ _ ⟨⟨p, q, rfl, .inl rfl, .inr rfl⟩, ⟨z, hz, z0, by omega⟩, Fr.refl _ _⟩
theorem median_ok {k : Nat} (hk : k ≤ 50) (hcb : c ≠ b) (hc : CntAt J c k) {p q r : Nat} (hp : p < X.length) (hq : q < X.length) (hr : r < X.length) :
  RP (ic BI F_slices_medianOrdered_uint32 [.sl b 0 0 X.length cap 1, nI p, nI q, nI r, .ptr c 0 0] J) fun v J' => (∃ m, v = nI m ∧ (m = p ∨ m = q ∨ m = r)) ∧ CntAt J' c (k + 3) ∧ Fr J J' [c] := by
 refine RP_run fn_slices_medianOrdered_uint32 rfl fun K hK => ?_
 unfold l_slices_medianOrdered_uint32
 simp -implicitDefEqProofs only [go_sem, dnW_ite, go_sem_proc]
 refine WP_call (order2_ok hJ (by omega) hc hp hq) fun v J2 hv => ?_
 obtain ⟨⟨p1, q1, rfl, hp1, hq1⟩, hc2, f2⟩ := hv
 have hJ2 : J2[b]? = some (.cells 0 (uL X) false) := by rw [f2.2 b (lt_get hJ) (by simp; exact Ne.symm hcb)]; exact hJ
 simp -implicitDefEqProofs only [go_sem, dnW_ite, go_sem_proc]
 refine WP_call (order2_ok hJ2 (by omega) hc2 (p := q1) (q := r) (by omega) hr) fun v J3 hv => ?_
 obtain ⟨⟨p2, q2, rfl, hp2, hq2⟩, hc3, f3⟩ := hv
 have hJ3 : J3[b]? = some (.cells 0 (uL X) false) := by rw [f3.2 b (lt_get hJ2) (by simp; exact Ne.symm hcb)]; exact hJ2
 simp -implicitDefEqProofs only [go_sem, dnW_ite, go_sem_proc]
 refine WP_call (order2_ok hJ3 (by omega) hc3 (p := p1) (q := p2) (by omega) (by omega)) fun v J4 hv => ?_
 obtain ⟨⟨p3, q3, rfl, hp3, hq3⟩, hc4, f4⟩ := hv
 simp -implicitDefEqProofs only [go_sem, dnW_ite, go_sem_proc]
 exact hK _ _ ⟨⟨q3, rfl, by omega⟩, hc4, (f2.trans f3 (fun _ _ h => h)).trans f4 (fun _ _ h => h)⟩
theorem choose_ok {a n : Nat} (ha : a + 8 ≤ n) (hn : n ≤ X.length) (h50 : n - a < 50) (hc : X.length ≤ 1000000) :
  RP (ic BI F_slices_choosePivotOrdered_uint32 [.sl b 0 0 X.length cap 1, nI a, nI n] J) fun v J' => (∃ p : Nat, ∃ h : Int, v = .tup [nI p, .int .i64 h] ∧ a ≤ p ∧ p < n) ∧ Fr J J' [] := by
 refine RP_run fn_slices_choosePivotOrdered_uint32 rfl fun K hK => ?_
 unfold l_slices_choosePivotOrdered_uint32
 obtain ⟨d, hd⟩ : ∃ d, d = n - a := ⟨_, rfl⟩
 have w1 : IntKind.i64.wrap ((n : Int) - (a : Int)) = (d : Int) := by rw [wrap_i64 (by omega) (by omega)]; omega
 obtain ⟨e, he⟩ : ∃ e, e = d / 4 := ⟨_, rfl⟩
 have t1 : ((d : Int).tdiv 4) = (e : Int) := by rw [he]; rfl
 have w2 : IntKind.i64.wrap (e : Int) = (e : Int) := wrap_i64 (by omega) (by omega)
 have w3 : IntKind.i64.wrap ((e : Int) * 1) = (e : Int) := by rw [wrap_i64 (by omega) (by omega)]; omega
 have w4 : IntKind.i64.wrap ((e : Int) * 2) = ((2 * e : Nat) : Int) := by rw [wrap_i64 (by omega) (by omega)]; omega
 have w5 : IntKind.i64.wrap ((e : Int) * 3) = ((3 * e : Nat) : Int) := by rw [wrap_i64 (by omega) (by omega)]; omega
 have w6 : IntKind.i64.wrap ((a : Int) + (e : Int)) = ((a + e : Nat) : Int) := by rw [wrap_i64 (by omega) (by omega)]; omega
 have w7 : IntKind.i64.wrap ((a : Int) + ((2 * e : Nat) : Int)) = ((a + 2 * e : Nat) : Int) := by rw [wrap_i64 (by omega) (by omega)]; omega
 have w8 : IntKind.i64.wrap ((a : Int) + ((3 * e : Nat) : Int)) = ((a + 3 * e : Nat) : Int) := by rw [wrap_i64 (by omega) (by omega)]; omega
 have hb := lt_get hJ
 have hJ2 : (J.push (.cells 0 [.int .i64 0] false))[b]? = some (.cells 0 (uL X) false) := by rw [Array.getElem?_push, if_neg (by omega)]; exact hJ
 simp -implicitDefEqProofs only [go_sem, dnW_ite, go_sem_proc, w1, t1, w2, w3, w4, w5, w6, w7, w8, show ((d : Int) ≥ 8) by omega, show ¬ ((d : Int) ≥ 50) by omega]
 refine WP_join fun K1 g1 g2 g3 => ?_
 unfold l_slices_choosePivotOrdered_uint32_k0
 simp -implicitDefEqProofs only [go_sem, dnW_ite, go_sem_proc]
 refine WP_call (median_ok hJ2 (c := J.size) (k := 0) (by omega) (by omega) ⟨0, push_get _ _, by omega, by omega⟩ (p := a + e) (q := a + 2 * e) (r := a + 3 * e) (by omega) (by omega) (by omega)) fun v J3 hv => ?_
 obtain ⟨⟨m, rfl, hm⟩, ⟨z, hz, z0, z1⟩, f3⟩ := hv
 simp -implicitDefEqProofs only [go_sem, dnW_ite, go_sem_proc]
 refine g1 _ _ ?_
 unfold l_slices_choosePivotOrdered_uint32_k1
 have ff : Fr J J3 [] := (Fr.push J (.cells 0 [.int .i64 0] false) []).trans f3 (fun d hd hm => by simp at hm; omega)
 by_cases c1 : z = 0
 ·subst c1
  simp -implicitDefEqProofs only [go_sem, dnW_ite, go_sem_proc, hz, inb hz]
  exact hK _ _ ⟨⟨m, 1, rfl, by omega, by omega⟩, ff⟩
 ·by_cases c2 : z = 12
  ·subst c2
   simp -implicitDefEqProofs only [go_sem, dnW_ite, go_sem_proc, hz, inb hz]
   exact hK _ _ ⟨⟨m, 2, rfl, by omega, by omega⟩, ff⟩
  ·have k1 : (z == 0) = false := by simpa using c1
   have k2 : (z == 12) = false := by simpa using c2
   simp -implicitDefEqProofs only [go_sem, dnW_ite, go_sem_proc, hz, inb hz, k1, k2]
   exact hK _ _ ⟨⟨m, 0, rfl, by omega, by omega⟩, ff⟩
end
end Go.Proofs.Ytccbcbnglnloiaa.G
namespace Go.Proofs.Ytccbcbnglnloiaa.G
open Go
theorem Rises.more {X : List Int} {a i : Nat} (h : Rises X a i) (h2 : ∀ u v, a < i → X[i - 1]? = some u → X[i]? = some v → u ≤ v) (hl : i < X.length) : Rises X a (i + 1) := by
 intro p q u v h1 h3 h4 hu hv
 by_cases c : q < i
 ·exact h p q u v h1 h3 c hu hv
 ·obtain rfl : q = i := by omega
  have hy : X[q - 1]? = some (X[q - 1]'(by omega)) := List.getElem?_eq_getElem (by omega)
  have := h2 _ v (by omega) hy hv
  by_cases c2 : p = q - 1
  ·subst c2; rw [hy] at hu; cases hu; exact this
  ·have := h p (q - 1) u _ h1 (by omega) (by omega) hu hy
   omega
theorem partial_ok {X : List Int} {b cap : Nat} {J : JH} (hJ : J[b]? = some (.cells 0 (uL X) false)) {a n : Nat} (ha : a < n) (hn : n ≤ X.length) (h50 : n - a < 50) (hc : X.length ≤ 1000000) :
  RP (ic BI F_slices_partialInsertionSortOrdered_uint32 [.sl b 0 0 X.length cap 1, nI a, nI n] J) fun v J' => ∃ r : Bool, v = .sc (.bool r) ∧ (r = true → Rises X a n) ∧ J' = J := by
 refine RP_run fn_slices_partialInsertionSortOrdered_uint32 rfl fun K hK => ?_
 unfold l_slices_partialInsertionSortOrdered_uint32
 have w0 : IntKind.i64.wrap ((a : Int) + 1) = ((a + 1 : Nat) : Int) := by rw [wrap_i64 (by omega) (by omega)]; omega
 have wd : IntKind.i64.wrap ((n : Int) - (a : Int)) = ((n - a : Nat) : Int) := by rw [wrap_i64 (by omega) (by omega)]; omega
 simp -implicitDefEqProofs only [go_sem, dnW_ite, go_sem_proc, w0, dn_loop]
 refine WP_loop (by decide) (fun m vs J' => vs = [.sl b 0 0 X.length cap 1, nI a, nI n, nI (a + 1), nI 0] ∧ J' = J) ?_ 0 _ _ ⟨rfl, rfl⟩
 rintro m vs J1 ⟨rfl, rfl⟩ K1 g1 g2 g3
 unfold l_slices_partialInsertionSortOrdered_uint32_k7
 simp -implicitDefEqProofs only [go_sem, dnW_ite, go_sem_proc]
 refine WP_join fun K2 p1 p2 p3 => ?_
 simp -implicitDefEqProofs only [go_sem, dnW_ite, go_sem_proc, dn_loop]
 refine WP_range (by decide) (n - (a + 1)) (fun k vs J' => vs = [.sl b 0 0 X.length cap 1, nI a, nI n, nI (a + 1 + k), nI 0] ∧ Rises X a (a + 1 + k) ∧ J' = J1) ?_ ⟨rfl, fun p q u v h1 h2 h3 => by omega, rfl⟩
 rintro k vs J2 ⟨rfl, hR, rfl⟩ hk K3 q1 q2 q3
 have fin : ∀ i : Nat, i = a + 1 + k → K3 (.goto 3 [.sl b 0 0 X.length cap 1, nI a, nI n, nI i, nI 0]) J2 := by
  intro i hi
  refine q2 _ _ ?_
  unfold l_slices_partialInsertionSortOrdered_uint32_k5
  by_cases hin : i = n
  ·subst hin
   simp -implicitDefEqProofs only [go_sem, dnW_ite, go_sem_proc, show ((i : Int) == (i : Int)) = true by simp]
   exact p3 _ _ (g3 _ _ (hK _ _ ⟨true, rfl, fun _ => by rw [hi]; exact hR, rfl⟩))
  ·have e : ((i : Int) == (n : Int)) = false := by simp; omega
   simp -implicitDefEqProofs only [go_sem, dnW_ite, go_sem_proc, e, wd, show (((n - a : Nat) : Int) < 50) by omega]
   exact p3 _ _ (g3 _ _ (hK _ _ ⟨false, rfl, by simp, rfl⟩))
 unfold l_slices_partialInsertionSortOrdered_uint32_k1
 generalize hi : a + 1 + k = i at *
 by_cases hlt : i < n
 ·have e1 : ((uL X).drop i).take 1 = [uI X[i]] := uL_at X (by omega)
  have e2 : ((uL X).drop (i - 1)).take 1 = [uI X[i - 1]] := uL_at X (by omega)
  have g1' : X[i]? = some X[i] := List.getElem?_eq_getElem (by omega)
  have g2' : X[i - 1]? = some X[i - 1] := List.getElem?_eq_getElem (by omega)
  have l1 := uL_len X
  generalize X[i] = x at *
  generalize X[i - 1] = y at *
  have hle := uLess_ok x y
  have hw : IntKind.i64.wrap ((i : Int) - 1) = ((i - 1 : Nat) : Int) := by rw [wrap_i64 (by omega) (by omega)]; omega
  have hw1 : IntKind.i64.wrap ((i : Int) + 1) = ((a + 1 + (k + 1) : Nat) : Int) := by rw [wrap_i64 (by omega) (by omega)]; omega
  have j1 : (0 + i * 1 = i) := by omega
  have j2 : (0 + (i - 1) * 1 = i - 1) := by omega
  have j3 : (i - 1 < X.length) = True := by simp; omega
  have j4 : (i < X.length) = True := by simp; omega
  have r1 : i + 1 ≤ X.length := by omega
  have r2 : i - 1 + 1 ≤ X.length := by omega
  by_cases hl2 : x < y
  ·have hl : pc BI F_cmp_Less_uint32 [uI x, uI y] = some (.sc (.bool true)) := by rw [hle]; simp [hl2]
   simp -implicitDefEqProofs only [go_sem, dnW_ite, go_sem_proc, show ((i : Int) < (n : Int)) by omega, hw, j1, j2, j3, j4, hJ, l1, r1, r2, e1, e2, dcp hl rfl]
   exact fin i rfl
  ·have hl : pc BI F_cmp_Less_uint32 [uI x, uI y] = some (.sc (.bool false)) := by rw [hle]; simp [hl2]
   simp -implicitDefEqProofs only [go_sem, dnW_ite, go_sem_proc, show ((i : Int) < (n : Int)) by omega, hw, hw1, j1, j2, j3, j4, hJ, l1, r1, r2, e1, e2, dcp hl rfl, l_slices_partialInsertionSortOrdered_uint32_k0]
   refine q1 (by omega) _ _ ⟨rfl, ?_, rfl⟩
   have := hR.more (fun u v _ hu hv => by rw [g2'] at hu; rw [g1'] at hv; cases hu; cases hv; omega) (by omega)
   rw [← hi] at this; exact this
 ·simp -implicitDefEqProofs only [go_sem, dnW_ite, go_sem_proc, show ¬ ((i : Int) < (n : Int)) by omega]
  exact fin i rfl
structure PtI (X : List Int) (p : Int) (a n i j : Nat) : Prop where
 piv : X[a]? = some p
 lo : ∀ k v, a < k → k < i → X[k]? = some v → v < p
 hi : ∀ k v, j < k → k < n → X[k]? = some v → p ≤ v
 at' : a < i ∧ i ≤ j + 1 ∧ j < n
theorem PtI.up {X : List Int} {p x : Int} {a n i j : Nat} (h : PtI X p a n i j) (hij : i ≤ j) (hx : X[i]? = some x) (hlt : x < p) : PtI X p a n (i + 1) j := by
 refine ⟨h.piv, fun k v h1 h2 hv => ?_, h.hi, by have := h.at'; omega⟩
 by_cases c : k = i
 ·subst c; rw [hx] at hv; cases hv; exact hlt
 ·exact h.lo k v h1 (by omega) hv
theorem PtI.down {X : List Int} {p x : Int} {a n i j : Nat} (h : PtI X p a n i j) (hij : i ≤ j) (hx : X[j]? = some x) (hge : p ≤ x) : PtI X p a n i (j - 1) := by
 refine ⟨h.piv, h.lo, fun k v h1 h2 hv => ?_, by have := h.at'; omega⟩
 by_cases c : k = j
 ·subst c; rw [hx] at hv; cases hv; exact hge
 ·exact h.hi k v (by omega) h2 hv
section
variable {X : List Int} {b cap : Nat} {J : JH} (hJ : J[b]? = some (.cells 0 (uL X) false)) {p : Int} {a n : Nat} (hn : n ≤ X.length) (hc : X.length ≤ 1000000)
include hJ hn hc
theorem pt_up1 {i j : Nat} (h : PtI X p a n i j) (K : Out IV → JH → Prop)
  (h1 : (∀ x, i ≤ j → X[i]? = some x → p ≤ x) → K (.goto 0 [.sl b 0 0 X.length cap 1, nI a, nI i, nI j]) J)
  (h2 : ∀ x, i ≤ j → X[i]? = some x → x < p → K (.goto 1 [.sl b 0 0 X.length cap 1, nI a, nI (i + 1), nI j]) J) :
  WP (dn BI l_slices_partitionOrdered_uint32_k1 [.sl b 0 0 X.length cap 1, nI a, nI i, nI j] J) K := by
 unfold l_slices_partitionOrdered_uint32_k1
 obtain ⟨a1, a2, a3⟩ := h.at'
 have hp := h.piv
 by_cases hij : i ≤ j
 ·have e1 : ((uL X).drop i).take 1 = [uI X[i]] := uL_at X (by omega)
  have e2 : ((uL X).drop a).take 1 = [uI X[a]] := uL_at X (by omega)
  have g1 : X[i]? = some X[i] := List.getElem?_eq_getElem (by omega)
  have g2 : X[a]? = some X[a] := List.getElem?_eq_getElem (by omega)
  have l1 := uL_len X
  generalize X[i] = x at *
  generalize X[a] = y at *
  obtain rfl : y = p := by rw [hp] at g2; exact (Option.some.inj g2).symm
  have hle := uLess_ok x y
  have hw1 : IntKind.i64.wrap ((i : Int) + 1) = ((i + 1 : Nat) : Int) := by rw [wrap_i64 (by omega) (by omega)]; omega
  have j1 : (0 + i * 1 = i) := by omega
  have j2 : (0 + a * 1 = a) := by omega
  have j3 : (i < X.length) = True := by simp; omega
  have j4 : (a < X.length) = True := by simp; omega
  have r1 : i + 1 ≤ X.length := by omega
  have r2 : a + 1 ≤ X.length := by omega
  by_cases hl2 : x < y
  ·have hl : pc BI F_cmp_Less_uint32 [uI x, uI y] = some (.sc (.bool true)) := by rw [hle]; simp [hl2]
   simp -implicitDefEqProofs only [go_sem, dnW_ite, go_sem_proc, show ((i : Int) ≤ (j : Int)) by omega, hw1, j1, j2, j3, j4, hJ, l1, r1, r2, e1, e2, dcp hl rfl, l_slices_partitionOrdered_uint32_k0]
   exact h2 x hij g1 hl2
  ·have hl : pc BI F_cmp_Less_uint32 [uI x, uI y] = some (.sc (.bool false)) := by rw [hle]; simp [hl2]
   simp -implicitDefEqProofs only [go_sem, dnW_ite, go_sem_proc, show ((i : Int) ≤ (j : Int)) by omega, hw1, j1, j2, j3, j4, hJ, l1, r1, r2, e1, e2, dcp hl rfl, l_slices_partitionOrdered_uint32_k0]
   exact h1 (fun z _ hz => by rw [g1] at hz; cases hz; omega)
 ·simp -implicitDefEqProofs only [go_sem, dnW_ite, go_sem_proc, show ¬ ((i : Int) ≤ (j : Int)) by omega]
  exact h1 (fun x h => absurd h hij)
theorem pt_down3 {i j : Nat} (h : PtI X p a n i j) (K : Out IV → JH → Prop)
  (h1 : (∀ x, i ≤ j → X[j]? = some x → x < p) → K (.goto 1 [.sl b 0 0 X.length cap 1, nI a, nI i, nI j]) J)
  (h2 : ∀ x, i ≤ j → X[j]? = some x → p ≤ x → K (.goto 2 [.sl b 0 0 X.length cap 1, nI a, nI i, nI (j - 1)]) J) :
  WP (dn BI l_slices_partitionOrdered_uint32_k3 [.sl b 0 0 X.length cap 1, nI a, nI i, nI j] J) K := by
 unfold l_slices_partitionOrdered_uint32_k3
 obtain ⟨a1, a2, a3⟩ := h.at'
 have hp := h.piv
 by_cases hij : i ≤ j
 ·have e1 : ((uL X).drop j).take 1 = [uI X[j]] := uL_at X (by omega)
  have e2 : ((uL X).drop a).take 1 = [uI X[a]] := uL_at X (by omega)
  have g1 : X[j]? = some X[j] := List.getElem?_eq_getElem (by omega)
  have g2 : X[a]? = some X[a] := List.getElem?_eq_getElem (by omega)
  have l1 := uL_len X
  generalize X[j] = x at *
  generalize X[a] = y at *
  obtain rfl : y = p := by rw [hp] at g2; exact (Option.some.inj g2).symm
  have hle := uLess_ok x y
  have hw1 : IntKind.i64.wrap ((j : Int) - 1) = ((j - 1 : Nat) : Int) := by rw [wrap_i64 (by omega) (by omega)]; omega
  have j1 : (0 + j * 1 = j) := by omega
  have j2 : (0 + a * 1 = a) := by omega
  have j3 : (j < X.length) = True := by simp; omega
  have j4 : (a < X.length) = True := by simp; omega
  have r1 : j + 1 ≤ X.length := by omega
  have r2 : a + 1 ≤ X.length := by omega
  by_cases hl2 : x < y
  ·have hl : pc BI F_cmp_Less_uint32 [uI x, uI y] = some (.sc (.bool true)) := by rw [hle]; simp [hl2]
   simp -implicitDefEqProofs only [go_sem, dnW_ite, go_sem_proc, show ((i : Int) ≤ (j : Int)) by omega, hw1, j1, j2, j3, j4, hJ, l1, r1, r2, e1, e2, dcp hl rfl, l_slices_partitionOrdered_uint32_k2]
   exact h1 (fun z _ hz => by rw [g1] at hz; cases hz; exact hl2)
  ·have hl : pc BI F_cmp_Less_uint32 [uI x, uI y] = some (.sc (.bool false)) := by rw [hle]; simp [hl2]
   simp -implicitDefEqProofs only [go_sem, dnW_ite, go_sem_proc, show ((i : Int) ≤ (j : Int)) by omega, hw1, j1, j2, j3, j4, hJ, l1, r1, r2, e1, e2, dcp hl rfl, l_slices_partitionOrdered_uint32_k2]
   exact h2 x hij g1 (by omega)
 ·simp -implicitDefEqProofs only [go_sem, dnW_ite, go_sem_proc, show ¬ ((i : Int) ≤ (j : Int)) by omega]
  exact h1 (fun x h => absurd h hij)
theorem pt_up5 {i j : Nat} (h : PtI X p a n i j) (K : Out IV → JH → Prop)
  (h1 : (∀ x, i ≤ j → X[i]? = some x → p ≤ x) → K (.goto 4 [.sl b 0 0 X.length cap 1, nI a, nI i, nI j]) J)
  (h2 : ∀ x, i ≤ j → X[i]? = some x → x < p → K (.goto 5 [.sl b 0 0 X.length cap 1, nI a, nI (i + 1), nI j]) J) :
  WP (dn BI l_slices_partitionOrdered_uint32_k5 [.sl b 0 0 X.length cap 1, nI a, nI i, nI j] J) K := by
 unfold l_slices_partitionOrdered_uint32_k5
 obtain ⟨a1, a2, a3⟩ := h.at'
 have hp := h.piv
 by_cases hij : i ≤ j
 ·have e1 : ((uL X).drop i).take 1 = [uI X[i]] := uL_at X (by omega)
  have e2 : ((uL X).drop a).take 1 = [uI X[a]] := uL_at X (by omega)
  have g1 : X[i]? = some X[i] := List.getElem?_eq_getElem (by omega)
  have g2 : X[a]? = some X[a] := List.getElem?_eq_getElem (by omega)
  have l1 := uL_len X
  generalize X[i] = x at *
  generalize X[a] = y at *
  obtain rfl : y = p := by rw [hp] at g2; exact (Option.some.inj g2).symm
  have hle := uLess_ok x y
  have hw1 : IntKind.i64.wrap ((i : Int) + 1) = ((i + 1 : Nat) : Int) := by rw [wrap_i64 (by omega) (by omega)]; omega
  have j1 : (0 + i * 1 = i) := by omega
  have j2 : (0 + a * 1 = a) := by omega
  have j3 : (i < X.length) = True := by simp; omega
  have j4 : (a < X.length) = True := by simp; omega
  have r1 : i + 1 ≤ X.length := by omega
  have r2 : a + 1 ≤ X.length := by omega
  by_cases hl2 : x < y
  ·have hl : pc BI F_cmp_Less_uint32 [uI x, uI y] = some (.sc (.bool true)) := by rw [hle]; simp [hl2]
   simp -implicitDefEqProofs only [go_sem, dnW_ite, go_sem_proc, show ((i : Int) ≤ (j : Int)) by omega, hw1, j1, j2, j3, j4, hJ, l1, r1, r2, e1, e2, dcp hl rfl, l_slices_partitionOrdered_uint32_k4]
   exact h2 x hij g1 hl2
  ·have hl : pc BI F_cmp_Less_uint32 [uI x, uI y] = some (.sc (.bool false)) := by rw [hle]; simp [hl2]
   simp -implicitDefEqProofs only [go_sem, dnW_ite, go_sem_proc, show ((i : Int) ≤ (j : Int)) by omega, hw1, j1, j2, j3, j4, hJ, l1, r1, r2, e1, e2, dcp hl rfl, l_slices_partitionOrdered_uint32_k4]
   exact h1 (fun z _ hz => by rw [g1] at hz; cases hz; omega)
 ·simp -implicitDefEqProofs only [go_sem, dnW_ite, go_sem_proc, show ¬ ((i : Int) ≤ (j : Int)) by omega]
  exact h1 (fun x h => absurd h hij)
theorem pt_down7 {i j : Nat} (h : PtI X p a n i j) (K : Out IV → JH → Prop)
  (h1 : (∀ x, i ≤ j → X[j]? = some x → x < p) → K (.goto 5 [.sl b 0 0 X.length cap 1, nI a, nI i, nI j]) J)
  (h2 : ∀ x, i ≤ j → X[j]? = some x → p ≤ x → K (.goto 6 [.sl b 0 0 X.length cap 1, nI a, nI i, nI (j - 1)]) J) :
  WP (dn BI l_slices_partitionOrdered_uint32_k7 [.sl b 0 0 X.length cap 1, nI a, nI i, nI j] J) K := by
 unfold l_slices_partitionOrdered_uint32_k7
 obtain ⟨a1, a2, a3⟩ := h.at'
 have hp := h.piv
 by_cases hij : i ≤ j
 ·have e1 : ((uL X).drop j).take 1 = [uI X[j]] := uL_at X (by omega)
  have e2 : ((uL X).drop a).take 1 = [uI X[a]] := uL_at X (by omega)
  have g1 : X[j]? = some X[j] := List.getElem?_eq_getElem (by omega)
  have g2 : X[a]? = some X[a] := List.getElem?_eq_getElem (by omega)
  have l1 := uL_len X
  generalize X[j] = x at *
  generalize X[a] = y at *
  obtain rfl : y = p := by rw [hp] at g2; exact (Option.some.inj g2).symm
  have hle := uLess_ok x y
  have hw1 : IntKind.i64.wrap ((j : Int) - 1) = ((j - 1 : Nat) : Int) := by rw [wrap_i64 (by omega) (by omega)]; omega
  have j1 : (0 + j * 1 = j) := by omega
  have j2 : (0 + a * 1 = a) := by omega
  have j3 : (j < X.length) = True := by simp; omega
  have j4 : (a < X.length) = True := by simp; omega
  have r1 : j + 1 ≤ X.length := by omega
  have r2 : a + 1 ≤ X.length := by omega
  by_cases hl2 : x < y
  ·have hl : pc BI F_cmp_Less_uint32 [uI x, uI y] = some (.sc (.bool true)) := by rw [hle]; simp [hl2]
   simp -implicitDefEqProofs only [go_sem, dnW_ite, go_sem_proc, show ((i : Int) ≤ (j : Int)) by omega, hw1, j1, j2, j3, j4, hJ, l1, r1, r2, e1, e2, dcp hl rfl, l_slices_partitionOrdered_uint32_k6]
   exact h1 (fun z _ hz => by rw [g1] at hz; cases hz; exact hl2)
  ·have hl : pc BI F_cmp_Less_uint32 [uI x, uI y] = some (.sc (.bool false)) := by rw [hle]; simp [hl2]
   simp -implicitDefEqProofs only [go_sem, dnW_ite, go_sem_proc, show ((i : Int) ≤ (j : Int)) by omega, hw1, j1, j2, j3, j4, hJ, l1, r1, r2, e1, e2, dcp hl rfl, l_slices_partitionOrdered_uint32_k6]
   exact h2 x hij g1 (by omega)
 ·simp -implicitDefEqProofs only [go_sem, dnW_ite, go_sem_proc, show ¬ ((i : Int) ≤ (j : Int)) by omega]
  exact h1 (fun x h => absurd h hij)
end
end Go.Proofs.Ytccbcbnglnloiaa.G
namespace Go.Proofs.Ytccbcbnglnloiaa.G
open Go
theorem swap_get {X : List Int} {i j : Nat} {x y : Int} (hi : i < X.length) (hj : j < X.length) (k : Nat) : ((X.set i y).set j x)[k]? = if k = j then some x else if k = i then some y else X[k]? := by
 rw [List.getElem?_set, List.getElem?_set, List.length_set]
 by_cases c1 : k = j
 ·subst c1; simp; omega
 ·rw [if_neg (Ne.symm c1), if_neg c1]
  by_cases c2 : k = i
  ·subst c2; simp; omega
  ·rw [if_neg (Ne.symm c2), if_neg c2]
theorem PtI.exch {X : List Int} {p x y : Int} {a n i j : Nat} (h : PtI X p a n i j) (hn : n ≤ X.length) (hij : i ≤ j) (hx : X[i]? = some x) (hy : X[j]? = some y) (h1 : p ≤ x) (h2 : y < p) : PtI ((X.set i y).set j x) p a n (i + 1) (j - 1) := by
 obtain ⟨a1, a2, a3⟩ := h.at'
 have hne : i ≠ j := by rintro rfl; rw [hx] at hy; cases hy; omega
 have g := fun k => swap_get (X := X) (i := i) (j := j) (x := x) (y := y) (by omega) (by omega) k
 refine ⟨by rw [g, if_neg (by omega), if_neg (by omega)]; exact h.piv, fun k v k1 k2 hv => ?_, fun k v k1 k2 hv => ?_, by omega⟩
 ·rw [g, if_neg (by omega)] at hv
  split at hv
  ·cases hv; exact h2
  ·exact h.lo k v k1 (by omega) hv
 ·rw [g] at hv
  split at hv
  ·cases hv; exact h1
  ·rw [if_neg (by omega)] at hv
   exact h.hi k v (by omega) k2 hv
structure Parted (Y : List Int) (a m n : Nat) : Prop where
 at' : a ≤ m ∧ m < n
 ex : ∃ p, Y[m]? = some p ∧ (∀ k v, a ≤ k → k < m → Y[k]? = some v → v ≤ p) ∧ ∀ k v, m < k → k < n → Y[k]? = some v → p ≤ v
theorem PtI.fin {X : List Int} {p y : Int} {a n i j : Nat} (h : PtI X p a n i j) (hn : n ≤ X.length) (hij : ¬ i ≤ j) (hy : X[j]? = some y) : Parted ((X.set j p).set a y) a j n := by
 obtain ⟨a1, a2, a3⟩ := h.at'
 have g := fun k => swap_get (X := X) (i := j) (j := a) (x := y) (y := p) (by omega) (by omega) k
 refine ⟨by omega, p, ?_, fun k v k1 k2 hv => ?_, fun k v k1 k2 hv => ?_⟩
 ·rw [g]
  by_cases c : j = a
  ·rw [if_pos c]; subst c; rw [h.piv] at hy; cases hy; rfl
  ·rw [if_neg c, if_pos rfl]
 ·rw [g] at hv
  split at hv
  ·cases hv
   have := h.lo j y (by omega) (by omega) hy
   omega
  ·rw [if_neg (by omega)] at hv
   have := h.lo k v (by omega) (by omega) hv
   omega
 ·rw [g, if_neg (by omega), if_neg (by omega)] at hv
  exact h.hi k v k1 k2 hv
section
variable {X : List Int} {b cap : Nat} {J : JH} (hJ : J[b]? = some (.cells 0 (uL X) false)) {a n : Nat} (hn : n ≤ X.length) (hc : X.length ≤ 1000000)
include hJ hn hc
omit hc in
theorem pt_k11 {j : Nat} {x p : Int} (ha : a ≤ j) (hj : j < n) (hx : X[j]? = some x) (hp : X[a]? = some p) (K : Out IV → JH → Prop)
  (hK : K (.ret [nI j, .sc (.bool false)]) (J.setIfInBounds b (.cells 0 (uL ((X.set j p).set a x)) false))) :
  WP (dn BI l_slices_partitionOrdered_uint32_k11 [.sl b 0 0 X.length cap 1, nI a, nI j] J) K := by
 unfold l_slices_partitionOrdered_uint32_k11
 have e1 : ((uL X).drop j).take 1 = [uI X[j]] := uL_at X (by omega)
 have e2 : ((uL X).drop a).take 1 = [uI X[a]] := uL_at X (by omega)
 rw [List.getElem?_eq_getElem (by omega)] at hx hp
 have hx := Option.some.inj hx
 have hp := Option.some.inj hp
 rw [hx] at e1
 rw [hp] at e2
 have l1 := uL_len X
 have hb := lt_get hJ
 have s1 := uL_set X j p (by omega)
 have s2 := uL_set (X.set j p) a x (by rw [List.length_set]; omega)
 have l2 := uL_len (X.set j p)
 rw [List.length_set] at l2
 have b0 : (b < J.size) = True := by simp [hb]
 have j1 : (0 + j * 1 = j) := by omega
 have j2 : (0 + a * 1 = a) := by omega
 have j3 : (a < X.length) = True := by simp; omega
 have j4 : (j < X.length) = True := by simp; omega
 have u1 : ∀ t, icells (uI t) = [uI t] := fun t => rfl
 have u2 : ∀ t, ione (uI t) = true := fun t => rfl
 have o1 := uL_one X
 have o2 := uL_one (X.set j p)
 have r1 : j + 1 ≤ X.length := by omega
 have r2 : a + 1 ≤ X.length := by omega
 simp -implicitDefEqProofs only [go_sem, dnW_ite, go_sem_proc, j1, j2, j3, j4, hJ, l1, r1, r2, e1, e2, ↓u1, ↓u2, s1, s2, l2, set_get _ hb, set_set, Array.size_setIfInBounds, b0]
 exact hK
end
end Go.Proofs.Ytccbcbnglnloiaa.G
namespace Go.Proofs.Ytccbcbnglnloiaa.G
open Go
section
variable {X : List Int} {b cap : Nat} {J : JH} (hJ : J[b]? = some (.cells 0 (uL X) false)) {p : Int} {a n : Nat} (hn : n ≤ X.length) (hc : X.length ≤ 1000000)
include hJ hn hc
theorem pt_L1 {i j : Nat} (h : PtI X p a n i j) (body : L) (K : Out IV → JH → Prop)
  (hK : ∀ i', i ≤ i' → PtI X p a n i' j → (∀ x, i' ≤ j → X[i']? = some x → p ≤ x) → WP (dn BI body [.sl b 0 0 X.length cap 1, nI a, nI i', nI j] J) K) :
  WP (onJoinD 0 (iter (dn BI l_slices_partitionOrdered_uint32_k1) 1 [.sl b 0 0 X.length cap 1, nI a, nI i, nI j] J) body) K := by
 refine WP_loop (by decide) (fun m vs J' => ∃ i', i ≤ i' ∧ m = j + 1 - i' ∧ vs = [.sl b 0 0 X.length cap 1, nI a, nI i', nI j] ∧ PtI X p a n i' j ∧ J' = J) ?_ (j + 1 - i) _ _ ⟨i, Nat.le_refl _, rfl, rfl, h, rfl⟩
 rintro m vs J1 ⟨i', hii, rfl, rfl, hI, rfl⟩ K1 g1 g2 g3
 refine pt_up1 hJ hn hc hI K1 (fun hd => g2 _ _ (hK i' hii hI hd)) fun x hij hx hlt => ?_
 exact g1 _ (j + 1 - (i' + 1)) _ (by omega) ⟨i' + 1, by omega, rfl, rfl, hI.up hij hx hlt, rfl⟩
theorem pt_L3 {i j : Nat} (h : PtI X p a n i j) (body : L) (K : Out IV → JH → Prop)
  (hK : ∀ j', j' ≤ j → PtI X p a n i j' → (∀ x, i ≤ j' → X[j']? = some x → x < p) → WP (dn BI body [.sl b 0 0 X.length cap 1, nI a, nI i, nI j'] J) K) :
  WP (onJoinD 1 (iter (dn BI l_slices_partitionOrdered_uint32_k3) 2 [.sl b 0 0 X.length cap 1, nI a, nI i, nI j] J) body) K := by
 refine WP_loop (by decide) (fun m vs J' => ∃ j', j' ≤ j ∧ m = j' ∧ vs = [.sl b 0 0 X.length cap 1, nI a, nI i, nI j'] ∧ PtI X p a n i j' ∧ J' = J) ?_ j _ _ ⟨j, Nat.le_refl _, rfl, rfl, h, rfl⟩
 rintro m vs J1 ⟨j', hjj, rfl, rfl, hI, rfl⟩ K1 g1 g2 g3
 refine pt_down3 hJ hn hc hI K1 (fun hd => g2 _ _ (hK m hjj hI hd)) fun x hij hx hge => ?_
 exact g1 _ (m - 1) _ (by have := hI.at'; omega) ⟨m - 1, by omega, rfl, rfl, hI.down hij hx hge, rfl⟩
theorem pt_L5 {i j : Nat} (h : PtI X p a n i j) (body : L) (K : Out IV → JH → Prop)
  (hK : ∀ i', i ≤ i' → PtI X p a n i' j → (∀ x, i' ≤ j → X[i']? = some x → p ≤ x) → WP (dn BI body [.sl b 0 0 X.length cap 1, nI a, nI i', nI j] J) K) :
  WP (onJoinD 4 (iter (dn BI l_slices_partitionOrdered_uint32_k5) 5 [.sl b 0 0 X.length cap 1, nI a, nI i, nI j] J) body) K := by
 refine WP_loop (by decide) (fun m vs J' => ∃ i', i ≤ i' ∧ m = j + 1 - i' ∧ vs = [.sl b 0 0 X.length cap 1, nI a, nI i', nI j] ∧ PtI X p a n i' j ∧ J' = J) ?_ (j + 1 - i) _ _ ⟨i, Nat.le_refl _, rfl, rfl, h, rfl⟩
 rintro m vs J1 ⟨i', hii, rfl, rfl, hI, rfl⟩ K1 g1 g2 g3
 refine pt_up5 hJ hn hc hI K1 (fun hd => g2 _ _ (hK i' hii hI hd)) fun x hij hx hlt => ?_
 exact g1 _ (j + 1 - (i' + 1)) _ (by omega) ⟨i' + 1, by omega, rfl, rfl, hI.up hij hx hlt, rfl⟩
theorem pt_L7 {i j : Nat} (h : PtI X p a n i j) (body : L) (K : Out IV → JH → Prop)
  (hK : ∀ j', j' ≤ j → PtI X p a n i j' → (∀ x, i ≤ j' → X[j']? = some x → x < p) → WP (dn BI body [.sl b 0 0 X.length cap 1, nI a, nI i, nI j'] J) K) :
  WP (onJoinD 5 (iter (dn BI l_slices_partitionOrdered_uint32_k7) 6 [.sl b 0 0 X.length cap 1, nI a, nI i, nI j] J) body) K := by
 refine WP_loop (by decide) (fun m vs J' => ∃ j', j' ≤ j ∧ m = j' ∧ vs = [.sl b 0 0 X.length cap 1, nI a, nI i, nI j'] ∧ PtI X p a n i j' ∧ J' = J) ?_ j _ _ ⟨j, Nat.le_refl _, rfl, rfl, h, rfl⟩
 rintro m vs J1 ⟨j', hjj, rfl, rfl, hI, rfl⟩ K1 g1 g2 g3
 refine pt_down7 hJ hn hc hI K1 (fun hd => g2 _ _ (hK m hjj hI hd)) fun x hij hx hge => ?_
 exact g1 _ (m - 1) _ (by have := hI.at'; omega) ⟨m - 1, by omega, rfl, rfl, hI.down hij hx hge, rfl⟩
theorem pt_k8x {i j : Nat} {x y : Int} (hij : i ≤ j) (h0 : 0 < j) (hj : j < n) (hx : X[i]? = some x) (hy : X[j]? = some y) (K : Out IV → JH → Prop)
  (hK : K (.goto 3 [.sl b 0 0 X.length cap 1, nI a, nI (i + 1), nI (j - 1)]) (J.setIfInBounds b (.cells 0 (uL ((X.set i y).set j x)) false))) :
  WP (dn BI l_slices_partitionOrdered_uint32_k8 [.sl b 0 0 X.length cap 1, nI a, nI i, nI j] J) K := by
 unfold l_slices_partitionOrdered_uint32_k8
 have e1 : ((uL X).drop j).take 1 = [uI y] := by rw [uL_at X (by omega)]; rw [List.getElem?_eq_getElem (by omega)] at hy; rw [Option.some.inj hy]
 have e2 : ((uL X).drop i).take 1 = [uI x] := by rw [uL_at X (by omega)]; rw [List.getElem?_eq_getElem (by omega)] at hx; rw [Option.some.inj hx]
 have l1 := uL_len X
 have hb := lt_get hJ
 have s1 := uL_set X i y (by omega)
 have s2 := uL_set (X.set i y) j x (by rw [List.length_set]; omega)
 have l2 := uL_len (X.set i y)
 rw [List.length_set] at l2
 have b0 : (b < J.size) = True := by simp [hb]
 have j1 : (0 + j * 1 = j) := by omega
 have j2 : (0 + i * 1 = i) := by omega
 have j3 : (i < X.length) = True := by simp; omega
 have j4 : (j < X.length) = True := by simp; omega
 have u1 : ∀ t, icells (uI t) = [uI t] := fun t => rfl
 have u2 : ∀ t, ione (uI t) = true := fun t => rfl
 have r1 : j + 1 ≤ X.length := by omega
 have r2 : i + 1 ≤ X.length := by omega
 have hw1 : IntKind.i64.wrap ((i : Int) + 1) = ((i + 1 : Nat) : Int) := by rw [wrap_i64 (by omega) (by omega)]; omega
 have hw2 : IntKind.i64.wrap ((j : Int) - 1) = ((j - 1 : Nat) : Int) := by rw [wrap_i64 (by omega) (by omega)]; omega
 simp -implicitDefEqProofs only [go_sem, dnW_ite, go_sem_proc, show ¬ ((i : Int) > (j : Int)) by omega, hw1, hw2, j1, j2, j3, j4, hJ, l1, r1, r2, e1, e2, ↓u1, ↓u2, s1, s2, l2, set_get _ hb, set_set, Array.size_setIfInBounds, b0]
 exact hK
theorem pt_k12x {i j : Nat} {x y : Int} (hij : i ≤ j) (h0 : 0 < j) (hj : j < n) (hx : X[i]? = some x) (hy : X[j]? = some y) (K : Out IV → JH → Prop)
  (hK : WP (onJoinD 2 (iter (dn BI l_slices_partitionOrdered_uint32_k10) 3 [.sl b 0 0 X.length cap 1, nI a, nI (i + 1), nI (j - 1)] (J.setIfInBounds b (.cells 0 (uL ((X.set i y).set j x)) false))) l_slices_partitionOrdered_uint32_k11) K) :
  WP (dn BI l_slices_partitionOrdered_uint32_k12 [.sl b 0 0 X.length cap 1, nI a, nI i, nI j] J) K := by
 unfold l_slices_partitionOrdered_uint32_k12
 have e1 : ((uL X).drop j).take 1 = [uI y] := by rw [uL_at X (by omega)]; rw [List.getElem?_eq_getElem (by omega)] at hy; rw [Option.some.inj hy]
 have e2 : ((uL X).drop i).take 1 = [uI x] := by rw [uL_at X (by omega)]; rw [List.getElem?_eq_getElem (by omega)] at hx; rw [Option.some.inj hx]
 have l1 := uL_len X
 have hb := lt_get hJ
 have s1 := uL_set X i y (by omega)
 have s2 := uL_set (X.set i y) j x (by rw [List.length_set]; omega)
 have l2 := uL_len (X.set i y)
 rw [List.length_set] at l2
 have b0 : (b < J.size) = True := by simp [hb]
 have j1 : (0 + j * 1 = j) := by omega
 have j2 : (0 + i * 1 = i) := by omega
 have j3 : (i < X.length) = True := by simp; omega
 have j4 : (j < X.length) = True := by simp; omega
 have u1 : ∀ t, icells (uI t) = [uI t] := fun t => rfl
 have u2 : ∀ t, ione (uI t) = true := fun t => rfl
 have r1 : j + 1 ≤ X.length := by omega
 have r2 : i + 1 ≤ X.length := by omega
 have hw1 : IntKind.i64.wrap ((i : Int) + 1) = ((i + 1 : Nat) : Int) := by rw [wrap_i64 (by omega) (by omega)]; omega
 have hw2 : IntKind.i64.wrap ((j : Int) - 1) = ((j - 1 : Nat) : Int) := by rw [wrap_i64 (by omega) (by omega)]; omega
 simp -implicitDefEqProofs only [go_sem, dnW_ite, go_sem_proc, show ¬ ((i : Int) > (j : Int)) by omega, hw1, hw2, j1, j2, j3, j4, hJ, l1, r1, r2, e1, e2, ↓u1, ↓u2, s1, s2, l2, set_get _ hb, set_set, Array.size_setIfInBounds, b0, dn_loop]
 exact hK
end
end Go.Proofs.Ytccbcbnglnloiaa.G
namespace Go.Proofs.Ytccbcbnglnloiaa.G
open Go
section
variable {X : List Int} {b cap : Nat} {J : JH} (hJ : J[b]? = some (.cells 0 (uL X) false)) {p : Int} {a n : Nat} (hn : n ≤ X.length) (hc : X.length ≤ 1000000)
include hJ hn hc
theorem pt_loop {i j : Nat} (h : PtI X p a n i j) (K : Out IV → JH → Prop)
  (hK : ∀ Y m, Same X Y a n → Parted Y a m n → K (.ret [nI m, .sc (.bool false)]) (J.setIfInBounds b (.cells 0 (uL Y) false))) :
  WP (onJoinD 2 (iter (dn BI l_slices_partitionOrdered_uint32_k10) 3 [.sl b 0 0 X.length cap 1, nI a, nI i, nI j] J) l_slices_partitionOrdered_uint32_k11) K := by
 have hb := lt_get hJ
 refine WP_loop (by decide) (fun m vs J' => ∃ Y i j, m = j + 1 - i ∧ vs = [.sl b 0 0 X.length cap 1, nI a, nI i, nI j] ∧ PtI Y p a n i j ∧ Same X Y a n ∧ J' = J.setIfInBounds b (.cells 0 (uL Y) false)) ?_ (j + 1 - i) _ _ ⟨X, i, j, rfl, rfl, h, .refl _ _ _, (set_own hJ).symm⟩
 rintro m vs J1 ⟨Y, i, j, rfl, rfl, hI, hS, rfl⟩ K1 g1 g2 g3
 have hl := hS.len
 have hJY : (J.setIfInBounds b (.cells 0 (uL Y) false))[b]? = some (.cells 0 (uL Y) false) := set_get _ hb
 have hnY : n ≤ Y.length := by omega
 have hcY : Y.length ≤ 1000000 := by omega
 rw [← hl]
 unfold l_slices_partitionOrdered_uint32_k10
 simp -implicitDefEqProofs only [go_sem, dnW_ite, go_sem_proc, dn_loop]
 refine pt_L5 hJY hnY hcY hI _ K1 fun i' hii hI' hd => ?_
 unfold l_slices_partitionOrdered_uint32_k9
 simp -implicitDefEqProofs only [go_sem, dnW_ite, go_sem_proc, dn_loop]
 refine pt_L7 hJY hnY hcY hI' _ K1 fun j' hjj hI2 hd2 => ?_
 obtain ⟨a1, a2, a3⟩ := hI2.at'
 obtain ⟨b1, b2, b3⟩ := hI'.at'
 obtain ⟨c1, c2, c3⟩ := hI.at'
 by_cases hij : i' ≤ j'
 ·have hx : Y[i']? = some (Y[i']'(by omega)) := List.getElem?_eq_getElem (by omega)
  have hy : Y[j']? = some (Y[j']'(by omega)) := List.getElem?_eq_getElem (by omega)
  have sw := Same.swap (X := Y) (a := a) (n := n) (i := i') (j := j') hnY ⟨by omega, by omega⟩ ⟨by omega, by omega⟩
  have ex := hI2.exch hnY hij hx hy (hd _ (by omega) hx) (hd2 _ hij hy)
  refine pt_k8x hJY hnY hcY hij (by omega) a3 hx hy K1 ?_
  rw [set_set]
  exact g1 _ (j' - 1 + 1 - (i' + 1)) _ (by omega) ⟨_, i' + 1, j' - 1, rfl, by rw [hl], ex, hS.trans sw, rfl⟩
 ·unfold l_slices_partitionOrdered_uint32_k8
  simp -implicitDefEqProofs only [go_sem, dnW_ite, go_sem_proc, show ((i' : Int) > (j' : Int)) by omega]
  have hy : Y[j']? = some (Y[j']'(by omega)) := List.getElem?_eq_getElem (by omega)
  have sw := Same.swap (X := Y) (a := a) (n := n) (i := j') (j := a) hnY ⟨by omega, by omega⟩ ⟨by omega, by omega⟩
  have hpa : Y[a]'(by omega) = p := by have := hI2.piv; rw [List.getElem?_eq_getElem (by omega)] at this; exact Option.some.inj this
  rw [hpa] at sw
  refine g2 _ _ (pt_k11 hJY hnY (by omega) a3 hy hI2.piv K ?_)
  rw [set_set]
  exact hK _ j' (hS.trans sw) (hI2.fin hnY hij hy)
end
end Go.Proofs.Ytccbcbnglnloiaa.G
namespace Go.Proofs.Ytccbcbnglnloiaa.G
open Go
section
variable {X : List Int} {b cap : Nat} {J : JH} (hJ : J[b]? = some (.cells 0 (uL X) false)) {p : Int} {a n : Nat} (hn : n ≤ X.length) (hc : X.length ≤ 1000000)
include hJ hn
theorem pt_k12e {i j : Nat} {x : Int} (hij : ¬ i ≤ j) (ha : a ≤ j) (hj : j < n) (hx : X[j]? = some x) (hp : X[a]? = some p) (K : Out IV → JH → Prop)
  (hK : K (.ret [nI j, .sc (.bool true)]) (J.setIfInBounds b (.cells 0 (uL ((X.set j p).set a x)) false))) :
  WP (dn BI l_slices_partitionOrdered_uint32_k12 [.sl b 0 0 X.length cap 1, nI a, nI i, nI j] J) K := by
 unfold l_slices_partitionOrdered_uint32_k12
 have e1 : ((uL X).drop j).take 1 = [uI x] := by rw [uL_at X (by omega)]; rw [List.getElem?_eq_getElem (by omega)] at hx; rw [Option.some.inj hx]
 have e2 : ((uL X).drop a).take 1 = [uI p] := by rw [uL_at X (by omega)]; rw [List.getElem?_eq_getElem (by omega)] at hp; rw [Option.some.inj hp]
 have l1 := uL_len X
 have hb := lt_get hJ
 have s1 := uL_set X j p (by omega)
 have s2 := uL_set (X.set j p) a x (by rw [List.length_set]; omega)
 have l2 := uL_len (X.set j p)
 rw [List.length_set] at l2
 have b0 : (b < J.size) = True := by simp [hb]
 have j1 : (0 + j * 1 = j) := by omega
 have j2 : (0 + a * 1 = a) := by omega
 have j3 : (a < X.length) = True := by simp; omega
 have j4 : (j < X.length) = True := by simp; omega
 have u1 : ∀ t, icells (uI t) = [uI t] := fun t => rfl
 have u2 : ∀ t, ione (uI t) = true := fun t => rfl
 have r1 : j + 1 ≤ X.length := by omega
 have r2 : a + 1 ≤ X.length := by omega
 simp -implicitDefEqProofs only [go_sem, dnW_ite, go_sem_proc, show ((i : Int) > (j : Int)) by omega, j1, j2, j3, j4, hJ, l1, r1, r2, e1, e2, ↓u1, ↓u2, s1, s2, l2, set_get _ hb, set_set, Array.size_setIfInBounds, b0]
 exact hK
include hc
theorem pt_main (h : PtI X p a n (a + 1) (n - 1)) (K : Out IV → JH → Prop)
  (hK : ∀ Y m f, Same X Y a n → Parted Y a m n → K (.ret [nI m, .sc (.bool f)]) (J.setIfInBounds b (.cells 0 (uL Y) false))) :
  WP (onJoinD 0 (iter (dn BI l_slices_partitionOrdered_uint32_k1) 1 [.sl b 0 0 X.length cap 1, nI a, nI (a + 1), nI (n - 1)] J) l_slices_partitionOrdered_uint32_k13) K := by
 have hb := lt_get hJ
 refine pt_L1 hJ hn hc h _ K fun i hii hI hd => ?_
 unfold l_slices_partitionOrdered_uint32_k13
 simp -implicitDefEqProofs only [go_sem, dnW_ite, go_sem_proc, dn_loop]
 refine pt_L3 hJ hn hc hI _ K fun j hjj hI2 hd2 => ?_
 obtain ⟨a1, a2, a3⟩ := hI2.at'
 have hy : X[j]? = some (X[j]'(by omega)) := List.getElem?_eq_getElem (by omega)
 by_cases hij : i ≤ j
 ·have hx : X[i]? = some (X[i]'(by omega)) := List.getElem?_eq_getElem (by omega)
  have sw := Same.swap (X := X) (a := a) (n := n) (i := i) (j := j) hn ⟨by omega, by omega⟩ ⟨by omega, by omega⟩
  have ex := hI2.exch hn hij hx hy (hd _ (by omega) hx) (hd2 _ hij hy)
  refine pt_k12x hJ hn hc hij (by omega) a3 hx hy K ?_
  have hl := sw.len
  have hlp := pt_loop (X := (X.set i (X[j]'(by omega))).set j (X[i]'(by omega))) (cap := cap) (J := J.setIfInBounds b (.cells 0 (uL ((X.set i (X[j]'(by omega))).set j (X[i]'(by omega)))) false)) (set_get _ hb) (by omega) (by omega) ex K fun Y m hS hP => by
   rw [set_set]
   exact hK Y m false (sw.trans hS) hP
  rw [hl] at hlp
  exact hlp
 ·have hpa : X[a]'(by omega) = p := by have := hI2.piv; rw [List.getElem?_eq_getElem (by omega)] at this; exact Option.some.inj this
  have sw := Same.swap (X := X) (a := a) (n := n) (i := j) (j := a) hn ⟨by omega, by omega⟩ ⟨by omega, by omega⟩
  rw [hpa] at sw
  exact pt_k12e hJ hn hij (by omega) a3 hy hI2.piv K (hK _ j true sw (hI2.fin hn hij hy))
theorem Part_ok {q : Nat} (hq : a ≤ q ∧ q < n) : RP (ic BI F_slices_partitionOrdered_uint32 [.sl b 0 0 X.length cap 1, nI a, nI n, nI q] J) fun v J' => ∃ (m : Nat) (f : Bool) (Y : List Int), v = .tup [nI m, .sc (.bool f)] ∧ Same X Y a n ∧ Parted Y a m n ∧ J' = J.setIfInBounds b (.cells 0 (uL Y) false) := by
 refine RP_run fn_slices_partitionOrdered_uint32 rfl fun K hK => ?_
 unfold l_slices_partitionOrdered_uint32
 have e1 : ((uL X).drop q).take 1 = [uI X[q]] := uL_at X (by omega)
 have e2 : ((uL X).drop a).take 1 = [uI X[a]] := uL_at X (by omega)
 have sw := Same.swap (X := X) (a := a) (n := n) (i := a) (j := q) hn ⟨by omega, by omega⟩ hq
 generalize X[q] = x at *
 generalize X[a] = y at *
 have l1 := uL_len X
 have hb := lt_get hJ
 have s1 := uL_set X a x (by omega)
 have s2 := uL_set (X.set a x) q y (by rw [List.length_set]; omega)
 have l2 := uL_len (X.set a x)
 rw [List.length_set] at l2
 have b0 : (b < J.size) = True := by simp [hb]
 have j1 : (0 + q * 1 = q) := by omega
 have j2 : (0 + a * 1 = a) := by omega
 have j3 : (a < X.length) = True := by simp; omega
 have j4 : (q < X.length) = True := by simp; omega
 have u1 : ∀ t, icells (uI t) = [uI t] := fun t => rfl
 have u2 : ∀ t, ione (uI t) = true := fun t => rfl
 have r1 : q + 1 ≤ X.length := by omega
 have r2 : a + 1 ≤ X.length := by omega
 have hw1 : IntKind.i64.wrap ((a : Int) + 1) = ((a + 1 : Nat) : Int) := by rw [wrap_i64 (by omega) (by omega)]; omega
 have hw2 : IntKind.i64.wrap ((n : Int) - 1) = ((n - 1 : Nat) : Int) := by rw [wrap_i64 (by omega) (by omega)]; omega
 simp -implicitDefEqProofs only [go_sem, dnW_ite, go_sem_proc, hw1, hw2, j1, j2, j3, j4, hJ, l1, r1, r2, e1, e2, ↓u1, ↓u2, s1, s2, l2, set_get _ hb, set_set, Array.size_setIfInBounds, b0, dn_loop]
 have hl := sw.len
 have hpv : ((X.set a x).set q y)[a]? = some (((X.set a x).set q y)[a]'(by omega)) := List.getElem?_eq_getElem (by omega)
 have hm := pt_main (X := (X.set a x).set q y) (cap := cap) (J := J.setIfInBounds b (.cells 0 (uL ((X.set a x).set q y)) false)) (p := ((X.set a x).set q y)[a]'(by omega)) (a := a) (n := n) (set_get _ hb) (by omega) (by omega) ⟨hpv, fun k v h1 h2 => by omega, fun k v h1 h2 => by omega, by omega⟩ K fun Y m f hS hP => by
  rw [set_set]
  exact hK _ _ ⟨m, f, Y, rfl, sw.trans hS, hP, rfl⟩
 rw [hl] at hm
 exact hm
end
end Go.Proofs.Ytccbcbnglnloiaa.G
namespace Go.Proofs.Ytccbcbnglnloiaa.G
open Go
structure PeI (X : List Int) (p : Int) (a n i j : Nat) : Prop where
 piv : X[a]? = some p
 lo : ∀ k v, a < k → k < i → X[k]? = some v → v ≤ p
 hi : ∀ k v, j < k → k < n → X[k]? = some v → p < v
 at' : a < i ∧ i ≤ j + 1 ∧ j < n
theorem PeI.up {X : List Int} {p x : Int} {a n i j : Nat} (h : PeI X p a n i j) (hij : i ≤ j) (hx : X[i]? = some x) (hlt : x ≤ p) : PeI X p a n (i + 1) j := by
 refine ⟨h.piv, fun k v h1 h2 hv => ?_, h.hi, by have := h.at'; omega⟩
 by_cases c : k = i
 ·subst c; rw [hx] at hv; cases hv; exact hlt
 ·exact h.lo k v h1 (by omega) hv
theorem PeI.down {X : List Int} {p x : Int} {a n i j : Nat} (h : PeI X p a n i j) (hij : i ≤ j) (hx : X[j]? = some x) (hge : p < x) : PeI X p a n i (j - 1) := by
 refine ⟨h.piv, h.lo, fun k v h1 h2 hv => ?_, by have := h.at'; omega⟩
 by_cases c : k = j
 ·subst c; rw [hx] at hv; cases hv; exact hge
 ·exact h.hi k v (by omega) h2 hv
theorem PeI.exch {X : List Int} {p x y : Int} {a n i j : Nat} (h : PeI X p a n i j) (hn : n ≤ X.length) (hij : i ≤ j) (hx : X[i]? = some x) (hy : X[j]? = some y) (h1 : p < x) (h2 : y ≤ p) : PeI ((X.set i y).set j x) p a n (i + 1) (j - 1) := by
 obtain ⟨a1, a2, a3⟩ := h.at'
 have hne : i ≠ j := by rintro rfl; rw [hx] at hy; cases hy; omega
 have g := fun k => swap_get (X := X) (i := i) (j := j) (x := x) (y := y) (by omega) (by omega) k
 refine ⟨by rw [g, if_neg (by omega), if_neg (by omega)]; exact h.piv, fun k v k1 k2 hv => ?_, fun k v k1 k2 hv => ?_, by omega⟩
 ·rw [g, if_neg (by omega)] at hv
  split at hv
  ·cases hv; exact h2
  ·exact h.lo k v k1 (by omega) hv
 ·rw [g] at hv
  split at hv
  ·cases hv; exact h1
  ·rw [if_neg (by omega)] at hv
   exact h.hi k v (by omega) k2 hv
section
variable {X : List Int} {b cap : Nat} {J : JH} (hJ : J[b]? = some (.cells 0 (uL X) false)) {p : Int} {a n : Nat} (hn : n ≤ X.length) (hc : X.length ≤ 1000000)
include hJ hn hc
theorem pe_up1 {i j : Nat} (h : PeI X p a n i j) (K : Out IV → JH → Prop)
  (h1 : (∀ x, i ≤ j → X[i]? = some x → p < x) → K (.goto 2 [.sl b 0 0 X.length cap 1, nI a, nI i, nI j]) J)
  (h2 : ∀ x, i ≤ j → X[i]? = some x → x ≤ p → K (.goto 3 [.sl b 0 0 X.length cap 1, nI a, nI (i + 1), nI j]) J) :
  WP (dn BI l_slices_partitionEqualOrdered_uint32_k1 [.sl b 0 0 X.length cap 1, nI a, nI i, nI j] J) K := by
 unfold l_slices_partitionEqualOrdered_uint32_k1
 obtain ⟨a1, a2, a3⟩ := h.at'
 have hp := h.piv
 by_cases hij : i ≤ j
 ·have e1 : ((uL X).drop i).take 1 = [uI X[i]] := uL_at X (by omega)
  have e2 : ((uL X).drop a).take 1 = [uI X[a]] := uL_at X (by omega)
  have g1 : X[i]? = some X[i] := List.getElem?_eq_getElem (by omega)
  have g2 : X[a]? = some X[a] := List.getElem?_eq_getElem (by omega)
  have l1 := uL_len X
  generalize X[i] = x at *
  generalize X[a] = y at *
  obtain rfl : y = p := by rw [hp] at g2; exact (Option.some.inj g2).symm
  have hle := uLess_ok y x
  have hw1 : IntKind.i64.wrap ((i : Int) + 1) = ((i + 1 : Nat) : Int) := by rw [wrap_i64 (by omega) (by omega)]; omega
  have j1 : (0 + i * 1 = i) := by omega
  have j2 : (0 + a * 1 = a) := by omega
  have j3 : (i < X.length) = True := by simp; omega
  have j4 : (a < X.length) = True := by simp; omega
  have r1 : i + 1 ≤ X.length := by omega
  have r2 : a + 1 ≤ X.length := by omega
  by_cases hl2 : y < x
  ·have hl : pc BI F_cmp_Less_uint32 [uI y, uI x] = some (.sc (.bool true)) := by rw [hle]; simp [hl2]
   simp -implicitDefEqProofs only [go_sem, dnW_ite, go_sem_proc, show ((i : Int) ≤ (j : Int)) by omega, hw1, j1, j2, j3, j4, hJ, l1, r1, r2, e1, e2, dcp hl rfl, l_slices_partitionEqualOrdered_uint32_k0]
   exact h1 (fun z _ hz => by rw [g1] at hz; cases hz; exact hl2)
  ·have hl : pc BI F_cmp_Less_uint32 [uI y, uI x] = some (.sc (.bool false)) := by rw [hle]; simp [hl2]
   simp -implicitDefEqProofs only [go_sem, dnW_ite, go_sem_proc, show ((i : Int) ≤ (j : Int)) by omega, hw1, j1, j2, j3, j4, hJ, l1, r1, r2, e1, e2, dcp hl rfl, l_slices_partitionEqualOrdered_uint32_k0]
   exact h2 x hij g1 (by omega)
 ·simp -implicitDefEqProofs only [go_sem, dnW_ite, go_sem_proc, show ¬ ((i : Int) ≤ (j : Int)) by omega]
  exact h1 (fun x h => absurd h hij)
theorem pe_down3 {i j : Nat} (h : PeI X p a n i j) (K : Out IV → JH → Prop)
  (h1 : (∀ x, i ≤ j → X[j]? = some x → x ≤ p) → K (.goto 3 [.sl b 0 0 X.length cap 1, nI a, nI i, nI j]) J)
  (h2 : ∀ x, i ≤ j → X[j]? = some x → p < x → K (.goto 4 [.sl b 0 0 X.length cap 1, nI a, nI i, nI (j - 1)]) J) :
  WP (dn BI l_slices_partitionEqualOrdered_uint32_k3 [.sl b 0 0 X.length cap 1, nI a, nI i, nI j] J) K := by
 unfold l_slices_partitionEqualOrdered_uint32_k3
 obtain ⟨a1, a2, a3⟩ := h.at'
 have hp := h.piv
 by_cases hij : i ≤ j
 ·have e1 : ((uL X).drop j).take 1 = [uI X[j]] := uL_at X (by omega)
  have e2 : ((uL X).drop a).take 1 = [uI X[a]] := uL_at X (by omega)
  have g1 : X[j]? = some X[j] := List.getElem?_eq_getElem (by omega)
  have g2 : X[a]? = some X[a] := List.getElem?_eq_getElem (by omega)
  have l1 := uL_len X
  generalize X[j] = x at *
  generalize X[a] = y at *
  obtain rfl : y = p := by rw [hp] at g2; exact (Option.some.inj g2).symm
  have hle := uLess_ok y x
  have hw1 : IntKind.i64.wrap ((j : Int) - 1) = ((j - 1 : Nat) : Int) := by rw [wrap_i64 (by omega) (by omega)]; omega
  have j1 : (0 + j * 1 = j) := by omega
  have j2 : (0 + a * 1 = a) := by omega
  have j3 : (j < X.length) = True := by simp; omega
  have j4 : (a < X.length) = True := by simp; omega
  have r1 : j + 1 ≤ X.length := by omega
  have r2 : a + 1 ≤ X.length := by omega
  by_cases hl2 : y < x
  ·have hl : pc BI F_cmp_Less_uint32 [uI y, uI x] = some (.sc (.bool true)) := by rw [hle]; simp [hl2]
   simp -implicitDefEqProofs only [go_sem, dnW_ite, go_sem_proc, show ((i : Int) ≤ (j : Int)) by omega, hw1, j1, j2, j3, j4, hJ, l1, r1, r2, e1, e2, dcp hl rfl, l_slices_partitionEqualOrdered_uint32_k2]
   exact h2 x hij g1 hl2
  ·have hl : pc BI F_cmp_Less_uint32 [uI y, uI x] = some (.sc (.bool false)) := by rw [hle]; simp [hl2]
   simp -implicitDefEqProofs only [go_sem, dnW_ite, go_sem_proc, show ((i : Int) ≤ (j : Int)) by omega, hw1, j1, j2, j3, j4, hJ, l1, r1, r2, e1, e2, dcp hl rfl, l_slices_partitionEqualOrdered_uint32_k2]
   exact h1 (fun z _ hz => by rw [g1] at hz; cases hz; omega)
 ·simp -implicitDefEqProofs only [go_sem, dnW_ite, go_sem_proc, show ¬ ((i : Int) ≤ (j : Int)) by omega]
  exact h1 (fun x h => absurd h hij)
theorem pe_L1 {i j : Nat} (h : PeI X p a n i j) (body : L) (K : Out IV → JH → Prop)
  (hK : ∀ i', i ≤ i' → PeI X p a n i' j → (∀ x, i' ≤ j → X[i']? = some x → p < x) → WP (dn BI body [.sl b 0 0 X.length cap 1, nI a, nI i', nI j] J) K) :
  WP (onJoinD 2 (iter (dn BI l_slices_partitionEqualOrdered_uint32_k1) 3 [.sl b 0 0 X.length cap 1, nI a, nI i, nI j] J) body) K := by
 refine WP_loop (by decide) (fun m vs J' => ∃ i', i ≤ i' ∧ m = j + 1 - i' ∧ vs = [.sl b 0 0 X.length cap 1, nI a, nI i', nI j] ∧ PeI X p a n i' j ∧ J' = J) ?_ (j + 1 - i) _ _ ⟨i, Nat.le_refl _, rfl, rfl, h, rfl⟩
 rintro m vs J1 ⟨i', hii, rfl, rfl, hI, rfl⟩ K1 g1 g2 g3
 refine pe_up1 hJ hn hc hI K1 (fun hd => g2 _ _ (hK i' hii hI hd)) fun x hij hx hlt => ?_
 exact g1 _ (j + 1 - (i' + 1)) _ (by omega) ⟨i' + 1, by omega, rfl, rfl, hI.up hij hx hlt, rfl⟩
theorem pe_L3 {i j : Nat} (h : PeI X p a n i j) (body : L) (K : Out IV → JH → Prop)
  (hK : ∀ j', j' ≤ j → PeI X p a n i j' → (∀ x, i ≤ j' → X[j']? = some x → x ≤ p) → WP (dn BI body [.sl b 0 0 X.length cap 1, nI a, nI i, nI j'] J) K) :
  WP (onJoinD 3 (iter (dn BI l_slices_partitionEqualOrdered_uint32_k3) 4 [.sl b 0 0 X.length cap 1, nI a, nI i, nI j] J) body) K := by
 refine WP_loop (by decide) (fun m vs J' => ∃ j', j' ≤ j ∧ m = j' ∧ vs = [.sl b 0 0 X.length cap 1, nI a, nI i, nI j'] ∧ PeI X p a n i j' ∧ J' = J) ?_ j _ _ ⟨j, Nat.le_refl _, rfl, rfl, h, rfl⟩
 rintro m vs J1 ⟨j', hjj, rfl, rfl, hI, rfl⟩ K1 g1 g2 g3
 refine pe_down3 hJ hn hc hI K1 (fun hd => g2 _ _ (hK m hjj hI hd)) fun x hij hx hge => ?_
 exact g1 _ (m - 1) _ (by have := hI.at'; omega) ⟨m - 1, by omega, rfl, rfl, hI.down hij hx hge, rfl⟩
theorem pe_k4x {i j : Nat} {x y : Int} (hij : i ≤ j) (h0 : 0 < j) (hj : j < n) (hx : X[i]? = some x) (hy : X[j]? = some y) (K : Out IV → JH → Prop)
  (hK : K (.goto 1 [.sl b 0 0 X.length cap 1, nI a, nI (i + 1), nI (j - 1)]) (J.setIfInBounds b (.cells 0 (uL ((X.set i y).set j x)) false))) :
  WP (dn BI l_slices_partitionEqualOrdered_uint32_k4 [.sl b 0 0 X.length cap 1, nI a, nI i, nI j] J) K := by
 unfold l_slices_partitionEqualOrdered_uint32_k4
 have e1 : ((uL X).drop j).take 1 = [uI y] := by rw [uL_at X (by omega)]; rw [List.getElem?_eq_getElem (by omega)] at hy; rw [Option.some.inj hy]
 have e2 : ((uL X).drop i).take 1 = [uI x] := by rw [uL_at X (by omega)]; rw [List.getElem?_eq_getElem (by omega)] at hx; rw [Option.some.inj hx]
 have l1 := uL_len X
 have hb := lt_get hJ
 have s1 := uL_set X i y (by omega)
 have s2 := uL_set (X.set i y) j x (by rw [List.length_set]; omega)
 have l2 := uL_len (X.set i y)
 rw [List.length_set] at l2
 have b0 : (b < J.size) = True := by simp [hb]
 have j1 : (0 + j * 1 = j) := by omega
 have j2 : (0 + i * 1 = i) := by omega
 have j3 : (i < X.length) = True := by simp; omega
 have j4 : (j < X.length) = True := by simp; omega
 have u1 : ∀ t, icells (uI t) = [uI t] := fun t => rfl
 have u2 : ∀ t, ione (uI t) = true := fun t => rfl
 have r1 : j + 1 ≤ X.length := by omega
 have r2 : i + 1 ≤ X.length := by omega
 have hw1 : IntKind.i64.wrap ((i : Int) + 1) = ((i + 1 : Nat) : Int) := by rw [wrap_i64 (by omega) (by omega)]; omega
 have hw2 : IntKind.i64.wrap ((j : Int) - 1) = ((j - 1 : Nat) : Int) := by rw [wrap_i64 (by omega) (by omega)]; omega
 simp -implicitDefEqProofs only [go_sem, dnW_ite, go_sem_proc, show ¬ ((i : Int) > (j : Int)) by omega, hw1, hw2, j1, j2, j3, j4, hJ, l1, r1, r2, e1, e2, ↓u1, ↓u2, s1, s2, l2, set_get _ hb, set_set, Array.size_setIfInBounds, b0]
 exact hK
theorem pe_loop {i j : Nat} (h : PeI X p a n i j) (K : Out IV → JH → Prop)
  (hK : ∀ Y i j, Same X Y a n → PeI Y p a n i j → ¬ i ≤ j → K (.ret [nI i]) (J.setIfInBounds b (.cells 0 (uL Y) false))) :
  WP (onJoinD 0 (iter (dn BI l_slices_partitionEqualOrdered_uint32_k6) 1 [.sl b 0 0 X.length cap 1, nI a, nI i, nI j] J) l_slices_partitionEqualOrdered_uint32_k7) K := by
 have hb := lt_get hJ
 refine WP_loop (by decide) (fun m vs J' => ∃ Y i j, m = j + 1 - i ∧ vs = [.sl b 0 0 X.length cap 1, nI a, nI i, nI j] ∧ PeI Y p a n i j ∧ Same X Y a n ∧ J' = J.setIfInBounds b (.cells 0 (uL Y) false)) ?_ (j + 1 - i) _ _ ⟨X, i, j, rfl, rfl, h, .refl _ _ _, (set_own hJ).symm⟩
 rintro m vs J1 ⟨Y, i, j, rfl, rfl, hI, hS, rfl⟩ K1 g1 g2 g3
 have hl := hS.len
 have hJY : (J.setIfInBounds b (.cells 0 (uL Y) false))[b]? = some (.cells 0 (uL Y) false) := set_get _ hb
 have hnY : n ≤ Y.length := by omega
 have hcY : Y.length ≤ 1000000 := by omega
 rw [← hl]
 unfold l_slices_partitionEqualOrdered_uint32_k6
 simp -implicitDefEqProofs only [go_sem, dnW_ite, go_sem_proc, dn_loop]
 refine pe_L1 hJY hnY hcY hI _ K1 fun i' hii hI' hd => ?_
 unfold l_slices_partitionEqualOrdered_uint32_k5
 simp -implicitDefEqProofs only [go_sem, dnW_ite, go_sem_proc, dn_loop]
 refine pe_L3 hJY hnY hcY hI' _ K1 fun j' hjj hI2 hd2 => ?_
 obtain ⟨a1, a2, a3⟩ := hI2.at'
 by_cases hij : i' ≤ j'
 ·have hx : Y[i']? = some (Y[i']'(by omega)) := List.getElem?_eq_getElem (by omega)
  have hy : Y[j']? = some (Y[j']'(by omega)) := List.getElem?_eq_getElem (by omega)
  have sw := Same.swap (X := Y) (a := a) (n := n) (i := i') (j := j') hnY ⟨by omega, by omega⟩ ⟨by omega, by omega⟩
  have ex := hI2.exch hnY hij hx hy (hd _ (by omega) hx) (hd2 _ hij hy)
  refine pe_k4x hJY hnY hcY hij (by omega) a3 hx hy K1 ?_
  rw [set_set]
  exact g1 _ (j' - 1 + 1 - (i' + 1)) _ (by omega) ⟨_, i' + 1, j' - 1, rfl, by rw [hl], ex, hS.trans sw, rfl⟩
 ·unfold l_slices_partitionEqualOrdered_uint32_k4
  simp -implicitDefEqProofs only [go_sem, dnW_ite, go_sem_proc, show ((i' : Int) > (j' : Int)) by omega]
  refine g2 _ _ ?_
  unfold l_slices_partitionEqualOrdered_uint32_k7
  simp -implicitDefEqProofs only [go_sem, dnW_ite, go_sem_proc]
  exact hK Y i' j' hS hI2 hij
theorem PartEq_ok {q : Nat} (hq : a ≤ q ∧ q < n) {x : Int} (hpq : X[q]? = some x) : RP (ic BI F_slices_partitionEqualOrdered_uint32 [.sl b 0 0 X.length cap 1, nI a, nI n, nI q] J) fun v J' => ∃ (m : Nat) (Y : List Int), v = nI m ∧ Same X Y a n ∧ a < m ∧ m ≤ n ∧ (∀ k v, a ≤ k → k < m → Y[k]? = some v → v ≤ x) ∧ (∀ k v, m ≤ k → k < n → Y[k]? = some v → x < v) ∧ J' = J.setIfInBounds b (.cells 0 (uL Y) false) := by
 refine RP_run fn_slices_partitionEqualOrdered_uint32 rfl fun K hK => ?_
 unfold l_slices_partitionEqualOrdered_uint32
 obtain ⟨y, hxy⟩ : ∃ y, X[a]? = some y := ⟨_, List.getElem?_eq_getElem (by omega)⟩
 have sw := Same.swap (X := X) (a := a) (n := n) (i := a) (j := q) hn ⟨by omega, by omega⟩ hq
 have q1 : X[q]'(by omega) = x := by rw [List.getElem?_eq_getElem (by omega)] at hpq; exact Option.some.inj hpq
 have q2 : X[a]'(by omega) = y := by rw [List.getElem?_eq_getElem (by omega)] at hxy; exact Option.some.inj hxy
 rw [q1, q2] at sw
 have hx := hxy
 have hy := hpq
 have e1 : ((uL X).drop q).take 1 = [uI x] := by rw [uL_at X (by omega)]; rw [List.getElem?_eq_getElem (by omega)] at hy; rw [Option.some.inj hy]
 have e2 : ((uL X).drop a).take 1 = [uI y] := by rw [uL_at X (by omega)]; rw [List.getElem?_eq_getElem (by omega)] at hx; rw [Option.some.inj hx]
 have l1 := uL_len X
 have hb := lt_get hJ
 have s1 := uL_set X a x (by omega)
 have s2 := uL_set (X.set a x) q y (by rw [List.length_set]; omega)
 have l2 := uL_len (X.set a x)
 rw [List.length_set] at l2
 have b0 : (b < J.size) = True := by simp [hb]
 have j1 : (0 + q * 1 = q) := by omega
 have j2 : (0 + a * 1 = a) := by omega
 have j3 : (a < X.length) = True := by simp; omega
 have j4 : (q < X.length) = True := by simp; omega
 have u1 : ∀ t, icells (uI t) = [uI t] := fun t => rfl
 have u2 : ∀ t, ione (uI t) = true := fun t => rfl
 have r1 : q + 1 ≤ X.length := by omega
 have r2 : a + 1 ≤ X.length := by omega
 have hw1 : IntKind.i64.wrap ((a : Int) + 1) = ((a + 1 : Nat) : Int) := by rw [wrap_i64 (by omega) (by omega)]; omega
 have hw2 : IntKind.i64.wrap ((n : Int) - 1) = ((n - 1 : Nat) : Int) := by rw [wrap_i64 (by omega) (by omega)]; omega
 simp -implicitDefEqProofs only [go_sem, dnW_ite, go_sem_proc, hw1, hw2, j1, j2, j3, j4, hJ, l1, r1, r2, e1, e2, ↓u1, ↓u2, s1, s2, l2, set_get _ hb, set_set, Array.size_setIfInBounds, b0, dn_loop]
 have hl := sw.len
 have hpv : ((X.set a x).set q y)[a]? = some x := by
  rw [swap_get (by omega) (by omega)]
  split
  ·rename_i e; subst e; rw [hpq] at hxy; exact hxy.symm
  ·rw [if_pos rfl]
 have hm := pe_loop (X := (X.set a x).set q y) (cap := cap) (J := J.setIfInBounds b (.cells 0 (uL ((X.set a x).set q y)) false)) (p := x) (a := a) (n := n) (set_get _ hb) (by omega) (by omega) (i := a + 1) (j := n - 1) ⟨hpv, fun k v h1 h2 => by omega, fun k v h1 h2 => by omega, by omega⟩ K fun Y i j hS hP hij => by
  obtain ⟨a1, a2, a3⟩ := hP.at'
  rw [set_set]
  refine hK _ _ ⟨i, Y, rfl, sw.trans hS, a1, by omega, fun k v h1 h2 hv => ?_, fun k v h1 h2 hv => hP.hi k v (by omega) h2 hv, rfl⟩
  by_cases c : k = a
  ·subst c; rw [hP.piv] at hv; cases hv; exact Int.le_refl _
  ·exact hP.lo k v (by omega) h2 hv
 rw [hl] at hm
 exact hm
end
end Go.Proofs.Ytccbcbnglnloiaa.G
namespace Go.Proofs.Ytccbcbnglnloiaa.G
open Go
theorem xor_ok {J : JH} {r : Nat} {z : Int} (hr : J[r]? = some (.cells 0 [.int .u64 z] false)) : RP (ic BI F_slices_xorshift_Next [.ptr r 0 0] J) fun v J' => ∃ z', v = .int .u64 z' ∧ J' = J.setIfInBounds r (.cells 0 [.int .u64 z'] false) := by
 refine RP_run fn_slices_xorshift_Next rfl fun K hK => ?_
 unfold l_slices_xorshift_Next
 have hb := lt_get hr
 have b0 : (r < J.size) = True := by simp [hb]
 simp -implicitDefEqProofs only [go_sem, dnW_ite, go_sem_proc, iisNil, hr, inb hr, set_get _ hb, set_set, Array.size_setIfInBounds, b0]
 exact hK _ _ ⟨_, rfl, rfl⟩
theorem and_le (a : Int) (m : Nat) (hm : m < 18446744073709551616) : ((BitVec.ofInt 64 a &&& BitVec.ofInt 64 (m : Int)).toNat) ≤ m := by
 rw [BitVec.toNat_and]
 refine Nat.le_trans Nat.and_le_right ?_
 simp
 exact Nat.mod_le _ _
theorem pow2_ok : ∀ k : Nat, 8 ≤ k → k ≤ 16 → ∃ q : Nat, pc BI F_slices_nextPowerOfTwo [nI k] = some (.int .u64 (q : Int)) ∧ 1 ≤ q ∧ q ≤ 2 * k := by
 intro k h8 h16
 have hk2 : k = 8 ∨ k = 9 ∨ k = 10 ∨ k = 11 ∨ k = 12 ∨ k = 13 ∨ k = 14 ∨ k = 15 ∨ k = 16 := by omega
 rcases hk2 with rfl | rfl | rfl | rfl | rfl | rfl | rfl | rfl | rfl
 ·exact ⟨16, pcK 20 (by kernel_rfl), by omega, by omega⟩
 ·exact ⟨16, pcK 20 (by kernel_rfl), by omega, by omega⟩
 ·exact ⟨16, pcK 20 (by kernel_rfl), by omega, by omega⟩
 ·exact ⟨16, pcK 20 (by kernel_rfl), by omega, by omega⟩
 ·exact ⟨16, pcK 20 (by kernel_rfl), by omega, by omega⟩
 ·exact ⟨16, pcK 20 (by kernel_rfl), by omega, by omega⟩
 ·exact ⟨16, pcK 20 (by kernel_rfl), by omega, by omega⟩
 ·exact ⟨16, pcK 20 (by kernel_rfl), by omega, by omega⟩
 ·exact ⟨32, pcK 20 (by kernel_rfl), by omega, by omega⟩
section
variable {X : List Int} {b cap : Nat} {J : JH} (hJ : J[b]? = some (.cells 0 (uL X) false)) {a n : Nat} (hn : n ≤ X.length) (hc : X.length ≤ 1000000)
include hJ hn hc
theorem bp_k0 {d r q i t : Nat} {x y : Int} (hi : a ≤ i ∧ i < n) (ht : a + t < n) (hx : X[i]? = some x) (hy : X[a + t]? = some y) (K : Out IV → JH → Prop)
  (hK : K (.goto 0 [.sl b 0 0 X.length cap 1, nI a, nI d, .ptr r 0 0, .int .u64 (q : Int), nI (i + 1)]) (J.setIfInBounds b (.cells 0 (uL ((X.set i y).set (a + t) x)) false))) :
  WP (dn BI l_slices_breakPatternsOrdered_uint32_k0 [.sl b 0 0 X.length cap 1, nI a, nI d, .ptr r 0 0, .int .u64 (q : Int), nI i, nI t] J) K := by
 unfold l_slices_breakPatternsOrdered_uint32_k0
 have hw0 : IntKind.i64.wrap ((a : Int) + (t : Int)) = ((a + t : Nat) : Int) := by rw [wrap_i64 (by omega) (by omega)]; omega
 generalize a + t = j at *
 have e1 : ((uL X).drop j).take 1 = [uI y] := by rw [uL_at X (by omega)]; rw [List.getElem?_eq_getElem (by omega)] at hy; rw [Option.some.inj hy]
 have e2 : ((uL X).drop i).take 1 = [uI x] := by rw [uL_at X (by omega)]; rw [List.getElem?_eq_getElem (by omega)] at hx; rw [Option.some.inj hx]
 have l1 := uL_len X
 have hb := lt_get hJ
 have s1 := uL_set X i y (by omega)
 have s2 := uL_set (X.set i y) j x (by rw [List.length_set]; omega)
 have l2 := uL_len (X.set i y)
 rw [List.length_set] at l2
 have b0 : (b < J.size) = True := by simp [hb]
 have j1 : (0 + j * 1 = j) := by omega
 have j2 : (0 + i * 1 = i) := by omega
 have j3 : (i < X.length) = True := by simp; omega
 have j4 : (j < X.length) = True := by simp; omega
 have u1 : ∀ t, icells (uI t) = [uI t] := fun t => rfl
 have u2 : ∀ t, ione (uI t) = true := fun t => rfl
 have r1 : j + 1 ≤ X.length := by omega
 have r2 : i + 1 ≤ X.length := by omega
 have hw1 : IntKind.i64.wrap ((i : Int) + 1) = ((i + 1 : Nat) : Int) := by rw [wrap_i64 (by omega) (by omega)]; omega
 simp -implicitDefEqProofs only [go_sem, dnW_ite, go_sem_proc, hw0, hw1, j1, j2, j3, j4, hJ, l1, r1, r2, e1, e2, ↓u1, ↓u2, s1, s2, l2, set_get _ hb, set_set, Array.size_setIfInBounds, b0]
 exact hK
theorem bp_k1 {r q i : Nat} {z : Int} (h8 : a + 8 ≤ n) (h16 : n - a ≤ 16) (hq1 : 1 ≤ q) (hq2 : q ≤ 2 * (n - a)) (hr : J[r]? = some (.cells 0 [.int .u64 z] false)) (hrb : r ≠ b) (hi : a ≤ i) (hi2 : i ≤ a + (n - a) / 4 * 2 + 1) (K : Out IV → JH → Prop)
  (hK : ∀ z' Y, Same X Y a n → K (.goto 0 [.sl b 0 0 X.length cap 1, nI a, nI (n - a), .ptr r 0 0, .int .u64 (q : Int), nI (i + 1)]) ((J.setIfInBounds r (.cells 0 [.int .u64 z'] false)).setIfInBounds b (.cells 0 (uL Y) false))) :
  WP (dn BI l_slices_breakPatternsOrdered_uint32_k1 [.sl b 0 0 X.length cap 1, nI a, nI (n - a), .ptr r 0 0, .int .u64 (q : Int), nI i] J) K := by
 unfold l_slices_breakPatternsOrdered_uint32_k1
 generalize hd : n - a = d at *
 generalize he : d / 4 = e at *
 have t1 : ((d : Int).tdiv 4) = (e : Int) := by rw [← he]; rfl
 have w2 : IntKind.i64.wrap (e : Int) = (e : Int) := wrap_i64 (by omega) (by omega)
 have w4 : IntKind.i64.wrap ((e : Int) * 2) = ((e * 2 : Nat) : Int) := by rw [wrap_i64 (by omega) (by omega)]; omega
 have w6 : IntKind.i64.wrap ((a : Int) + ((e * 2 : Nat) : Int)) = ((a + e * 2 : Nat) : Int) := by rw [wrap_i64 (by omega) (by omega)]; omega
 have w7 : IntKind.i64.wrap (((a + e * 2 : Nat) : Int) + 1) = ((a + e * 2 + 1 : Nat) : Int) := by rw [wrap_i64 (by omega) (by omega)]; omega
 have w8 : IntKind.u64.wrap ((q : Int) - 1) = ((q - 1 : Nat) : Int) := by rw [wrap_u64 (by omega) (by omega)]; omega
 simp -implicitDefEqProofs only [go_sem, dnW_ite, go_sem_proc, t1, w2, w4, w6, w7, show ((i : Int) ≤ ((a + e * 2 + 1 : Nat) : Int)) by omega]
 refine WP_call (xor_ok hr) fun v J2 hv => ?_
 obtain ⟨z', rfl, rfl⟩ := hv
 have hand := and_le z' (q - 1) (by omega)
 have hb := lt_get hJ
 have hJ2 : (J.setIfInBounds r (.cells 0 [.int .u64 z'] false))[b]? = some (.cells 0 (uL X) false) := by rw [Array.getElem?_setIfInBounds, if_neg hrb]; exact hJ
 have fin : ∀ t : Nat, a + t < n → WP (dn BI l_slices_breakPatternsOrdered_uint32_k0 [.sl b 0 0 X.length cap 1, nI a, nI d, .ptr r 0 0, .int .u64 (q : Int), nI i, nI t] (J.setIfInBounds r (.cells 0 [.int .u64 z'] false))) K := fun t ht =>
  bp_k0 hJ2 hn hc (i := i) (t := t) ⟨hi, by omega⟩ ht (List.getElem?_eq_getElem (by omega)) (List.getElem?_eq_getElem (by omega)) K (hK z' _ (.swap hn ⟨by omega, by omega⟩ ⟨by omega, by omega⟩))
 have key : ∀ u : Nat, u ≤ q - 1 → (if IntKind.i64.wrap (u : Int) ≥ (d : Int) then WP (dn BI l_slices_breakPatternsOrdered_uint32_k0 [.sl b 0 0 X.length cap 1, nI a, nI d, .ptr r 0 0, .int .u64 (q : Int), nI i, .int .i64 (IntKind.i64.wrap (IntKind.i64.wrap (u : Int) - (d : Int)))] (J.setIfInBounds r (.cells 0 [.int .u64 z'] false))) K
   else WP (dn BI l_slices_breakPatternsOrdered_uint32_k0 [.sl b 0 0 X.length cap 1, nI a, nI d, .ptr r 0 0, .int .u64 (q : Int), nI i, .int .i64 (IntKind.i64.wrap (u : Int))] (J.setIfInBounds r (.cells 0 [.int .u64 z'] false))) K) := by
  intro u hu
  have w9 : IntKind.i64.wrap (u : Int) = (u : Int) := wrap_i64 (by omega) (by omega)
  rw [w9]
  by_cases hge : u ≥ d
  ·have w10 : IntKind.i64.wrap ((u : Int) - (d : Int)) = ((u - d : Nat) : Int) := by rw [wrap_i64 (by omega) (by omega)]; omega
   rw [if_pos (by omega), w10]
   exact fin (u - d) (by omega)
  ·rw [if_neg (by omega)]
   exact fin u (by omega)
 simp -implicitDefEqProofs only [go_sem, dnW_ite, go_sem_proc, w8]
 exact key _ hand
theorem Break_ok (h8 : a + 8 ≤ n) (h16 : n - a ≤ 16) : RP (ic BI F_slices_breakPatternsOrdered_uint32 [.sl b 0 0 X.length cap 1, nI a, nI n] J) fun v J' => ∃ Y, Same X Y a n ∧ J'[b]? = some (.cells 0 (uL Y) false) ∧ Fr J J' [b] := by
 refine RP_run fn_slices_breakPatternsOrdered_uint32 rfl fun K hK => ?_
 unfold l_slices_breakPatternsOrdered_uint32
 have hwd : IntKind.i64.wrap ((n : Int) - (a : Int)) = ((n - a : Nat) : Int) := by rw [wrap_i64 (by omega) (by omega)]; omega
 obtain ⟨q, hq, q1, q2⟩ := pow2_ok (n - a) (by omega) (by omega)
 have hb := lt_get hJ
 have t1 : (((n - a : Nat) : Int).tdiv 4) = (((n - a) / 4 : Nat) : Int) := rfl
 have w2 : IntKind.i64.wrap (((n - a) / 4 : Nat) : Int) = (((n - a) / 4 : Nat) : Int) := wrap_i64 (by omega) (by omega)
 have w4 : IntKind.i64.wrap ((((n - a) / 4 : Nat) : Int) * 2) = (((n - a) / 4 * 2 : Nat) : Int) := by rw [wrap_i64 (by omega) (by omega)]; omega
 have w6 : IntKind.i64.wrap ((a : Int) + (((n - a) / 4 * 2 : Nat) : Int)) = ((a + (n - a) / 4 * 2 : Nat) : Int) := by rw [wrap_i64 (by omega) (by omega)]; omega
 have w7 : IntKind.i64.wrap (((a + (n - a) / 4 * 2 : Nat) : Int) - 1) = ((a + (n - a) / 4 * 2 - 1 : Nat) : Int) := by rw [wrap_i64 (by omega) (by omega)]; omega
 have w9 : IntKind.u64.wrap ((n - a : Nat) : Int) = ((n - a : Nat) : Int) := wrap_u64 (by omega) (by omega)
 have hge : (((n - a : Nat) : Int) ≥ 8) := by omega
 have c13 : ∀ z : Int, (J.push (.cells 0 [.int .u64 z] false)).size = J.size + 1 := fun z => by simp
 simp -implicitDefEqProofs only [go_sem, dnW_ite, go_sem_proc, hwd, hge, w9, dcp hq rfl, t1, w2, w4, w6, w7, dn_loop]
 have hpush := Fr.push J (.cells 0 [.int .u64 ((n - a : Nat) : Int)] false) [b]
 have hJ0 : (J.push (.cells 0 [.int .u64 ((n - a : Nat) : Int)] false))[b]? = some (.cells 0 (uL X) false) := by rw [Array.getElem?_push, if_neg (by omega)]; exact hJ
 refine WP_rangeT 3 (fun k vs J' => ∃ (z : Int) (Y : List Int), vs = [.sl b 0 0 X.length cap 1, nI a, nI (n - a), .ptr J.size 0 0, .int .u64 (q : Int), nI (a + (n - a) / 4 * 2 - 1 + k)] ∧ J'[J.size]? = some (.cells 0 [.int .u64 z] false) ∧ J'[b]? = some (.cells 0 (uL Y) false) ∧ Same X Y a n ∧ Fr J J' [b]) ?_ ⟨_, X, rfl, push_get _ _, hJ0, .refl _ _ _, hpush⟩
 rintro k vs J1 ⟨z, Y, rfl, hz, hY, hS, f1⟩ hk K1 g1 g2 g3
 have hl := hS.len
 by_cases h3 : k < 3
 ·have hrnd := bp_k1 (X := Y) (cap := cap) hY (a := a) (n := n) (by omega) (by omega) (r := J.size) (q := q) (i := a + (n - a) / 4 * 2 - 1 + k) h8 h16 q1 q2 hz (by omega) (by omega) (by omega) K1 fun z' Z hZ => by
   refine g1 h3 _ _ ⟨z', Z, by rw [hl]; rfl, ?_, set_get _ (by simp; exact lt_get hY), hS.trans hZ, ?_⟩
   ·rw [Array.getElem?_setIfInBounds, if_neg (by omega)]
    exact set_get _ (lt_get hz)
   ·have f2 : Fr J1 (J1.setIfInBounds J.size (.cells 0 [.int .u64 z'] false)) [J.size] := Fr.set _ _ (by simp)
    have f3 := Fr.set (J1.setIfInBounds J.size (.cells 0 [.int .u64 z'] false)) (b := b) (.cells 0 (uL Z) false) (S := [b]) (by simp)
    exact (f1.trans f2 (fun d hd hm => by simp at hm; omega)).trans f3 (fun _ _ h => h)
  rw [hl] at hrnd
  exact hrnd
 ·obtain rfl : k = 3 := by omega
  unfold l_slices_breakPatternsOrdered_uint32_k1
  have w8 : IntKind.i64.wrap (((a + (n - a) / 4 * 2 : Nat) : Int) + 1) = ((a + (n - a) / 4 * 2 + 1 : Nat) : Int) := by rw [wrap_i64 (by omega) (by omega)]; omega
  have hno : ¬ (((a + (n - a) / 4 * 2 - 1 + 3 : Nat) : Int) ≤ ((a + (n - a) / 4 * 2 + 1 : Nat) : Int)) := by omega
  simp -implicitDefEqProofs only [go_sem, dnW_ite, go_sem_proc, t1, w2, w4, w6, w8, hno]
  exact g3 _ _ (hK _ _ ⟨Y, hS, hY, f1⟩)
end
end Go.Proofs.Ytccbcbnglnloiaa.G
namespace Go.Proofs.Ytccbcbnglnloiaa.G
open Go
def Low (X : List Int) (a n : Nat) : Prop := ∀ x, 0 < a → X[a - 1]? = some x → ∀ k v, a ≤ k → k < n → X[k]? = some v → x ≤ v
theorem Low.mono {X : List Int} {a n n' : Nat} (h : Low X a n) (hn : n' ≤ n) : Low X a n' := fun x h0 hx k v h1 h2 hv => h x h0 hx k v h1 (by omega) hv
theorem Low.same {X Y : List Int} {a n a' n' : Nat} (h : Low X a n) (hS : Same X Y a' n') (h1 : a ≤ a') (h2 : n' ≤ n) : Low Y a n := by
 intro x h0 hx k v k1 k2 hv
 rw [hS.out _ (by omega)] at hx
 have hS2 : Same X Y a n := hS.mono h1 h2
 exact hS2.all (fun v => x ≤ v) (fun k v k1 k2 hv => h x h0 hx k v k1 k2 hv) k v k1 k2 hv
def PdqP (b cap d : Nat) : Prop := ∀ (X : List Int) (a n l : Nat) (J : JH), n - a = d → a ≤ n → n ≤ X.length → X.length ≤ 1000000 → d ≤ 16 → d ≤ l + 12 → l ≤ 1000000 → J[b]? = some (.cells 0 (uL X) false) → Low X a n →
 RP (ic BI F_slices_pdqsortOrdered_uint32 [.sl b 0 0 X.length cap 1, nI a, nI n, nI l] J) fun v J' => v = .tup [] ∧ ∃ Y, Same X Y a n ∧ Rises Y a n ∧ J'[b]? = some (.cells 0 (uL Y) false) ∧ Fr J J' [b]
def PNext (b cap : Nat) (X : List Int) (a n l : Nat) (J : JH) (K : Out IV → JH → Prop) : Prop := ∀ Y J' a' n' (wb wp : Bool), a ≤ a' → n' ≤ n → a' ≤ n' → n' - a' < n - a → Same X Y a n → Low Y a' n' → (∀ Z, Same Y Z a' n' → Rises Z a' n' → Rises Z a n) → J'[b]? = some (.cells 0 (uL Y) false) → Fr J J' [b] → K (.goto 0 [.sl b 0 0 X.length cap 1, nI a', nI n', nI l, .sc (.bool wb), .sc (.bool wp)]) J'
def PFin (b : Nat) (X : List Int) (a n : Nat) (J : JH) (K : Out IV → JH → Prop) : Prop := ∀ Y J', Same X Y a n → Rises Y a n → J'[b]? = some (.cells 0 (uL Y) false) → Fr J J' [b] → K (.ret []) J'
section
variable {X : List Int} {b cap : Nat} {J : JH} (hJ : J[b]? = some (.cells 0 (uL X) false)) {a n : Nat} (hn : n ≤ X.length) (hc : X.length ≤ 1000000)
include hJ hn hc
theorem pdq_k0 (IH : ∀ d, d < n - a → PdqP b cap d) {q l : Nat} (hq : a ≤ q ∧ q < n) (hd : n - a ≤ 16) (hl : n - a ≤ l + 13) (hl2 : l ≤ 1000000) (hlow : Low X a n) (K : Out IV → JH → Prop) (hK : PNext b cap X a n l J K) :
  WP (dn BI l_slices_pdqsortOrdered_uint32_k0 [.sl b 0 0 X.length cap 1, nI a, nI n, nI l, nI (n - a), nI q] J) K := by
 unfold l_slices_pdqsortOrdered_uint32_k0
 simp -implicitDefEqProofs only [go_sem, dnW_ite, go_sem_proc]
 refine WP_call (Part_ok hJ hn hc hq) fun v J1 hv => ?_
 obtain ⟨m, f, Y, rfl, hS, hP, rfl⟩ := hv
 obtain ⟨hm1, hm2⟩ := hP.at'
 obtain ⟨p, hp, hpl, hpr⟩ := hP.ex
 have hb := lt_get hJ
 have hY := set_get J (X := (IB.cells 0 (uL Y) false : IB)) hb
 have hlen := hS.len
 have w1 : IntKind.i64.wrap ((m : Int) - (a : Int)) = ((m - a : Nat) : Int) := by rw [wrap_i64 (by omega) (by omega)]; omega
 have w2 : IntKind.i64.wrap ((n : Int) - (m : Int)) = ((n - m : Nat) : Int) := by rw [wrap_i64 (by omega) (by omega)]; omega
 have w3 : IntKind.i64.wrap ((m : Int) + 1) = ((m + 1 : Nat) : Int) := by rw [wrap_i64 (by omega) (by omega)]; omega
 have t1 : (((n - a : Nat) : Int).tdiv 8) = (((n - a) / 8 : Nat) : Int) := rfl
 have w4 : IntKind.i64.wrap (((n - a) / 8 : Nat) : Int) = (((n - a) / 8 : Nat) : Int) := wrap_i64 (by omega) (by omega)
 have f1 : Fr J (J.setIfInBounds b (.cells 0 (uL Y) false)) [b] := Fr.set _ _ (by simp)
 by_cases c : m - a < n - m
 ·simp -implicitDefEqProofs only [go_sem, dnW_ite, go_sem_proc, w1, w2, t1, w4, show (((m - a : Nat) : Int) < ((n - m : Nat) : Int)) by omega]
  have hcall := IH (m - a) (by omega) Y a m l _ rfl hm1 (by omega) (by omega) (by omega) (by omega) hl2 hY ((hlow.same hS (Nat.le_refl _) (Nat.le_refl _)).mono (by omega))
  rw [hlen] at hcall
  refine WP_call hcall fun v J2 hv => ?_
  obtain ⟨rfl, Y2, hS2, hR2, hJ2, f2⟩ := hv
  simp -implicitDefEqProofs only [go_sem, dnW_ite, go_sem_proc, w3]
  have hpm : Y2[m]? = some p := by rw [hS2.out m (by omega)]; exact hp
  have hr2 : ∀ k v, m < k → k < n → Y2[k]? = some v → p ≤ v := fun k v k1 k2 hv => by rw [hS2.out k (by omega)] at hv; exact hpr k v k1 k2 hv
  have hl2 : ∀ k v, a ≤ k → k < m → Y2[k]? = some v → v ≤ p := hS2.all (fun v => v ≤ p) hpl
  refine hK Y2 J2 (m + 1) n _ f (by omega) (by omega) (by omega) (by omega) (hS.trans (hS2.mono (by omega) (by omega))) ?_ ?_ hJ2 (f1.trans f2 fun _ _ h => h)
  ·intro x _ hx k v k1 k2 hv
   rw [Nat.add_sub_cancel, hpm] at hx
   obtain rfl := Option.some.inj hx
   exact hr2 k v (by omega) k2 hv
  ·intro Z hZ hR
   refine Rises.join (m := m) (p := p) (hR2.same hZ (.inl (by omega))) hR (by rw [hZ.out m (by omega)]; exact hpm) (fun k v k1 k2 hv => ?_) (hZ.all (fun v => p ≤ v) (fun k v k1 k2 hv => hr2 k v (by omega) k2 hv))
   rw [hZ.out k (by omega)] at hv
   exact hl2 k v k1 k2 hv
 ·simp -implicitDefEqProofs only [go_sem, dnW_ite, go_sem_proc, w1, w2, t1, w4, show ¬ (((m - a : Nat) : Int) < ((n - m : Nat) : Int)) by omega, w3]
  have hlw : Low Y (m + 1) n := by
   intro x _ hx k v k1 k2 hv
   rw [Nat.add_sub_cancel, hp] at hx
   obtain rfl := Option.some.inj hx
   exact hpr k v (by omega) k2 hv
  have hcall := IH (n - (m + 1)) (by omega) Y (m + 1) n l _ rfl (by omega) (by omega) (by omega) (by omega) (by omega) hl2 hY hlw
  rw [hlen] at hcall
  refine WP_call hcall fun v J2 hv => ?_
  obtain ⟨rfl, Y2, hS2, hR2, hJ2, f2⟩ := hv
  simp -implicitDefEqProofs only [go_sem, dnW_ite, go_sem_proc]
  have hpm : Y2[m]? = some p := by rw [hS2.out m (by omega)]; exact hp
  have hl2 : ∀ k v, a ≤ k → k < m → Y2[k]? = some v → v ≤ p := fun k v k1 k2 hv => by rw [hS2.out k (by omega)] at hv; exact hpl k v k1 k2 hv
  have hr2 : ∀ k v, m + 1 ≤ k → k < n → Y2[k]? = some v → p ≤ v := hS2.all (fun v => p ≤ v) (fun k v k1 k2 hv => hpr k v (by omega) k2 hv)
  refine hK Y2 J2 a m _ f (by omega) (by omega) (by omega) (by omega) (hS.trans (hS2.mono (by omega) (by omega))) ?_ ?_ hJ2 (f1.trans f2 fun _ _ h => h)
  ·exact ((hlow.same (hS.trans (hS2.mono (by omega) (by omega))) (Nat.le_refl _) (Nat.le_refl _)).mono (by omega))
  ·intro Z hZ hR
   refine Rises.join (m := m) (p := p) hR (hR2.same hZ (.inr (by omega))) (by rw [hZ.out m (by omega)]; exact hpm) (hZ.all (fun v => v ≤ p) hl2) (fun k v k1 k2 hv => ?_)
   rw [hZ.out k (by omega)] at hv
   exact hr2 k v (by omega) k2 hv
theorem pdq_k1 (IH : ∀ d, d < n - a → PdqP b cap d) {q l : Nat} {wb wp : Bool} (hq : a ≤ q ∧ q < n) (hd : n - a ≤ 16) (hl : n - a ≤ l + 13) (hl2 : l ≤ 1000000) (hlow : Low X a n) (K : Out IV → JH → Prop) (hK : PNext b cap X a n l J K) :
  WP (dn BI l_slices_pdqsortOrdered_uint32_k1 [.sl b 0 0 X.length cap 1, nI a, nI n, nI l, .sc (.bool wb), .sc (.bool wp), nI (n - a), nI q] J) K := by
 unfold l_slices_pdqsortOrdered_uint32_k1
 have hrest := (pdq_k0 (cap := cap) hJ hn hc IH hq hd hl hl2 hlow K hK)
 by_cases h0 : a = 0
 ·subst h0
  simp -implicitDefEqProofs only [go_sem, dnW_ite, go_sem_proc, show ¬ (((0 : Nat) : Int) > 0) by omega]
  exact hrest
 ·have w1 : IntKind.i64.wrap ((a : Int) - 1) = ((a - 1 : Nat) : Int) := by rw [wrap_i64 (by omega) (by omega)]; omega
  have e1 : ((uL X).drop (a - 1)).take 1 = [uI X[a - 1]] := uL_at X (by omega)
  have e2 : ((uL X).drop q).take 1 = [uI X[q]] := uL_at X (by omega)
  have x1 : X[a - 1]? = some X[a - 1] := List.getElem?_eq_getElem (by omega)
  have x2 : X[q]? = some X[q] := List.getElem?_eq_getElem (by omega)
  generalize X[a - 1] = x at *
  generalize X[q] = y at *
  have hle := hlow x (by omega) x1 q y hq.1 hq.2 x2
  have l1 := uL_len X
  have j1 : (0 + (a - 1) * 1 = a - 1) := by omega
  have j2 : (0 + q * 1 = q) := by omega
  have j3 : (a - 1 < X.length) = True := by simp; omega
  have j4 : (q < X.length) = True := by simp; omega
  have u1 : ∀ t, icells (uI t) = [uI t] := fun t => rfl
  have u2 : ∀ t, ione (uI t) = true := fun t => rfl
  have r1 : a - 1 + 1 ≤ X.length := by omega
  have r2 : q + 1 ≤ X.length := by omega
  have hless := uLess_ok x y
  have c1 : ((a : Int) > 0) := by omega
  by_cases hlt : x < y
  ·have hl : pc BI F_cmp_Less_uint32 [uI x, uI y] = some (.sc (.bool true)) := by rw [hless]; simp [hlt]
   simp -implicitDefEqProofs only [go_sem, dnW_ite, go_sem_proc, c1, w1, j1, j2, j3, j4, hJ, l1, r1, r2, e1, e2, dcp hl rfl]
   exact hrest
  ·have hl : pc BI F_cmp_Less_uint32 [uI x, uI y] = some (.sc (.bool false)) := by rw [hless]; simp [hlt]
   obtain rfl : y = x := by omega
   simp -implicitDefEqProofs only [go_sem, dnW_ite, go_sem_proc, c1, w1, j1, j2, j3, j4, hJ, l1, r1, r2, e1, e2, dcp hl rfl]
   refine WP_join fun K1 g1 g2 g3 => ?_
   refine WP_call (PartEq_ok hJ hn hc hq x2) fun v J1 hv => ?_
   obtain ⟨m, Y, rfl, hS, hm1, hm2, hYl, hYr, rfl⟩ := hv
   simp -implicitDefEqProofs only [go_sem, dnW_ite, go_sem_proc]
   refine g2 _ _ _ (by omega) (hK Y _ m n wb wp (by omega) (by omega) hm2 (by omega) hS ?_ ?_ (set_get _ (lt_get hJ)) (Fr.set _ _ (by simp)))
   ·intro z _ hz k v k1 k2 hv
    have := hYl (m - 1) z (by omega) (by omega) hz
    have := hYr k v (by omega) k2 hv
    omega
   ·have hge : ∀ k v, a ≤ k → k < n → Y[k]? = some v → y ≤ v := hS.all (fun v => y ≤ v) (fun k v k1 k2 hv => hlow y (by omega) x1 k v k1 k2 hv)
    intro Z hZ hR i j u v hi hij hj hu hv
    by_cases c2 : m ≤ i
    ·exact hR i j u v c2 hij hj hu hv
    ·rw [hZ.out i (by omega)] at hu
     have h1 := hYl i u hi (by omega) hu
     have h2 : y ≤ v := (hS.trans (hZ.mono (by omega) (by omega))).all (fun v => y ≤ v) (fun k v k1 k2 hv => hlow y (by omega) x1 k v k1 k2 hv) j v (by omega) hj hv
     omega
theorem pdq_k2 (IH : ∀ d, d < n - a → PdqP b cap d) {q l : Nat} {wb wp : Bool} {h : Int} (hq : a ≤ q ∧ q < n) (hd : n - a ≤ 16) (hl : n - a ≤ l + 13) (hl2 : l ≤ 1000000) (hlow : Low X a n) (K : Out IV → JH → Prop) (hK : PNext b cap X a n l J K) (hF : PFin b X a n J K) :
  WP (dn BI l_slices_pdqsortOrdered_uint32_k2 [.sl b 0 0 X.length cap 1, nI a, nI n, nI l, .sc (.bool wb), .sc (.bool wp), nI (n - a), nI q, .int .i64 h] J) K := by
 unfold l_slices_pdqsortOrdered_uint32_k2
 have hrest := (pdq_k1 (cap := cap) (wb := wb) (wp := wp) hJ hn hc IH hq hd hl hl2 hlow K hK)
 cases wb
 ·simp -implicitDefEqProofs only [go_sem, dnW_ite, go_sem_proc]
  exact hrest
 ·cases wp
  ·simp -implicitDefEqProofs only [go_sem, dnW_ite, go_sem_proc]
   exact hrest
  ·by_cases h1 : h = 1
   ·subst h1
    simp -implicitDefEqProofs only [go_sem, dnW_ite, go_sem_proc]
    refine WP_join fun K1 g1 g2 g3 => ?_
    refine WP_call (partial_ok hJ (by omega) hn (by omega) hc) fun v J1 hv => ?_
    obtain ⟨r, rfl, hr, rfl⟩ := hv
    cases r
    ·simp -implicitDefEqProofs only [go_sem, dnW_ite, go_sem_proc]
     exact g1 _ _ hrest
    ·simp -implicitDefEqProofs only [go_sem, dnW_ite, go_sem_proc]
     exact g3 _ _ (hF X _ (.refl _ _ _) (hr rfl) hJ (.refl _ _))
   ·have k1 : (h == 1) = false := by simpa using h1
    simp -implicitDefEqProofs only [go_sem, dnW_ite, go_sem_proc, k1]
    exact hrest
theorem pdq_k3 (IH : ∀ d, d < n - a → PdqP b cap d) {l : Nat} {wb wp : Bool} (h8 : a + 8 ≤ n) (hd : n - a ≤ 16) (hl : n - a ≤ l + 13) (hl2 : l ≤ 1000000) (hlow : Low X a n) (K : Out IV → JH → Prop) (hK : PNext b cap X a n l J K) (hF : PFin b X a n J K) :
  WP (dn BI l_slices_pdqsortOrdered_uint32_k3 [.sl b 0 0 X.length cap 1, nI a, nI n, nI l, .sc (.bool wb), .sc (.bool wp), nI (n - a)] J) K := by
 unfold l_slices_pdqsortOrdered_uint32_k3
 simp -implicitDefEqProofs only [go_sem, dnW_ite, go_sem_proc]
 refine WP_call (choose_ok hJ h8 hn (by omega) hc) fun v J1 hv => ?_
 obtain ⟨⟨p, h, rfl, hp1, hp2⟩, f1⟩ := hv
 have hJ1 : J1[b]? = some (.cells 0 (uL X) false) := by rw [f1.2 b (lt_get hJ) (by simp)]; exact hJ
 have f1b : Fr J J1 [b] := ⟨f1.1, fun d hd _ => f1.2 d hd (by simp)⟩
 by_cases h2 : h = 2
 ·subst h2
  simp -implicitDefEqProofs only [go_sem, dnW_ite, go_sem_proc]
  refine WP_join fun K1 g1 g2 g3 => ?_
  refine WP_call (Rev_ok X b cap a n (by omega) hn hc J1 hJ1) fun v J2 hv => ?_
  obtain ⟨rfl, Y, hS, rfl⟩ := hv
  have hlen := hS.len
  have w1 : IntKind.i64.wrap ((n : Int) - 1) = ((n - 1 : Nat) : Int) := by rw [wrap_i64 (by omega) (by omega)]; omega
  have w2 : IntKind.i64.wrap ((p : Int) - (a : Int)) = ((p - a : Nat) : Int) := by rw [wrap_i64 (by omega) (by omega)]; omega
  have w3 : IntKind.i64.wrap (((n - 1 : Nat) : Int) - ((p - a : Nat) : Int)) = ((n - 1 - (p - a) : Nat) : Int) := by rw [wrap_i64 (by omega) (by omega)]; omega
  simp -implicitDefEqProofs only [go_sem, dnW_ite, go_sem_proc, w1, w2, w3]
  refine g1 _ _ ?_
  have hJ2 := set_get J1 (X := (IB.cells 0 (uL Y) false : IB)) (lt_get hJ1)
  have f2 : Fr J (J1.setIfInBounds b (.cells 0 (uL Y) false)) [b] := f1b.trans (Fr.set _ _ (S := [b]) (by simp)) fun _ _ h => h
  have := pdq_k2 (cap := cap) (q := n - 1 - (p - a)) (l := l) (wb := wb) (wp := wp) (h := 1) hJ2 (by omega) (by omega) IH (by omega) hd hl hl2 (hlow.same hS (Nat.le_refl _) (Nat.le_refl _)) K (fun Z J3 a' n' wb wp k1 k2 k3 k4 k5 k6 k7 k8 k9 => by
   rw [hlen]
   exact hK Z J3 a' n' wb wp k1 k2 k3 k4 (hS.trans k5) k6 k7 k8 (f2.trans k9 fun _ _ h => h)) (fun Z J3 k1 k2 k3 k4 => hF Z J3 (hS.trans k1) k2 k3 (f2.trans k4 fun _ _ h => h))
  rw [hlen] at this
  exact this
 ·have k1 : (h == 2) = false := by simpa using h2
  simp -implicitDefEqProofs only [go_sem, dnW_ite, go_sem_proc, k1]
  exact pdq_k2 hJ1 hn hc IH ⟨hp1, hp2⟩ hd hl hl2 hlow K (fun Z J3 a' n' wb wp k1 k2 k3 k4 k5 k6 k7 k8 k9 => hK Z J3 a' n' wb wp k1 k2 k3 k4 k5 k6 k7 k8 (f1b.trans k9 fun _ _ h => h)) (fun Z J3 k1 k2 k3 k4 => hF Z J3 k1 k2 k3 (f1b.trans k4 fun _ _ h => h))
theorem pdq_k4 (IH : ∀ d, d < n - a → PdqP b cap d) {l : Nat} {wb wp : Bool} (han : a ≤ n) (hd : n - a ≤ 16) (hl : n - a ≤ l + 12) (hl2 : l ≤ 1000000) (hlow : Low X a n) (K : Out IV → JH → Prop) (hK : ∀ l', l' ≤ l → n - a ≤ l' + 13 → PNext b cap X a n l' J K) (hF : PFin b X a n J K) :
  WP (dn BI l_slices_pdqsortOrdered_uint32_k4 [.sl b 0 0 X.length cap 1, nI a, nI n, nI l, .sc (.bool wb), .sc (.bool wp)] J) K := by
 unfold l_slices_pdqsortOrdered_uint32_k4
 have w1 : IntKind.i64.wrap ((n : Int) - (a : Int)) = ((n - a : Nat) : Int) := by rw [wrap_i64 (by omega) (by omega)]; omega
 by_cases h12 : n - a ≤ 12
 ·simp -implicitDefEqProofs only [go_sem, dnW_ite, go_sem_proc, w1, show (((n - a : Nat) : Int) ≤ 12) by omega]
  refine WP_call (InsR_ok X b cap a n han hn hc J hJ) fun v J1 hv => ?_
  obtain ⟨rfl, Y, hS, hR, rfl⟩ := hv
  simp -implicitDefEqProofs only [go_sem, dnW_ite, go_sem_proc]
  exact hF Y _ hS hR (set_get _ (lt_get hJ)) (Fr.set _ _ (by simp))
 ·have k1 : ((l : Int) == 0) = false := by simp; omega
  simp -implicitDefEqProofs only [go_sem, dnW_ite, go_sem_proc, w1, show ¬ (((n - a : Nat) : Int) ≤ 12) by omega, k1]
  cases wb
  ·simp -implicitDefEqProofs only [go_sem, dnW_ite, go_sem_proc]
   refine WP_join fun K1 g1 g2 g3 => ?_
   refine WP_call (Break_ok hJ hn hc (by omega) hd) fun v J1 hv => ?_
   obtain ⟨Y, hS, hJ1, f1⟩ := hv
   have hlen := hS.len
   have w2 : IntKind.i64.wrap ((l : Int) - 1) = ((l - 1 : Nat) : Int) := by rw [wrap_i64 (by omega) (by omega)]; omega
   simp -implicitDefEqProofs only [go_sem, dnW_ite, go_sem_proc, w2]
   refine g1 _ _ ?_
   have := pdq_k3 (cap := cap) (l := l - 1) (wb := false) (wp := wp) hJ1 (by omega) (by omega) IH (by omega) hd (by omega) (by omega) (hlow.same hS (Nat.le_refl _) (Nat.le_refl _)) K (fun Z J3 a' n' wb wp k1 k2 k3 k4 k5 k6 k7 k8 k9 => by
    rw [hlen]
    exact hK (l - 1) (by omega) (by omega) Z J3 a' n' wb wp k1 k2 k3 k4 (hS.trans k5) k6 k7 k8 (f1.trans k9 fun _ _ h => h)) (fun Z J3 k1 k2 k3 k4 => hF Z J3 (hS.trans k1) k2 k3 (f1.trans k4 fun _ _ h => h))
   rw [hlen] at this
   exact this
  ·simp -implicitDefEqProofs only [go_sem, dnW_ite, go_sem_proc]
   exact pdq_k3 hJ hn hc IH (by omega) hd (by omega) hl2 hlow K (hK l (Nat.le_refl _) (by omega)) hF
end
theorem Pdq_ok (b cap : Nat) : ∀ d, PdqP b cap d := by
 intro d
 induction d using Nat.strongRecOn with
 | ind d IH =>
  intro X a n l J hd han hn hc h16 hl hl2 hJ hlow
  refine RP_run fn_slices_pdqsortOrdered_uint32 rfl fun K hK => ?_
  unfold l_slices_pdqsortOrdered_uint32
  simp -implicitDefEqProofs only [go_sem, dnW_ite, go_sem_proc, dn_loop]
  refine WP_iter (fun m vs J' => ∃ a' n' l' Y, ∃ wb wp : Bool, m = n' - a' ∧ vs = [.sl b 0 0 X.length cap 1, nI a', nI n', nI l', .sc (.bool wb), .sc (.bool wp)] ∧ a ≤ a' ∧ n' ≤ n ∧ a' ≤ n' ∧ n' - a' ≤ l' + 12 ∧ l' ≤ l ∧ Same X Y a n ∧ Low Y a' n' ∧ (∀ Z, Same Y Z a' n' → Rises Z a' n' → Rises Z a n) ∧ J'[b]? = some (.cells 0 (uL Y) false) ∧ Fr J J' [b]) ?_ (n - a) _ _ ⟨a, n, l, X, true, true, rfl, rfl, Nat.le_refl _, Nat.le_refl _, han, by omega, Nat.le_refl _, .refl _ _ _, hlow, fun _ _ h => h, hJ, .refl _ _⟩
  rintro m vs J1 ⟨a', n', l', Y, wb, wp, rfl, rfl, i1, i2, i3, i4, i5, hS, hlow1, hgood, hJ1, f1⟩ K1 g1 g2 g3
  have hlen := hS.len
  have hr := pdq_k4 (cap := cap) (l := l') (wb := wb) (wp := wp) hJ1 (a := a') (n := n') (by omega) (by omega) (fun e he => IH e (by omega)) i3 (by omega) i4 (by omega) hlow1 K1 (fun l2 q1 q2 Z J3 a2 n2 wb wp k1 k2 k3 k4 k5 k6 k7 k8 k9 => by
   rw [hlen]
   exact g1 _ (n2 - a2) _ k4 ⟨a2, n2, l2, Z, wb, wp, rfl, rfl, by omega, by omega, k3, by omega, by omega, hS.trans (k5.mono (by omega) (by omega)), k6, fun W w1 w2 => hgood W (k5.trans (w1.mono (by omega) (by omega))) (k7 W w1 w2), k8, f1.trans k9 fun _ _ h => h⟩) (fun Z J3 k1 k2 k3 k4 => g3 _ _ (hK _ _ ⟨rfl, Z, hS.trans (k1.mono (by omega) (by omega)), hgood Z k1 k2, k3, f1.trans k4 fun _ _ h => h⟩))
  rw [hlen] at hr
  exact hr
theorem SortM_ok (X0 : List Int) (b cap : Nat) (hc : X0.length ≤ 16) (J : JH) (hJ : J[b]? = some (.cells 0 (uL X0) false)) :
  RP (ic BI F_slices_Sort_Luint32_uint32 [.sl b 0 0 X0.length cap 1] J) fun v J' => v = .tup [] ∧ ∃ Y, Y.Perm X0 ∧ Y.Pairwise (· ≤ ·) ∧ J'[b]? = some (.cells 0 (uL Y) false) ∧ Fr J J' [b] := by
 refine RP_run fn_slices_Sort_Luint32_uint32 rfl fun K hK => ?_
 unfold l_slices_Sort_Luint32_uint32
 obtain ⟨q, hq, hq2, hq3⟩ : ∃ q : Nat, pc BI F_math_bits_Len [.int .u64 (X0.length : Int)] = some (nI q) ∧ X0.length ≤ q + 12 ∧ q ≤ 5 := by
  have h : ∀ k : Nat, k ≤ 16 → ∃ q : Nat, pc BI F_math_bits_Len [.int .u64 (k : Int)] = some (nI q) ∧ k ≤ q + 12 ∧ q ≤ 5 := by
   intro k hk
   have hk2 : (k : Nat) = 0 ∨ k = 1 ∨ k = 2 ∨ k = 3 ∨ k = 4 ∨ k = 5 ∨ k = 6 ∨ k = 7 ∨ k = 8 ∨ k = 9 ∨ k = 10 ∨ k = 11 ∨ k = 12 ∨ k = 13 ∨ k = 14 ∨ k = 15 ∨ k = 16 := by omega
   rcases hk2 with rfl | rfl | rfl | rfl | rfl | rfl | rfl | rfl | rfl | rfl | rfl | rfl | rfl | rfl | rfl | rfl | rfl
   ·exact ⟨0, pcK 20 (by kernel_rfl), by omega, by omega⟩
   ·exact ⟨1, pcK 20 (by kernel_rfl), by omega, by omega⟩
   ·exact ⟨2, pcK 20 (by kernel_rfl), by omega, by omega⟩
   ·exact ⟨2, pcK 20 (by kernel_rfl), by omega, by omega⟩
   ·exact ⟨3, pcK 20 (by kernel_rfl), by omega, by omega⟩
   ·exact ⟨3, pcK 20 (by kernel_rfl), by omega, by omega⟩
   ·exact ⟨3, pcK 20 (by kernel_rfl), by omega, by omega⟩
   ·exact ⟨3, pcK 20 (by kernel_rfl), by omega, by omega⟩
   ·exact ⟨4, pcK 20 (by kernel_rfl), by omega, by omega⟩
   ·exact ⟨4, pcK 20 (by kernel_rfl), by omega, by omega⟩
   ·exact ⟨4, pcK 20 (by kernel_rfl), by omega, by omega⟩
   ·exact ⟨4, pcK 20 (by kernel_rfl), by omega, by omega⟩
   ·exact ⟨4, pcK 20 (by kernel_rfl), by omega, by omega⟩
   ·exact ⟨4, pcK 20 (by kernel_rfl), by omega, by omega⟩
   ·exact ⟨4, pcK 20 (by kernel_rfl), by omega, by omega⟩
   ·exact ⟨4, pcK 20 (by kernel_rfl), by omega, by omega⟩
   ·exact ⟨5, pcK 20 (by kernel_rfl), by omega, by omega⟩
  exact h _ hc
 have hp := Pdq_ok b cap X0.length X0 0 X0.length q J rfl (Nat.zero_le _) (Nat.le_refl _) (by omega) hc hq2 (by omega) hJ (fun x h0 => by omega)
 have hw : IntKind.u64.wrap (X0.length : Int) = (X0.length : Int) := by
  simp only [IntKind.wrap, IntKind.bits, IntKind.signed, Bool.false_and, Bool.false_eq_true, if_false]; omega
 simp -implicitDefEqProofs only [go_sem, dnW_ite, go_sem_proc, lenF_sl, hw, dcp hq rfl]
 refine WP_call hp fun v J' hv => ?_
 obtain ⟨rfl, Y, y1, y2, y3, y4⟩ := hv
 simp -implicitDefEqProofs only [go_sem, dnW_ite, go_sem_proc]
 have hl := y1.len
 exact hK _ _ ⟨rfl, Y, y1.perm, Rises.pair (by rw [hl]; exact y2), y3, y4⟩
end Go.Proofs.Ytccbcbnglnloiaa.G
