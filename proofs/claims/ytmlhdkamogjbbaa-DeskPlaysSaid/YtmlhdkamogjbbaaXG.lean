/- Joined: KP4 to KP10. -/
import Derived.Test.YtmlhdkamogjbbaaXF
set_option linter.unusedVariables false
set_option linter.unusedSimpArgs false
set_option maxRecDepth 20000
set_option maxHeartbeats 2000000
namespace Go.Proofs.Ytmlhdkamogjbbaa.G
open Go
def rTakeV (l : List Mv) (us t : BitVec 32) (n : Nat) : BitVec 32 := match l.find? (Mv.is (n : Int) t) with | some x => x.m | none => us
def rTakeO (l : List Mv) (us t : BitVec 32) (n : Nat) : List (BitVec 32) := (List.range n).map (rTakeV l us t)
theorem rTakeO_succ (l us t n) : rTakeO l us t (n + 1) = rTakeO l us t n ++ [rTakeV l us t n] := by simp [rTakeO, List.range_succ]
def leftL (l : List Mv) (t : BitVec 32) : List Mv := l.filter fun x => decide (x.t.toNat > t.toNat)
theorem atI_some {l : List Mv} {p : Int} {t : BitVec 32} {x : Mv} (h : l.find? (Mv.is p t) = some x) : ∃ i, ∃ hi : i < l.length, atI l p t = (i : Int) ∧ l[i] = x := by
 have hs := (List.find?_isSome (p := Mv.is p t) (xs := l)).1 (by rw [h]; rfl)
 cases hf : l.findIdx? (Mv.is p t) with
 | none =>
  rw [List.findIdx?_eq_none_iff] at hf
  obtain ⟨y, hy, he⟩ := hs
  rw [hf y hy] at he; cases he
 | some i =>
  rw [List.findIdx?_eq_some_iff_getElem] at hf
  obtain ⟨hi, he, hj⟩ := hf
  refine ⟨i, hi, ?_, ?_⟩
  ·rw [atI]
   have : l.findIdx? (Mv.is p t) = some i := by rw [List.findIdx?_eq_some_iff_getElem]; exact ⟨hi, he, hj⟩
   rw [this]
  ·have : l.find? (Mv.is p t) = some l[i] := by
    rw [List.find?_eq_some_iff_getElem]
    exact ⟨he, i, hi, rfl, fun j hj' => by simpa using hj j hj'⟩
   rw [this] at h; exact Option.some.inj h
theorem atI_none {l : List Mv} {p : Int} {t : BitVec 32} (h : l.find? (Mv.is p t) = none) : ¬ atI l p t ≥ 0 := fun hh => by
 have := (atI_ge l p t).1 hh
 rw [h] at this; cases this
theorem rLeft_ok {J : JH} {b g x y out tk l} (h : RAt J b g x y out tk l) (hg : GR g x y) (hl : l.length ≤ 100000) (res : IV) (K : Out IV → JH → Prop)
  (hK : ∀ J' out', RAt J' b g x y out' tk (leftL l tk) → Fr J J' [b] → (∀ q ∈ blk out', J.size ≤ q) → K (.ret [res]) J') :
  WP (dn BI l_ref14_Take_k4 [.ptr b 0 0, res] J) K := by
 unfold l_ref14_Take_k4
 have h1 := h.cells
 simp -implicitDefEqProofs only [go_sem, go_sem_proc, h1, inb h1, h.lenF, dn_loop]
 refine WP_range (by decide) l.length (fun i vs J' => ∃ o2, vs = [.ptr b 0 0, res, o2, out, nI l.length, nI i] ∧ RAt J' b g x y out tk l ∧ Fr J J' [] ∧ Grow J' o2 3 (mvX (leftL (l.take i) tk)).flatten ∧ ∀ q ∈ blk o2, J.size ≤ q) ?_ ⟨_, rfl, h, .refl _ _, .nil, by simp [blk, blkOf]⟩
 rintro i vs J1 ⟨o2, rfl, ha, hf, hgr, hlo⟩ hi K1 g1 g2 g3
 unfold l_ref14_Take_k2
 have k1 := ha.cells
 have hbJ : b < J.size := lt_get h1
 have hbl := h.grow.low
 by_cases hlt : i < l.length
 ·obtain ⟨c, v, cs, ho, hc, e1, _, e2⟩ := ha.grow.mv hlt
  have hw1 := wrapS hlt (show l.length ≤ 9223372036854775807 by omega)
  have hst : leftL (l.take (i + 1)) tk = leftL (l.take i) tk ++ if decide (l[i].t.toNat > tk.toNat) = true then [l[i]] else [] := filter_step _ l hlt
  have hdl : (leftL (l.take i) tk).length ≤ l.length := Nat.le_trans (List.length_filter_le _ _) (by rw [List.length_take]; omega)
  have hm3 : (mvc l[i]).length = 3 := rfl
  generalize l[i] = z at *
  have z1 : ((mvc z).drop 1).take 1 = [m32 z.t] := rfl
  have zo : (mvc z).all ione = true := rfl
  have zt : (mvc z).take 3 = mvc z := rfl
  have zt0 : ((mvc z).drop 0).take 3 = mvc z := rfl
  have hin := inb hc
  have c0 : ((i : Int) < (l.length : Int)) := by omega
  have hpu : ∀ X : IB, RAt (J1.push X) b g x y out tk l := fun X => ha.fr (Fr.push _ _ []) (by simp) (by simp)
  have hP : ∀ X : IB, Fr J (J1.push X) [] := fun X => hf.trans (Fr.push _ _ _) (fun _ _ h => h)
  have hG : ∀ X : IB, Grow (J1.push X) o2 3 (mvX (leftL (l.take i) tk)).flatten := fun X => hgr.fr0 (Fr.push _ _ [])
  have hat : iaddrF 3 out (.int .i64 (i : Int)) = fun J' => some (.ptr c v (i * 3), J') := by
   funext J'; rw [ho, iaddrF_sl]; simp [iasNat, asNat, hlt]
  by_cases c1 : z.t.toNat > tk.toNat
  ·rw [if_pos (by simpa using c1)] at hst
   have c2 : (z.t.toNat : Int) > (tk.toNat : Int) := by omega
   simp -implicitDefEqProofs only [go_sem, go_sem_proc, c0, hat, hc, e1, e2, hin, z1, zo, zt, zt0, hm3, k1, inb k1, c2, hw1, ipureL, ipure, grp, mkE, List.headD]
   refine WP_bind ((hG _).app (m := 1) (ds := mvc z) (by omega) rfl rfl rfl rfl (fits16 ?_)) fun o3 J3 hs => ?_
   ·rw [flat_len (mvX_3 _), mvX_len]; omega
   obtain ⟨q1, q2, q3⟩ := hs
   have hsz := hf.1
   simp -implicitDefEqProofs only [go_sem, go_sem_proc, hw1]
   refine g1 hlt _ _ ⟨o3, rfl, (hpu _).fr q2 (fun hm => by have := hlo b hm; omega) (fun d hd hm => by have := hlo d hm; have := hbl d hd; omega), ?_, ?_, ?_⟩
   ·exact (hP _).trans q2 (fun d hd hm => by have := hlo d hm; omega)
   ·rw [hst, ← mvX_snoc]; exact q1
   ·intro q hq
    rcases q3 q hq with hm | hm
    ·exact hlo q hm
    ·simp at hm; omega
  ·rw [if_neg (by simpa using c1), List.append_nil] at hst
   have c2 : ¬ (z.t.toNat : Int) > (tk.toNat : Int) := by omega
   simp -implicitDefEqProofs only [go_sem, go_sem_proc, c0, hat, hc, e1, e2, hin, z1, zo, zt, zt0, hm3, k1, inb k1, c2, hw1]
   exact g1 hlt _ _ ⟨o2, rfl, hpu _, hP _, by rw [hst]; exact hG _, hlo⟩
 ·simp -implicitDefEqProofs only [go_sem, go_sem_proc, show ¬ ((i : Int) < (l.length : Int)) by omega]
  refine g2 _ _ ?_
  unfold l_ref14_Take_k3
  rw [List.take_of_length_le (by omega)] at hgr
  have hone := rd_one (tk := tk) hg hgr.one
  simp -implicitDefEqProofs only [go_sem, go_sem_proc, k1, inb k1, ↓hgr.icells, ↓hgr.one]
  exact hK _ o2 ⟨set_get _ (lt_get k1), hgr.fr (Fr.set J1 (b := b) _ (S := [b]) (by simp)) (fun q hq hm => by simp at hm; subst hm; have := hlo _ hq; omega), fun hm => by have := hlo b hm; omega⟩ ((hf.w (by simp)).trans (Fr.set J1 (b := b) _ (S := [b]) (by simp)) (fun _ _ h => h)) hlo
theorem rTake_ok {J : JH} {b g x y out tk l} (h : RAt J b g x y out tk l) (hg : GR g x y) (hw : ∀ c ∈ g.code, c.wf) (hc : g.cells.length ≤ 9223372036854775807) (hl : l.length ≤ 100000) (P : Nat) (hP : g.right = true → g.players = P ∧ P ≤ 1000) :
  RP (ic BI F_ref14_Take [.ptr b 0 0] J) fun v J' => (g.right = false ∧ v = .sc (.slice none 0 0) ∧ RAt J' b g x y out (tk + 1#32) l ∧ Fr J J' [b]) ∨
   (g.right = true ∧ Grow J' v 1 ((rTakeO l g.dflt (tk + 1#32) P).map m32) ∧ (∀ q ∈ blk v, J.size ≤ q) ∧ ∃ out', RAt J' b g x y out' (tk + 1#32) (leftL l (tk + 1#32)) ∧ Fr J J' [b] ∧ ∀ q ∈ blk out', J.size ≤ q ∧ q ∉ blk v) := by
 refine RP_run fn_ref14_Take rfl fun K hK => ?_
 unfold l_ref14_Take
 have h1 := h.cells
 have hR := rRight10_ok g x y hg hw hc
 have hwr : IntKind.u32.wrap ((tk.toNat : Int) + 1) = ((tk + 1#32).toNat : Int) := addB32c tk 1
 have hone := rd_one (tk := tk + 1#32) hg h.grow.one
 have hb := lt_get h1
 have hA : RAt (J.setIfInBounds b (.cells 0 (rdc g x y out (tk + 1#32)) false)) b g x y out (tk + 1#32) l := ⟨set_get _ hb, h.grow.fr (Fr.set J (b := b) _ (S := [b]) (by simp)) (fun q hq hm => by simp at hm; subst hm; exact h.ne hq), h.ne⟩
 have hF : Fr J (J.setIfInBounds b (.cells 0 (rdc g x y out (tk + 1#32)) false)) [b] := Fr.set J (b := b) _ (by simp)
 cases hr : g.right with
 | false =>
  rw [hr] at hR
  simp -implicitDefEqProofs only [go_sem, go_sem_proc, h1, inb h1, hwr, hone, set_get _ hb, dcp hR (by simp [ipureL, ipure, hg.pure])]
  exact hK _ _ (.inl ⟨hr, rfl, hA, hF⟩)
 | true =>
  rw [hr] at hR
  obtain ⟨hPP, hP6⟩ := hP hr
  simp -implicitDefEqProofs only [go_sem, go_sem_proc, h1, inb h1, hwr, hone, set_get _ hb, dcp hR (by simp [ipureL, ipure, hg.pure])]
  have hz0 : (J.setIfInBounds b (.cells 0 (rdc g x y out (tk + 1#32)) false)).size = J.size := by simp
  generalize J.setIfInBounds b (.cells 0 (rdc g x y out (tk + 1#32)) false) = J0 at *
  generalize tk + 1#32 = T at *
  simp -implicitDefEqProofs only [go_sem, go_sem_proc, dn_loop]
  have hJ0 := hF.1
  refine WP_range (by decide) P (fun i vs J' => ∃ o2, vs = [.ptr b 0 0, o2, nI i] ∧ RAt J' b g x y out T l ∧ Fr J0 J' [] ∧ Grow J' o2 1 ((rTakeO l g.dflt T i).map m32) ∧ ∀ q ∈ blk o2, J.size ≤ q ∧ q ∉ blk out) ?_ ⟨_, rfl, hA, .refl _ _, .nil, by simp [blk, blkOf]⟩
  rintro i vs J1 ⟨o2, rfl, ha, hf, hgr, hlo⟩ hi K1 g1 g2 g3
  unfold l_ref14_Take_k1
  have k1 := ha.cells
  have hbl := h.grow.low
  by_cases hlt : i < P
  ·have hw1 := wrapS hlt (show P ≤ 9223372036854775807 by omega)
   have c0 : ((i : Int) < g.players) := by rw [hPP]; omega
   simp -implicitDefEqProofs only [go_sem, go_sem_proc, k1, inb k1, c0]
   refine WP_join fun K2 m1 m2 m3 => ?_
   refine WP_call (rAt_ok ha (i : Int) T (by omega)) fun v J2 hv => ?_
   obtain ⟨rfl, f2⟩ := hv
   have a2 := ha.fr f2 (by simp) (by simp)
   have k2 := a2.cells
   have hf2 : Fr J0 J2 [] := hf.trans f2 (fun _ _ h => h)
   have hg2 := hgr.fr0 f2
   have fin : WP (dn BI l_ref14_Take_k0 [.ptr b 0 0, o2, nI i, m32 (rTakeV l g.dflt T i)] J2) K1 := by
    unfold l_ref14_Take_k0
    simp -implicitDefEqProofs only [go_sem, go_sem_proc, ipureL, ipure, grp, mkE, List.headD, rawB, allC1]
    refine WP_bind (hg2.app (m := 1) (ds := [m32 (rTakeV l g.dflt T i)]) (by omega) rfl rfl rfl rfl (fits4' (by simp [rTakeO]; omega))) fun o3 J3 hs => ?_
    obtain ⟨q1, q2, q3⟩ := hs
    have hs1 := hf2.1
    simp -implicitDefEqProofs only [go_sem, go_sem_proc, hw1]
    refine g1 hlt _ _ ⟨o3, rfl, a2.fr q2 (fun hm => by have := (hlo b hm).1; have := lt_get h1; omega) (fun d hd hm => (hlo d hm).2 hd), hf2.trans q2 (fun d hd hm => ?_), ?_, ?_⟩
    ·have := (hlo d hm).1
     omega
    ·rw [rTakeO_succ, List.map_append]; exact q1
    ·intro q hq
     rcases q3 q hq with hm | hm
     ·exact hlo q hm
     ·exact ⟨by omega, fun hd => by have := hbl q hd; omega⟩
   cases hfd : l.find? (Mv.is (i : Int) T) with
   | some z =>
    obtain ⟨j, hj, hat, hz⟩ := atI_some hfd
    have e : rTakeV l g.dflt T i = z.m := by simp only [rTakeV, hfd]
    rw [e] at fin
    obtain ⟨c, v, cs, ho, hcc, e1, e2, e3⟩ := a2.grow.mv hj
    have hia : iaddrF 3 out (.int .i64 (j : Int)) = fun J' => some (.ptr c v (j * 3), J') := by
     funext J'; rw [ho, iaddrF_sl]; simp [iasNat, asNat, hj]
    rw [hz] at e2
    rw [hat]
    simp -implicitDefEqProofs only [go_sem, go_sem_proc, show ((j : Int) ≥ 0) by omega, k2, inb k2, hia, hcc, e2, show j * 3 + 2 + 1 ≤ cs.length by omega]
    exact m1 _ _ fin
   | none =>
    have e : rTakeV l g.dflt T i = g.dflt := by simp only [rTakeV, hfd]
    rw [e] at fin
    simp -implicitDefEqProofs only [go_sem, go_sem_proc, atI_none hfd]
    exact m1 _ _ fin
  ·have c0 : ¬ ((i : Int) < g.players) := by rw [hPP]; omega
   simp -implicitDefEqProofs only [go_sem, go_sem_proc, k1, inb k1, c0]
   obtain rfl : i = P := by omega
   refine g2 _ _ ?_
   refine rLeft_ok ha hg hl o2 K fun J' out' hA' hF' hO => hK _ _ (.inr ⟨hr, ?_, fun q hq => (hlo q hq).1, out', hA', ?_, fun q hq => ?_⟩)
   ·exact hgr.fr hF' (fun q hq hm => by simp at hm; subst hm; have := (hlo q hq).1; have := lt_get h1; omega)
   ·have := hf.1
    exact (hF.trans hf (by simp)).trans hF' (fun _ _ h => h)
   ·have hs := hf.1
    have := hO q hq
    exact ⟨by omega, fun hm => by have := hgr.low q hm; omega⟩
def isAt (l : List Mv) (p : Int) (t : Nat) : Bool := (l.find? (Mv.is p (BitVec.ofNat 32 t))).isSome
def hL (l : List Mv) (p : Int) (k n : Nat) : List Nat := ((List.range n).map fun i => k + 1 + i).filter (isAt l p)
theorem hL_succ (l p k n) : hL l p k (n + 1) = hL l p k n ++ if isAt l p (k + 1 + n) = true then [k + 1 + n] else [] := by
 rw [hL, List.range_succ, List.map_append, List.filter_append]
 simp only [List.map_cons, List.map_nil]
 by_cases h : isAt l p (k + 1 + n) = true
 ·rw [if_pos h, List.filter_cons_of_pos h]; rfl
 ·rw [if_neg h, List.filter_cons_of_neg h]; rfl
theorem hL_len (l p k) : ∀ n, (hL l p k n).length ≤ n
 | n => Nat.le_trans (List.length_filter_le _ _) (by simp)
def nL (l : List Nat) : List IV := l.map fun t : Nat => IV.int .u32 (t : Int)
theorem rHeld_ok {J : JH} {b g x y out tk l} (h : RAt J b g x y out tk l) (p : Int) (hl : l.length ≤ 100000) (htk : tk.toNat ≤ 1000) :
  RP (ic BI F_ref14_Held [.ptr b 0 0, .int .i64 p] J) fun v J' => Grow J' v 1 (nL (hL l p tk.toNat 8)) ∧ (∀ q ∈ blk v, J.size ≤ q) ∧ Fr J J' [] := by
 refine RP_run fn_ref14_Held rfl fun K hK => ?_
 unfold l_ref14_Held
 have h1 := h.cells
 have w0 : ∀ z : Nat, z ≤ 2000 → IntKind.u64.wrap (z : Int) = (z : Int) := fun z hz => by
  simp only [IntKind.wrap, IntKind.bits, IntKind.signed, Bool.false_and, Bool.false_eq_true, if_false]; omega
 have w1 : IntKind.u64.wrap ((tk.toNat : Int) + 1) = ((tk.toNat + 1 : Nat) : Int) := w0 (tk.toNat + 1) (by omega)
 have w2 : IntKind.u64.wrap ((tk.toNat : Int) + 8) = ((tk.toNat + 8 : Nat) : Int) := w0 (tk.toNat + 8) (by omega)
 have w3 := w0 tk.toNat (by omega)
 simp -implicitDefEqProofs only [go_sem, go_sem_proc, h1, inb h1, w3, w1, dn_loop]
 refine WP_range (by decide) 8 (fun i vs J' => ∃ o2, vs = [.ptr b 0 0, .int .i64 p, o2, .int .u64 ((tk.toNat + 1 + i : Nat) : Int)] ∧ RAt J' b g x y out tk l ∧ Fr J J' [] ∧ Grow J' o2 1 (nL (hL l p tk.toNat i)) ∧ ∀ q ∈ blk o2, J.size ≤ q) ?_ ⟨_, rfl, h, .refl _ _, .nil, by simp [blk, blkOf]⟩
 rintro i vs J1 ⟨o2, rfl, ha, hf, hgr, hlo⟩ hi K1 g1 g2 g3
 unfold l_ref14_Held_k0
 have k1 := ha.cells
 by_cases hlt : i < 8
 ·have c0 : ((tk.toNat + 1 + i : Nat) : Int) ≤ ((tk.toNat + 8 : Nat) : Int) := by omega
  have c1 : ((tk.toNat + 1 + i : Nat) : Int) < 4294967296 := by omega
  have w4 : IntKind.u64.wrap (((tk.toNat + 1 + i : Nat) : Int) + 1) = ((tk.toNat + 1 + (i + 1) : Nat) : Int) := w0 (tk.toNat + 1 + (i + 1)) (by omega)
  have hbn : (BitVec.ofNat 32 (tk.toNat + 1 + i)).toNat = tk.toNat + 1 + i := by rw [BitVec.toNat_ofNat]; omega
  have w5 : IntKind.u32.wrap ((tk.toNat + 1 + i : Nat) : Int) = ((BitVec.ofNat 32 (tk.toNat + 1 + i)).toNat : Int) := by rw [wrap_u32 (by omega) (by omega), hbn]
  have hs := hL_succ l p tk.toNat i
  have hd : isAt l p (tk.toNat + 1 + i) = (l.find? (Mv.is p (BitVec.ofNat 32 (tk.toNat + 1 + i)))).isSome := rfl
  have hln := hL_len l p tk.toNat i
  generalize tk.toNat + 1 + i = T at *
  simp -implicitDefEqProofs only [go_sem, go_sem_proc, k1, inb k1, w3, w2, c0, c1, w5]
  refine WP_call (rAt_ok ha p (BitVec.ofNat 32 T) (by omega)) fun v J2 hv => ?_
  obtain ⟨rfl, f2⟩ := hv
  have a2 := ha.fr f2 (by simp) (by simp)
  have hf2 : Fr J J2 [] := hf.trans f2 (fun _ _ h => h)
  have hg2 := hgr.fr0 f2
  by_cases c2 : atI l p (BitVec.ofNat 32 T) ≥ 0
  ·have he := (atI_ge _ _ _).1 c2
   rw [if_pos (by rw [hd]; exact he)] at hs
   simp -implicitDefEqProofs only [go_sem, go_sem_proc, c2, w5, ipureL, ipure, grp, mkE, List.headD]
   refine WP_bind (hg2.app (m := 1) (ds := [m32 (BitVec.ofNat 32 T)]) (by omega) rfl rfl rfl rfl (fits4' (by simp [nL]; omega))) fun o3 J3 hs3 => ?_
   obtain ⟨q1, q2, q3⟩ := hs3
   have hs1 := hf2.1
   simp -implicitDefEqProofs only [go_sem, go_sem_proc, w4]
   refine g1 hlt _ _ ⟨o3, rfl, a2.fr q2 (fun hm => by have := hlo b hm; have := lt_get h1; omega) (fun d hd hm => by have := hlo d hm; have := h.grow.low d hd; omega), hf2.trans q2 (fun d hd hm => by have := hlo d hm; omega), ?_, ?_⟩
   ·rw [hs, nL, List.map_append]
    have e : m32 (BitVec.ofNat 32 T) = .int .u32 (T : Int) := by rw [m32, hbn]
    rw [e] at q1; exact q1
   ·intro q hq
    rcases q3 q hq with hm | hm
    ·exact hlo q hm
    ·omega
  ·rw [if_neg (by rw [hd]; exact fun h => c2 ((atI_ge _ _ _).2 h)), List.append_nil] at hs
   simp -implicitDefEqProofs only [go_sem, go_sem_proc, c2, w4]
   exact g1 hlt _ _ ⟨o2, rfl, a2, hf2, by rw [hs]; exact hg2, hlo⟩
 ·have c0 : ¬ ((tk.toNat + 1 + i : Nat) : Int) ≤ ((tk.toNat + 8 : Nat) : Int) := by omega
  simp -implicitDefEqProofs only [go_sem, go_sem_proc, k1, inb k1, w3, w2, c0]
  obtain rfl : i = 8 := by omega
  refine g2 _ _ ?_
  unfold l_ref14_Held_k1
  simp -implicitDefEqProofs only [go_sem, go_sem_proc]
  exact hK _ _ ⟨hgr, hlo, hf⟩
theorem Equal32_ok {x y : IV} {l : List IV} (hx : Ls 1 x l) (hy : Ls 1 y l) (hi : ∀ v ∈ l, ∃ t : Int, v = .int .u32 t) (hl : l.length ≤ 1000000) : pc BI F_slices_Equal_Luint32_uint32 [x, y] = some (.bool true) := by
 refine pcE fn_slices_Equal_Luint32_uint32 rfl fun K hK => ?_
 unfold l_slices_Equal_Luint32_uint32
 simp -implicitDefEqProofs only [go_sem, go_sem_proc, hx.lenF, hy.lenF, show ((l.length : Int) != (l.length : Int)) = false by simp, dn_loop]
 refine WP_range (by decide) l.length (fun i vs J' => vs = [x, y, nI l.length, nI i]) ?_ rfl
 rintro i vs J rfl h K1 g1 g2 g3
 unfold l_slices_Equal_Luint32_uint32_k0
 by_cases hlt : i < l.length
 ·have hax := hx.at hlt (J := J)
  have hay := hy.at hlt (J := J)
  obtain ⟨t, ht⟩ := hi l[i] (List.getElem_mem hlt)
  rw [ht] at hax hay
  simp -implicitDefEqProofs only [go_sem, go_sem_proc, show ((i : Int) < (l.length : Int)) by omega, hax, hay, show (t != t) = false by simp, wrapS hlt (show l.length ≤ 9223372036854775807 by omega)]
  exact g1 hlt _ _ rfl
 ·simp -implicitDefEqProofs only [go_sem, go_sem_proc, show ¬ ((i : Int) < (l.length : Int)) by omega]
  refine g2 _ _ ?_
  unfold l_slices_Equal_Luint32_uint32_k1
  simp -implicitDefEqProofs only [go_sem, go_sem_proc]
  exact hK _ _ (frzP rfl)
structure DI (d : Dk) (l : List Mv) : Prop where
 low : ∀ x ∈ l, 0 ≤ x.p ∧ x.p < d.pl ∧ d.tk.toNat < x.t.toNat ∧ x.t.toNat ≤ d.tk.toNat + 8
 keys : l.Pairwise fun x y => ¬ (x.p = y.p ∧ x.t = y.t)
theorem DI.nil (d : Dk) : DI d [] := ⟨by simp, .nil⟩
theorem DI.sub {d : Dk} {l l' : List Mv} (h : DI d l) (hs : l'.Sublist l) : DI d l' := ⟨fun x hx => h.low x (hs.mem hx), h.keys.sublist hs⟩
theorem DI.put {d : Dk} {l : List Mv} (h : DI d l) (p : Int) (t m : BitVec 32) (c : Nat) : DI d (dPut d l p t m c) := by
 unfold dPut
 split
 ·rename_i he
  unfold dErr at he
  split at he
  ·cases he
  split at he
  ·cases he
  split at he
  ·cases he
  split at he
  ·cases he
  split at he
  ·cases he
  rename_i a1 a2 a3 a4 a5
  have hnone : ∀ x ∈ l, ¬ (x.p = p ∧ x.t = t) := fun x hx hh => by
   refine a5 (List.find?_isSome.2 ⟨x, hx, ?_⟩)
   simp [Mv.is, hh.1, hh.2]
  refine ⟨fun x hx => ?_, ?_⟩
  ·rcases List.mem_append.1 hx with hx | hx
   ·exact h.low x hx
   ·simp at hx; subst hx; simp only; omega
  ·rw [List.pairwise_append]
   refine ⟨h.keys, by simp, fun x hx y hy => ?_⟩
   simp at hy; subst hy; exact hnone x hx
 ·exact h
theorem DI.drop {d : Dk} {l : List Mv} (h : DI d l) (p : Int) : DI d (dropL l p) := h.sub List.filter_sublist
theorem eraseP_filter {p : Int} {t : BitVec 32} : ∀ {l : List Mv}, l.Pairwise (fun x y => ¬ (x.p = y.p ∧ x.t = y.t)) → l.eraseP (Mv.is p t) = l.filter fun x => !Mv.is p t x
 | [], _ => rfl
 | x :: l, h => by
  obtain ⟨h1, h2⟩ := List.pairwise_cons.1 h
  rw [List.eraseP_cons, List.filter_cons]
  cases hx : Mv.is p t x with
  | true =>
   simp only [cond_true, Bool.not_true, Bool.false_eq_true, if_false]
   refine (List.filter_eq_self.2 fun y hy => ?_).symm
   simp only [Mv.is, Bool.and_eq_true, decide_eq_true_eq] at hx
   have := h1 y hy
   simp only [Mv.is, Bool.not_eq_true', Bool.and_eq_false_iff, decide_eq_false_iff_not]
   by_cases hp : y.p = p
   ·exact .inr fun ht => this ⟨hx.1.trans hp.symm, hx.2.trans ht.symm⟩
   ·exact .inl hp
  | false =>
   simp only [cond_false, Bool.not_false, if_true]
   rw [eraseP_filter h2]
theorem takeL_filter {l : List Mv} (t : BitVec 32) (h : l.Pairwise fun x y => ¬ (x.p = y.p ∧ x.t = y.t)) : ∀ n, takeL l t n = l.filter fun x => !(decide (x.t = t) && decide (0 ≤ x.p ∧ x.p < (n : Int)))
 | 0 => by
  rw [takeL]
  refine (List.filter_eq_self.2 fun y hy => ?_).symm
  simp; omega
 | n + 1 => by
  rw [takeL, takeL_filter t h n, eraseP_filter (h.sublist List.filter_sublist), List.filter_filter]
  refine List.filter_congr fun x hx => ?_
  rw [Bool.eq_iff_iff]
  simp only [Mv.is, Bool.and_eq_true, Bool.not_eq_true', Bool.and_eq_false_iff, decide_eq_false_iff_not]
  constructor
  ·rintro ⟨h1, h2⟩
   by_cases ht : x.t = t
   ·right
    rcases h1 with h1 | h1
    ·rcases h2 with h2 | h2
     ·exact absurd ht h2
     ·omega
    ·exact absurd ht h1
   ·exact .inl ht
  ·rintro (h1 | h1)
   ·exact ⟨.inr h1, .inl h1⟩
   ·exact ⟨.inl (by omega), .inr (by omega)⟩
theorem DI.take {d : Dk} {l : List Mv} (h : DI d l) (P : Nat) (hP : d.pl = P) (hw : d.tk.toNat + 1 < 4294967296) : takeL l (d.tk + 1#32) P = leftL l (d.tk + 1#32) := by
 have ht : (d.tk + 1#32).toNat = d.tk.toNat + 1 := by simp; omega
 rw [takeL_filter _ h.keys, leftL]
 refine List.filter_congr fun x hx => ?_
 obtain ⟨a1, a2, a3, a4⟩ := h.low x hx
 have he : (x.t = d.tk + 1#32) ↔ x.t.toNat = d.tk.toNat + 1 := ⟨fun h => by rw [h, ht], fun h => BitVec.eq_of_toNat_eq (by rw [ht]; exact h)⟩
 rw [Bool.eq_iff_iff]
 simp only [Bool.not_eq_true', Bool.and_eq_false_iff, decide_eq_false_iff_not, decide_eq_true_eq, he, ht]
 omega
theorem DI.left {d : Dk} {l : List Mv} (h : DI d l) (hw : d.tk.toNat + 1 < 4294967296) : DI { d with tk := d.tk + 1#32 } (leftL l (d.tk + 1#32)) := by
 have ht : (d.tk + 1#32).toNat = d.tk.toNat + 1 := by simp; omega
 have h2 := h.sub (l' := leftL l (d.tk + 1#32)) List.filter_sublist
 refine ⟨fun x hx => ?_, h2.keys⟩
 obtain ⟨a1, a2, a3, a4⟩ := h2.low x hx
 have := (List.mem_filter.1 hx).2
 simp only [decide_eq_true_eq, ht] at this
 exact ⟨a1, a2, by simp only [ht]; omega, by simp only [ht]; omega⟩
theorem find_erase {p q : Int} {t : BitVec 32} (h : q ≠ p) : ∀ l : List Mv, (l.eraseP (Mv.is q t)).find? (Mv.is p t) = l.find? (Mv.is p t)
 | [] => rfl
 | x :: l => by
  rw [List.eraseP_cons]
  cases hx : Mv.is q t x with
  | true =>
   simp only [cond_true]
   have : Mv.is p t x = false := by
    simp only [Mv.is, Bool.and_eq_true, decide_eq_true_eq] at hx
    simp only [Mv.is, Bool.and_eq_false_iff, decide_eq_false_iff_not]
    exact .inl fun e => h (hx.1.symm.trans e)
   rw [List.find?_cons, this]
  | false =>
   simp only [cond_false]
   rw [List.find?_cons, List.find?_cons, find_erase h l]
theorem takeV_eq (l : List Mv) (us t : BitVec 32) (n : Nat) : takeV l us t n = rTakeV l us t n := by
 have key : ∀ k, k ≤ n → (takeL l t k).find? (Mv.is (n : Int) t) = l.find? (Mv.is (n : Int) t) := by
  intro k
  induction k with
  | zero => intro _; rfl
  | succ k ih =>
   intro hk
   rw [takeL, find_erase (by omega), ih (by omega)]
 rw [takeV, rTakeV, key n (Nat.le_refl n)]
 cases l.find? (Mv.is (n : Int) t) <;> rfl
theorem takeO_eq (l : List Mv) (us t : BitVec 32) (n : Nat) : takeO l us t n = rTakeO l us t n := by
 rw [takeO, rTakeO]
 exact List.map_congr_left fun i _ => takeV_eq l us t i
theorem hTicks_nodup {d : Dk} {l : List Mv} (h : DI d l) (p : Int) : (hTicks l p).Nodup := by
 have h2 := (h.keys.sublist (List.filter_sublist (p := fun x => decide (x.p = p)))).imp_of_mem (S := fun x y => x.t ≠ y.t) (by
  intro a b ha hb hab ht
  have h1 := (List.mem_filter.1 ha).2
  have h2 := (List.mem_filter.1 hb).2
  simp only [decide_eq_true_eq] at h1 h2
  exact hab ⟨h1.trans h2.symm, ht⟩)
 rw [hTicks, List.Nodup, List.pairwise_map]
 exact h2.imp fun {a b} hab he => hab (BitVec.eq_of_toNat_eq (by omega))
theorem hL_sort {d : Dk} {l : List Mv} (h : DI d l) (p : Int) (hw : d.tk.toNat + 8 < 4294967296) : (hL l p d.tk.toNat 8).map (fun t : Nat => (t : Int)) = sortI (hTicks l p) := by
 have hs : (hL l p d.tk.toNat 8).Pairwise (· < ·) := by
  refine List.Pairwise.sublist List.filter_sublist ?_
  rw [List.pairwise_map]
  exact List.pairwise_lt_range.imp fun {a b} hab => by omega
 refine sortI_eq ?_ ?_
 ·rw [List.perm_ext_iff_of_nodup ?_ (hTicks_nodup h p)]
  ·intro a
   simp only [hL, List.mem_map, List.mem_filter, List.mem_range, hTicks, isAt]
   constructor
   ·rintro ⟨n, ⟨⟨i, hi, rfl⟩, hat⟩, rfl⟩
    obtain ⟨x, hx, he⟩ := List.find?_isSome.1 hat
    simp only [Mv.is, Bool.and_eq_true, decide_eq_true_eq] at he
    refine ⟨x, ⟨hx, by simpa using he.1⟩, ?_⟩
    rw [he.2, BitVec.toNat_ofNat]; omega
   ·rintro ⟨x, ⟨hx, hp⟩, rfl⟩
    simp only [decide_eq_true_eq] at hp
    obtain ⟨a1, a2, a3, a4⟩ := h.low x hx
    refine ⟨x.t.toNat, ⟨⟨x.t.toNat - d.tk.toNat - 1, by omega, by omega⟩, ?_⟩, rfl⟩
    refine List.find?_isSome.2 ⟨x, hx, ?_⟩
    simp only [Mv.is, Bool.and_eq_true, decide_eq_true_eq]
    exact ⟨hp, by simp⟩
  ·rw [List.Nodup, List.pairwise_map]
   exact hs.imp fun {a b} hab he => by omega
 ·rw [List.pairwise_map]
  exact hs.imp fun {a b} hab => by omega
theorem hTicks_8 {d : Dk} {l : List Mv} (h : DI d l) (p : Int) (hw : d.tk.toNat + 8 < 4294967296) : (hTicks l p).length ≤ 8 := by
 rw [← sortI_len, ← hL_sort h p hw, List.length_map]
 exact hL_len _ _ _ _
theorem held_same {d : Dk} {l : List Mv} (h : DI d l) (p : Int) (hw : d.tk.toNat + 8 < 4294967296) : uL (sortI (hTicks l p)) = nL (hL l p d.tk.toNat 8) := by
 rw [← hL_sort h p hw, uL, nL, List.map_map]; rfl
theorem few_right (g : Gm) (h : g.right = true) : 1 ≤ g.players ∧ g.players ≤ 6 := by
 simp only [Gm.right, Bool.and_eq_true, decide_eq_true_eq] at h
 omega
theorem take_one (p : Int) (t m us : BitVec 32) (c n i : Nat) (hi : i < n) : takeV [Mv.mk p t m c] us t i = if (i : Int) = p then m else us := by
 have key : ∀ k, (∀ j : Nat, j < k → (j : Int) ≠ p) → takeL [Mv.mk p t m c] t k = [Mv.mk p t m c] := by
  intro k
  induction k with
  | zero => intro _; rfl
  | succ k ih =>
   intro hk
   rw [takeL, ih fun j hj => hk j (by omega)]
   have : Mv.is (k : Int) t (Mv.mk p t m c) = false := by
    simp only [Mv.is]; have := hk k (by omega); simp; omega
   simp [List.eraseP_cons, this]
 have after : ∀ k, (∃ j : Nat, j < k ∧ (j : Int) = p) → takeL [Mv.mk p t m c] t k = [] := by
  intro k
  induction k with
  | zero => rintro ⟨j, hj, _⟩; omega
  | succ k ih =>
   rintro ⟨j, hj, hp⟩
   by_cases hk : ∃ j : Nat, j < k ∧ (j : Int) = p
   ·rw [takeL, ih hk]; rfl
   ·have hjk : j = k := by
     rcases Nat.lt_or_ge j k with h | h
     ·exact absurd ⟨j, h, hp⟩ hk
     ·omega
    subst hjk
    rw [takeL, key j fun i hi e => hk ⟨i, hi, e⟩]
    have : Mv.is (j : Int) t (Mv.mk p t m c) = true := by simp [Mv.is, hp]
    simp [List.eraseP_cons, this]
 by_cases hp : (i : Int) = p
 ·rw [if_pos hp]
  simp only [takeV]
  rw [key i (fun j hj e => by omega)]
  have : Mv.is (i : Int) t (Mv.mk p t m c) = true := by simp [Mv.is, hp]
  simp [List.find?_cons, this]
 ·rw [if_neg hp]
  simp only [takeV]
  by_cases hk : ∃ j : Nat, j < i ∧ (j : Int) = p
  ·rw [after i hk]; rfl
  ·rw [key i fun j hj e => hk ⟨j, hj, e⟩]
   have : Mv.is (i : Int) t (Mv.mk p t m c) = false := by simp [Mv.is]; omega
   simp [List.find?_cons, this]
noncomputable def rchH (J : JH) (l : List IV) : Option (List Nat) := reach J l
theorem dnW_och {ρ : List IV} {J : JH} {f : FuncId} {args : List Operand} {chk} {k : L} : dn BI (oc none (.call f args) .raw chk k) ρ J = thenC (ic BI f (args.map (evI ρ)) J) J chk (rchH J (args.map (evI ρ))) ρ k := by
 rw [dnW_oc, step_chk]
 have h : iexec BI (ic BI) .raw ρ (.call f args) J = ic BI f (args.map (evI ρ)) J := rfl
 have ht : itouch BI .raw ρ (.call f args) J = rchH J (args.map (evI ρ)) := rfl
 rw [h, ht]
 unfold thenC
 generalize ic BI f (args.map (evI ρ)) J = r
 cases r with
 | none => rfl
 | some q =>
  by_cases hh : chk.all (ichk J q.2 (rchH J (args.map (evI ρ))) ρ) = true
  ·simp only [hh, if_true]; rfl
  ·simp only [hh]; rfl
theorem WP_callZ {f : FuncId} {args as : List IV} {u : IV} {J : JH} {k : L} {ρ : List IV} {P} (ha : args.mapM (frz J DEP) = some as) (hp : pc BI f as = some u) (hu : iscal u = true) (hk : WP (dn BI k (ρ ++ [u]) J) P) : WP (thenD (doCall (ic BI) .pure f args J) k ρ) P := by
 rw [dcf ha hp, if_pos hu]
 exact hk
theorem isame_sc {J J' : JH} {t : Option (List Nat)} {b v off : Nat} {z : Value} (h : ird J b v off 1 = some [.sc z]) (h' : ird J' b v off 1 = some [.sc z]) : isame J J' t (.range b v off 1) = true := by
 simp only [isame, h, h', Option.isSome_some, Bool.true_and, Option.bind_some, scalsOf, Option.map_some]
 rw [veqL_refl]; simp
theorem reach_nil {J : JH} {l : List IV} (h : irefsL l = []) : rchH J l = some [] := by
 have hk : ∀ k, reachN J k [] = [] := by
  intro k
  induction k with
  | zero => rfl
  | succ k ih => simp [reachN]
 simp only [rchH, reach, h, hk, List.all_nil, Bool.and_self, if_true]
structure Ac where
 d : BitVec 8
 p : Int
 t : BitVec 32
 n : Bool
 m : BitVec 32
def Ac.c (a : Ac) : List IV := [.int .u8 (a.d.toNat : Int), .int .i64 a.p, m32 a.t, .sc (.bool a.n), m32 a.m]
def Ac.e (a : Ac) : IV := .agg a.c
theorem ac_len (a : Ac) : a.c.length = 5 := rfl
theorem ac_0 (a : Ac) : (a.c.drop 0).take 1 = [.int .u8 (a.d.toNat : Int)] := rfl
theorem ac_00 (a : Ac) : a.c.take 1 = [.int .u8 (a.d.toNat : Int)] := rfl
theorem ac_1 (a : Ac) : (a.c.drop 1).take 1 = [.int .i64 a.p] := rfl
theorem ac_2 (a : Ac) : (a.c.drop 2).take 1 = [m32 a.t] := rfl
theorem ac_3 (a : Ac) : (a.c.drop 3).take 1 = [.sc (.bool a.n)] := rfl
theorem ac_4 (a : Ac) : (a.c.drop 4).take 1 = [m32 a.m] := rfl
theorem ac_take (a : Ac) : a.c.take 5 = a.c := rfl
theorem ac_one (a : Ac) : a.c.all ione = true := rfl
attribute [go_sem] ac_len ac_0 ac_00 ac_1 ac_2 ac_3 ac_4 ac_take ac_one
structure Bo (J : JH) (ab : Nat) (a : Ac) (db mb rb : Nat) (g : Gm) (x y : IV) (d : Dk) (l : List Mv) (n : Nat) : Prop where
 ex : ∃ c out, DeskAt J db mb c d l ∧ RAt J rb g x y out d.tk l ∧ db ∉ blk out ∧ mb ∉ blk out ∧ ab ∉ blk out
 act : J[ab]? = some (.cells 0 a.c false)
 ne : db ≠ rb ∧ mb ≠ rb ∧ ab ≠ db ∧ ab ≠ mb ∧ ab ≠ rb
 di : DI d l
 fit : Fits d g d.tk
 len : l.length ≤ n
 tk : d.tk.toNat ≤ n
structure GK (g : Gm) (x y : IV) : Prop where
 gr : GR g x y
 wf : ∀ c ∈ g.code, c.wf
 cl : g.cells.length ≤ 9223372036854775807
theorem Fits.P {d : Dk} {g : Gm} {tk : BitVec 32} (h : Fits d g tk) : ∃ P : Nat, d.pl = P ∧ P ≤ 6 ∧ (g.right = true → g.players = P) ∧ (g.right = false → P = 0) := by
 have hp := h.pl
 cases hr : g.right with
 | true =>
  rw [hr] at hp
  have := few_right g hr
  exact ⟨g.players.toNat, by rw [hp]; simp; omega, by omega, fun _ => by omega, fun h => by cases h⟩
 | false =>
  rw [hr] at hp
  exact ⟨0, by rw [hp]; rfl, by omega, fun h => (by cases h), fun _ => rfl⟩
section
variable {J : JH} {ab : Nat} {a : Ac} {db mb rb : Nat} {g : Gm} {x y : IV} {d : Dk} {l : List Mv} {n : Nat} (hB : Bo J ab a db mb rb g x y d l n) (hG : GK g x y) (hn : n ≤ 200) (acts : IV) (len i : Nat) (K : Out IV → JH → Prop)
 (hK : ∀ J' d' l', Bo J' ab a db mb rb g x y d' l' (n + 1) → K (.goto 2 [.ptr db 0 0, .ptr rb 0 0, .ptr ab 0 0, acts, nI len, nI i]) J')
include hB hG hn hK
theorem act_put (t : BitVec 32) : WP (dn BI l_law14_DeskPlays_k0 [.ptr db 0 0, .ptr rb 0 0, .ptr ab 0 0, m32 t, acts, nI len, nI i] J) K := by
 obtain ⟨c, out, hd, hr, o1, o2, o3⟩ := hB.ex
 obtain ⟨n1, n2, n3, n4, n5⟩ := hB.ne
 have hA := hB.act
 unfold l_law14_DeskPlays_k0
 simp -implicitDefEqProofs only [go_sem, go_sem_proc, hA, inb hA, ↓dnW_och]
 refine WP_bindC (dPut_ok hd a.p t a.m) fun v J2 hv => ?_
 obtain ⟨rfl, ⟨c2, d2⟩, f2⟩ := hv
 have hA2 : J2[ab]? = some (.cells 0 a.c false) := by rw [f2.2 ab (lt_get hA) (by simp; exact n4)]; exact hA
 have s1 := fun t => isame_sc (t := t) (show ird J ab 0 1 1 = some [.sc (.int .i64 a.p)] by simp only [ird, hA]; rfl) (show ird J2 ab 0 1 1 = some [.sc (.int .i64 a.p)] by simp only [ird, hA2]; rfl)
 have s2 := fun t => isame_sc (t := t) (show ird J ab 0 4 1 = some [.sc (.int .u32 (a.m.toNat : Int))] by simp only [ird, hA]; rfl) (show ird J2 ab 0 4 1 = some [.sc (.int .u32 (a.m.toNat : Int))] by simp only [ird, hA2]; rfl)
 refine ⟨by simp -implicitDefEqProofs only [go_sem, go_sem_proc, ↓s1, ↓s2], ?_⟩
 have hr2 : RAt J2 rb g x y out d.tk l := hr.fr f2 (by simp; exact fun h => n2 h.symm) (fun q hq hm => by simp at hm; subst hm; exact o2 hq)
 simp -implicitDefEqProofs only [go_sem, go_sem_proc, hA2, inb hA2]
 refine WP_call (rPut_ok hr2 hG.gr hG.wf hG.cl hB.fit a.p t a.m c (by have := hB.len; omega) (by have := hB.tk; omega)) fun v J3 hv => ?_
 obtain ⟨rfl, out', r3, f3, hl3⟩ := hv
 simp -implicitDefEqProofs only [go_sem, go_sem_proc, show ((dErr d l a.p t a.m) != (dErr d l a.p t a.m)) = false by simp]
 have hlow : ∀ q, q < J2.size → q ∉ blk out → q ∉ blk out' := fun q hq hn hm => by
  rcases hl3 q hm with h | h
  ·exact hn h
  ·omega
 have hd3 : DeskAt J3 db mb c2 d (dPut d l a.p t a.m c) := d2.fr f3 (by simp; exact ⟨n1, o1⟩) (by simp; exact ⟨n2, o2⟩)
 refine hK J3 d (dPut d l a.p t a.m c) ⟨⟨c2, out', hd3, r3, hlow _ (lt_get d2.cells) o1, hlow _ (lt_get d2.map) o2, hlow _ (lt_get hA2) o3⟩, ?_, hB.ne, hB.di.put _ _ _ _, hB.fit, ?_, by have := hB.tk; omega⟩
 ·rw [f3.2 ab (lt_get hA2) (by simp; exact ⟨n5, o3⟩)]; exact hA2
 ·have := hB.len
  unfold dPut; split
  ·simp; omega
  ·omega
theorem act_drop : WP (dn BI l_law14_DeskPlays_k1 [.ptr db 0 0, .ptr rb 0 0, .ptr ab 0 0, acts, nI len, nI i, .int .u8 6, .sc (.bool false)] J) K := by
 obtain ⟨c, out, hd, hr, o1, o2, o3⟩ := hB.ex
 obtain ⟨n1, n2, n3, n4, n5⟩ := hB.ne
 have hA := hB.act
 have htk := hB.tk
 have hln := hB.len
 have h8 := hTicks_8 hB.di a.p (by omega)
 unfold l_law14_DeskPlays_k1
 simp -implicitDefEqProofs only [go_sem, go_sem_proc, hA, inb hA, ↓dnW_och, show ((6 : Int) == 6) = true by decide]
 refine WP_bindC (dDrop_ok hd a.p (by omega) (by omega)) fun v J2 hv => ?_
 obtain ⟨rfl, d2, f2⟩ := hv
 have hA2 : J2[ab]? = some (.cells 0 a.c false) := by rw [f2.2 ab (lt_get hA) (by simp; exact n4)]; exact hA
 have s1 := fun t => isame_sc (t := t) (show ird J ab 0 1 1 = some [.sc (.int .i64 a.p)] by simp only [ird, hA]; rfl) (show ird J2 ab 0 1 1 = some [.sc (.int .i64 a.p)] by simp only [ird, hA2]; rfl)
 refine ⟨by simp -implicitDefEqProofs only [go_sem, go_sem_proc, ↓s1], ?_⟩
 have hr2 : RAt J2 rb g x y out d.tk l := hr.fr f2 (by simp; exact fun h => n2 h.symm) (fun q hq hm => by simp at hm; subst hm; exact o2 hq)
 simp -implicitDefEqProofs only [go_sem, go_sem_proc, hA2, inb hA2]
 refine WP_call (rDrop_ok hr2 hG.gr a.p (by omega)) fun v J3 hv => ?_
 obtain ⟨rfl, out', r3, f3, hl3⟩ := hv
 simp -implicitDefEqProofs only [go_sem, go_sem_proc, show (((hTicks l a.p).length : Int) != ((hTicks l a.p).length : Int)) = false by simp]
 have hlow : ∀ q, q < J2.size → q ∉ blk out' := fun q hq hm => by have := hl3 q hm; omega
 refine hK J3 d (dropL l a.p) ⟨⟨c, out', d2.fr f3 (by simp; exact n1) (by simp; exact n2), r3, hlow _ (lt_get d2.cells), hlow _ (lt_get d2.map), hlow _ (lt_get hA2)⟩, ?_, hB.ne, hB.di.drop _, hB.fit, ?_, by omega⟩
 ·rw [f3.2 ab (lt_get hA2) (by simp; exact n5)]; exact hA2
 ·have : (dropL l a.p).length ≤ l.length := List.length_filter_le _ _
  omega
theorem act_take (q : Int) : WP (dn BI l_law14_DeskPlays_k1 [.ptr db 0 0, .ptr rb 0 0, .ptr ab 0 0, acts, nI len, nI i, .int .u8 q, .sc (.bool true)] J) K := by
 obtain ⟨c, out, hd, hr, o1, o2, o3⟩ := hB.ex
 obtain ⟨n1, n2, n3, n4, n5⟩ := hB.ne
 have hA := hB.act
 have htk := hB.tk
 have hln := hB.len
 obtain ⟨P, hP, hP6, hPr, hP0⟩ := hB.fit.P
 have hw : d.tk.toNat + 1 < 4294967296 := by omega
 have htn : (d.tk + 1#32).toNat = d.tk.toNat + 1 := by simp; omega
 unfold l_law14_DeskPlays_k1
 simp -implicitDefEqProofs only [go_sem, go_sem_proc]
 refine WP_call (dTake_ok hd P hP (by omega)) fun v J2 hv => ?_
 obtain ⟨q2, l2, d2, f2⟩ := hv
 rw [hB.di.take P hP hw] at d2
 rw [takeO_eq, hB.fit.us] at q2
 have hlw := hd.cells
 have hA2 : J2[ab]? = some (.cells 0 a.c false) := by rw [f2.2 ab (lt_get hA) (by simp; exact ⟨n3, n4⟩)]; exact hA
 have hr2 : RAt J2 rb g x y out d.tk l := hr.fr f2 (by simp; exact ⟨fun h => n1 h.symm, fun h => n2 h.symm⟩) (fun q hq hm => by
  simp at hm; rcases hm with rfl | rfl
  ·exact o1 hq
  ·exact o2 hq)
 have hsz := f2.1
 have hv2 : ∀ q ∈ blk v, q ≠ rb := fun q hq e => by have := l2 q hq; have := lt_get hr.cells; omega
 simp -implicitDefEqProofs only [go_sem, go_sem_proc]
 refine WP_call (rTake_ok hr2 hG.gr hG.wf hG.cl (by omega) P (fun h => ⟨hPr h, by omega⟩)) fun v2 J3 hv => ?_
 have hLl : (leftL l (d.tk + 1#32)).length ≤ l.length := List.length_filter_le _ _
 have hmi : ∀ L : List (BitVec 32), ∀ v ∈ L.map m32, ∃ t : Int, v = .int .u32 t := fun L v hv => by
  obtain ⟨z, _, rfl⟩ := List.mem_map.1 hv; exact ⟨_, rfl⟩
 have hmp : ∀ L : List (BitVec 32), ipureL (L.map m32) = true := fun L => ipureL_iff.2 fun v hv => by
  obtain ⟨z, _, rfl⟩ := List.mem_map.1 hv; rfl
 have fin : ∀ J3 out', RAt J3 rb g x y out' (d.tk + 1#32) (leftL l (d.tk + 1#32)) → Fr J2 J3 [rb] → (∀ q, q < J2.size → q ∉ blk out → q ∉ blk out') → K (.goto 2 [.ptr db 0 0, .ptr rb 0 0, .ptr ab 0 0, acts, nI len, nI i]) J3 := fun J3 out' r3 f3 hlow => by
  refine hK J3 { d with tk := d.tk + 1#32 } (leftL l (d.tk + 1#32)) ⟨⟨c, out', d2.fr f3 (by simp; exact n1) (by simp; exact n2), r3, hlow _ (lt_get d2.cells) o1, hlow _ (lt_get d2.map) o2, hlow _ (lt_get hA2) o3⟩, ?_, hB.ne, hB.di.left hw, ⟨hB.fit.pl, hB.fit.mv, hB.fit.us, rfl⟩, by omega, by simp only [htn]; omega⟩
  rw [f3.2 ab (lt_get hA2) (by simp; exact n5)]; exact hA2
 rcases hv with ⟨hR, rfl, r3, f3⟩ | ⟨hR, q3, l3, out', r3, f3, hl3⟩
 ·obtain rfl := hP0 hR
  have q3 := q2.fr f3 (fun q hq hm => by simp at hm; exact hv2 q hq hm)
  obtain ⟨u, hu, hul⟩ := q3.frzE1 (hmp _) (m32_1 _)
  have hemp : rTakeO l g.dflt (d.tk + 1#32) 0 = [] := rfl
  rw [hemp] at hul
  have hl0 : l = [] := by
   cases l with
   | nil => rfl
   | cons z l =>
    obtain ⟨a1, a2, _⟩ := hB.di.low z (by simp)
    rw [hP] at a2; omega
  simp -implicitDefEqProofs only [go_sem, go_sem_proc]
  refine WP_callZ (as := [u, .sc (.slice none 0 0)]) ?_ (Equal32_ok hul .nil (by simp) (by simp)) rfl ?_
  ·have hu' : frz J3 DEP v = some u := hu 11
   rw [List.mapM_cons, List.mapM_cons, hu', frz_pure _ _ rfl]; rfl
  ·simp -implicitDefEqProofs only [go_sem, go_sem_proc]
   subst hl0
   exact fin J3 out r3 f3 (fun _ _ h => h)
 ·have q2' := q2.fr f3 (fun q hq hm => by simp at hm; exact hv2 q hq hm)
  obtain ⟨u, hu, hul⟩ := q2'.frzE1 (hmp _) (m32_1 _)
  obtain ⟨u2, hu2, hul2⟩ := q3.frzE1 (hmp _) (m32_1 _)
  simp -implicitDefEqProofs only [go_sem, go_sem_proc]
  refine WP_callZ (as := [u, u2]) ?_ (Equal32_ok hul hul2 (hmi _) (by simp [rTakeO]; omega)) rfl ?_
  ·have hu' : frz J3 DEP v = some u := hu 11
   have hu2' : frz J3 DEP v2 = some u2 := hu2 11
   rw [List.mapM_cons, List.mapM_cons, hu', hu2']; rfl
  ·simp -implicitDefEqProofs only [go_sem, go_sem_proc]
   exact fin J3 out' r3 f3 (fun q hq _ hm => by have := (hl3 q hm).1; omega)
end
end Go.Proofs.Ytmlhdkamogjbbaa.G
namespace Go.Proofs.Ytmlhdkamogjbbaa.G
open Go
theorem nL_u (l : List Nat) : ∀ v ∈ nL l, ∃ t : Int, v = .int .u32 t := fun v hv => by
 obtain ⟨z, _, rfl⟩ := List.mem_map.1 hv; exact ⟨_, rfl⟩
theorem nL_pure (l : List Nat) : ipureL (nL l) = true := ipureL_iff.2 fun v hv => by
 obtain ⟨z, _, rfl⟩ := List.mem_map.1 hv; rfl
theorem nL_one (l : List Nat) : (nL l).all ione = true := by simp [nL, ione, one]
section
variable {J : JH} {ab : Nat} {a : Ac} {db mb rb : Nat} {g : Gm} {x y : IV} {d : Dk} {l : List Mv} {n : Nat} (hB : Bo J ab a db mb rb g x y d l n) (hn : n ≤ 200)
include hB hn
theorem both_held (p : Int) {k : L} {ρ : List IV} {K : Out IV → JH → Prop} {v : IV} (hv : Ls 1 v (uL (sortI (hTicks l p)))) (h : ∀ J' v2, Bo J' ab a db mb rb g x y d l n → (∀ k ρ K, WP (dn BI k (ρ ++ [.sc (.bool true)]) J') K → WP (thenD (doCall (ic BI) .pure F_slices_Equal_Luint32_uint32 [v, v2] J') k ρ) K) → WP (dn BI k (ρ ++ [v2]) J') K) :
  WP (thenD (doCall (ic BI) .raw F_ref14_Held [.ptr rb 0 0, .int .i64 p] J) k ρ) K := by
 obtain ⟨c, out, hd, hr, o1, o2, o3⟩ := hB.ex
 have htk := hB.tk
 have hln := hB.len
 refine WP_call (rHeld_ok hr p (by omega) (by omega)) fun v2 J2 hv2 => ?_
 obtain ⟨q2, l2, f2⟩ := hv2
 have hB2 : Bo J2 ab a db mb rb g x y d l n := ⟨⟨c, out, hd.fr f2 (by simp) (by simp), hr.fr f2 (by simp) (by simp), o1, o2, o3⟩, by rw [f2.2 ab (lt_get hB.act) (by simp)]; exact hB.act, hB.ne, hB.di, hB.fit, hB.len, hB.tk⟩
 refine h J2 v2 hB2 fun k ρ K hk => ?_
 rw [held_same hB.di p (by omega)] at hv
 obtain ⟨u, hu, hul⟩ := q2.frzE1 (nL_pure _) (nL_one _)
 refine WP_callZ (as := [v, u]) ?_ (Equal32_ok hv hul (nL_u _) (by have := hL_len l p d.tk.toNat 8; simp [nL]; omega)) rfl hk
 have hu' : frz J2 DEP v2 = some u := hu 11
 rw [List.mapM_cons, List.mapM_cons, hu', frz_pure _ _ hv.pure]; rfl
theorem act_end (acts : IV) (len i : Nat) (hi : i + 1 ≤ 1000000) (K : Out IV → JH → Prop) (hK : ∀ J', Bo J' ab a db mb rb g x y d l n → K (.goto 1 [.ptr db 0 0, .ptr rb 0 0, acts, nI len, nI (i + 1)]) J') :
  WP (dn BI l_law14_DeskPlays_k2 [.ptr db 0 0, .ptr rb 0 0, .ptr ab 0 0, acts, nI len, nI i] J) K := by
 obtain ⟨c, out, hd, hr, o1, o2, o3⟩ := hB.ex
 obtain ⟨n1, n2, n3, n4, n5⟩ := hB.ne
 have hA := hB.act
 have htk := hB.tk
 have hln := hB.len
 have hc := hr.cells
 have hw1 := wrapS (show i < i + 1 by omega) (show i + 1 ≤ 9223372036854775807 by omega)
 have h8 := fun p => hTicks_8 hB.di p (show d.tk.toNat + 8 < 4294967296 by omega)
 unfold l_law14_DeskPlays_k2
 simp -implicitDefEqProofs only [go_sem, go_sem_proc, hc, inb hc, ↓dnW_och]
 refine WP_bindC (dTick_ok hd) fun v J2 hv => ?_
 obtain ⟨rfl, rfl⟩ := hv
 have s1 := fun t => isame_sc (t := t) (show ird J2 rb 0 7 1 = some [.sc (.int .u32 (d.tk.toNat : Int))] by simp only [ird, hc]; rfl) (show ird J2 rb 0 7 1 = some [.sc (.int .u32 (d.tk.toNat : Int))] by simp only [ird, hc]; rfl)
 refine ⟨by simp -implicitDefEqProofs only [go_sem, go_sem_proc, ↓s1], ?_⟩
 simp -implicitDefEqProofs only [go_sem, go_sem_proc, show ((d.tk.toNat : Int) != (d.tk.toNat : Int)) = false by simp, hA, inb hA, ↓dnW_och]
 refine WP_bindC (dHeld_ok hd a.p (by omega) (by have := h8 a.p; omega)) fun v J3 hv => ?_
 obtain ⟨hv, rfl⟩ := hv
 have s2 := fun t => isame_sc (t := t) (show ird J3 ab 0 1 1 = some [.sc (.int .i64 a.p)] by simp only [ird, hA]; rfl) (show ird J3 ab 0 1 1 = some [.sc (.int .i64 a.p)] by simp only [ird, hA]; rfl)
 refine ⟨by simp -implicitDefEqProofs only [go_sem, go_sem_proc, ↓s2], ?_⟩
 simp -implicitDefEqProofs only [go_sem, go_sem_proc, hA, inb hA]
 refine both_held hB hn a.p hv fun J4 v2 hB4 he => ?_
 simp -implicitDefEqProofs only [go_sem, go_sem_proc]
 refine he _ _ _ ?_
 simp -implicitDefEqProofs only [go_sem, go_sem_proc]
 obtain ⟨c4, out4, hd4, _⟩ := hB4.ex
 refine WP_call (dHeld_ok hd4 0 (by omega) (by have := h8 0; omega)) fun v5 J5 hv => ?_
 obtain ⟨hv5, rfl⟩ := hv
 simp -implicitDefEqProofs only [go_sem, go_sem_proc]
 refine both_held hB4 hn 0 hv5 fun J6 v6 hB6 he6 => ?_
 simp -implicitDefEqProofs only [go_sem, go_sem_proc]
 refine he6 _ _ _ ?_
 simp -implicitDefEqProofs only [go_sem, go_sem_proc, hw1]
 exact hK J6 hB6
end
end Go.Proofs.Ytmlhdkamogjbbaa.G
namespace Go.Proofs.Ytmlhdkamogjbbaa.G
open Go
theorem Gm.dk_fits (g : Gm) : Fits g.dk g g.dk.tk := ⟨rfl, rfl, rfl, rfl⟩
theorem act_ok {J : JH} {db mb rb : Nat} {g : Gm} {x y : IV} {d : Dk} {l : List Mv} {i : Nat} (hG : GK g x y) (acts : IV) (as : List Ac) (ha : Ls 5 acts (as.map Ac.e)) (hl : as.length ≤ 9223372036854775807) (hi : i ≤ 60) (hli : i ≤ as.length)
  (ex : ∃ c out, DeskAt J db mb c d l ∧ RAt J rb g x y out d.tk l ∧ db ∉ blk out ∧ mb ∉ blk out) (ne : db ≠ rb ∧ mb ≠ rb) (di : DI d l) (fit : Fits d g d.tk) (len : l.length ≤ i) (tk : d.tk.toNat ≤ i) (K : Out IV → JH → Prop)
  (h0 : ∀ J', K (.goto 0 []) J')
  (h1 : i < 60 → i < as.length → ∀ J' d' l' ab a, Bo J' ab a db mb rb g x y d' l' (i + 1) → K (.goto 1 [.ptr db 0 0, .ptr rb 0 0, acts, nI as.length, nI (i + 1)]) J') :
  WP (dn BI l_law14_DeskPlays_k3 [.ptr db 0 0, .ptr rb 0 0, acts, nI as.length, nI i] J) K := by
 unfold l_law14_DeskPlays_k3
 by_cases hlt : i < as.length
 ·have hat := ha.at (i := i) (by simpa using hlt) (J := J)
  simp only [List.getElem_map, Ac.e] at hat
  generalize as[i] = a at *
  have z0 : (a.c.drop 0).take 5 = a.c := rfl
  by_cases h60 : i ≥ 60
  ·simp -implicitDefEqProofs only [go_sem, go_sem_proc, show ((i : Int) < (as.length : Int)) by omega, hat, z0, show ((i : Int) ≥ 60) by omega]
   exact h0 _
  ·obtain ⟨c, out, hd, hr, o1, o2⟩ := ex
   have hB : Bo (J.push (.cells 0 a.c false)) J.size a db mb rb g x y d l i := ⟨⟨c, out, hd.fr (Fr.push _ _ []) (by simp) (by simp), hr.fr (Fr.push _ _ []) (by simp) (by simp), o1, o2, fun hm => by have := hr.grow.low _ hm; omega⟩, push_get _ _, ⟨ne.1, ne.2, Nat.ne_of_gt (lt_get hd.cells), Nat.ne_of_gt (lt_get hd.map), Nat.ne_of_gt (lt_get hr.cells)⟩, di, fit, len, tk⟩
   have c0 : ((i : Int) < (as.length : Int)) := by omega
   have c6 : ¬ ((i : Int) ≥ 60) := by omega
   have fin : ∀ K2 : Out IV → JH → Prop, (∀ vs J, WP (dn BI l_law14_DeskPlays_k2 vs J) K → K2 (.goto 2 vs) J) → ∀ J' d' l', Bo J' J.size a db mb rb g x y d' l' (i + 1) → K2 (.goto 2 [.ptr db 0 0, .ptr rb 0 0, .ptr J.size 0 0, acts, nI as.length, nI i]) J' := fun K2 m1 J' d' l' hB' => m1 _ _ (act_end hB' (by omega) acts as.length i (by omega) K fun J2 hB2 => h1 (by omega) hlt J2 d' l' _ a hB2)
   have hA := hB.act
   have hdm : (a.d.toNat : Int).tmod 7 = ((a.d.toNat % 7 : Nat) : Int) := by rw [Int.tmod_eq_emod_of_nonneg (by omega)]; omega
   have hd7 : a.d.toNat % 7 < 7 := Nat.mod_lt _ (by omega)
   generalize a.d.toNat % 7 = q at *
   have hwq : IntKind.u8.wrap (q : Int) = (q : Int) := by simp only [IntKind.wrap, IntKind.bits, IntKind.signed]; simp; omega
   by_cases q4 : q = 4
   ·subst q4
    simp -implicitDefEqProofs only [go_sem, go_sem_proc, c0, hat, z0, c6, hA, inb hA, hdm, hwq, show ((7 : Int) == 0) = false by decide, show (((4 : Nat) : Int) == 4) = true by decide]
    refine WP_join fun K2 m1 m2 m3 => ?_
    exact act_take hB hG (by omega) acts as.length i K2 (fin K2 m1) _
   by_cases q5 : q = 5
   ·subst q5
    simp -implicitDefEqProofs only [go_sem, go_sem_proc, c0, hat, z0, c6, hA, inb hA, hdm, hwq, show ((7 : Int) == 0) = false by decide, show (((5 : Nat) : Int) == 4) = false by decide, show (((5 : Nat) : Int) == 5) = true by decide]
    refine WP_join fun K2 m1 m2 m3 => ?_
    exact act_take hB hG (by omega) acts as.length i K2 (fin K2 m1) _
   by_cases q6 : q = 6
   ·subst q6
    simp -implicitDefEqProofs only [go_sem, go_sem_proc, c0, hat, z0, c6, hA, inb hA, hdm, hwq, show ((7 : Int) == 0) = false by decide, show (((6 : Nat) : Int) == 4) = false by decide, show (((6 : Nat) : Int) == 5) = false by decide]
    refine WP_join fun K2 m1 m2 m3 => ?_
    exact act_drop hB hG (by omega) acts as.length i K2 (fin K2 m1)
   ·have hput := fun K2 m1 t => act_put hB hG (by omega) acts as.length i K2 (fin K2 m1) t
    obtain ⟨c, out, hd, hr, o1, o2, o3⟩ := hB.ex
    have hc := hr.cells
    have b4 : ((q : Int) == 4) = false := by simp; omega
    have b5 : ((q : Int) == 5) = false := by simp; omega
    have b6 : ((q : Int) == 6) = false := by simp; omega
    have hr12 : (a.t.toNat : Int).tmod 12 = ((a.t.toNat % 12 : Nat) : Int) := by rw [Int.tmod_eq_emod_of_nonneg (by omega)]; omega
    have hw12 : IntKind.u32.wrap ((a.t.toNat % 12 : Nat) : Int) = ((a.t.toNat % 12 : Nat) : Int) := wrap_u32 (by omega) (by omega)
    obtain ⟨T, hT⟩ : ∃ T : BitVec 32, IntKind.u32.wrap (IntKind.u32.wrap ((d.tk.toNat : Int) + ((a.t.toNat % 12 : Nat) : Int)) - 2) = (T.toNat : Int) := by
     have h := u32_rng (IntKind.u32.wrap ((d.tk.toNat : Int) + ((a.t.toNat % 12 : Nat) : Int)) - 2)
     exact ⟨BitVec.ofNat 32 (IntKind.u32.wrap (IntKind.u32.wrap ((d.tk.toNat : Int) + ((a.t.toNat % 12 : Nat) : Int)) - 2)).toNat, by rw [BitVec.toNat_ofNat]; omega⟩
    cases hN : a.n with
    | true =>
     simp -implicitDefEqProofs only [go_sem, go_sem_proc, c0, hat, z0, c6, hA, inb hA, hdm, hwq, show ((7 : Int) == 0) = false by decide, b4, b5, l_law14_DeskPlays_k1, b6, hN, hc, inb hc, hr12, show ((12 : Int) == 0) = false by decide, hw12, hT]
     refine WP_join fun K2 m1 m2 m3 => ?_
     exact hput K2 m1 T
    | false =>
     simp -implicitDefEqProofs only [go_sem, go_sem_proc, c0, hat, z0, c6, hA, inb hA, hdm, hwq, show ((7 : Int) == 0) = false by decide, b4, b5, l_law14_DeskPlays_k1, b6, hN]
     refine WP_join fun K2 m1 m2 m3 => ?_
     exact hput K2 m1 a.t
 ·simp -implicitDefEqProofs only [go_sem, go_sem_proc, show ¬ ((i : Int) < (as.length : Int)) by omega]
  exact h0 _
theorem Plays14_ok (g : Gm) (x y : IV) (h : GR g x y) (hw : ∀ c ∈ g.code, c.wf) (hc : g.cells.length ≤ 9223372036854775807) (hd : g.code.length ≤ 9223372036854775807) (acts : IV) (as : List Ac) (ha : Ls 5 acts (as.map Ac.e)) (hl : as.length ≤ 9223372036854775807) :
  pc BI F_law14_DeskPlays [.agg (gmc g x y), acts] = some (.bool true) := by
 refine pcE fn_law14_DeskPlays rfl fun K hK => ?_
 unfold l_law14_DeskPlays
 obtain ⟨u, hu, x2, y2, rfl, h2⟩ := gfew_ok g x y h hc hd
 have hw2 : ∀ c ∈ g.few.code, c.wf := fun c hc => hw c (List.mem_of_mem_take hc)
 have hc2 : g.few.cells.length ≤ 100000 := by simp [Gm.few]; omega
 have hd2 : g.few.code.length ≤ 100000 := by simp [Gm.few]; omega
 obtain ⟨u4, hu4, x4, y4, rfl, h4⟩ := own14_ok g.few x2 y2 h2 hc2 hd2
 generalize g.few = G at *
 have irp : ∀ a b : IV, ipure a = true → ipure b = true → irefsL [.agg (gmc G a b)] = [] := fun a b h1 h2 => by
  refine irefsL_pure _ ?_
  simp [ipureL, ipure, gmc, h1, h2]
 have hnil := fun J => reach_nil (J := J) (irp x2 y2 h2.x.pure h2.y.pure)
 simp -implicitDefEqProofs only [go_sem, go_sem_proc, h.one, h2.one, dcp awake14 rfl, dcp hu (by simp [ipureL, ipure, h.pure]), set_get, ↓dnW_och]
 have h0 : (#[IB.cells 0 (gmc G x2 y2) false] : JH)[0]? = some (.cells 0 (gmc G x2 y2) false) := rfl
 rw [hnil]
 refine WP_bindC (dNew_ok G x2 y2 h2 hw2 (by omega) _) fun v J1 hv => ?_
 obtain ⟨db, mb, rfl, hb, hm, a1, f1⟩ := hv
 have h01 : J1[0]? = some (.cells 0 (gmc G x2 y2) false) := by rw [f1.2 0 (by simp) (by simp)]; exact h0
 refine ⟨by simp -implicitDefEqProofs only [go_sem, go_sem_proc, h01], ?_⟩
 have hG : GK G x4 y4 := ⟨h4, hw2, by omega⟩
 simp -implicitDefEqProofs only [go_sem, go_sem_proc, h2.one, dcp hu4 (by simp [ipureL, ipure, h2.pure]), h4.one]
 have e53 : (gmc G x4 y4 ++ [IV.sc (.slice none 0 0), IV.sc (.int .u32 0)]) = rdc G x4 y4 (.sc (.slice none 0 0)) 0#32 := rfl
 have ho := rd_one (tk := 0#32) (out := .sc (.slice none 0 0)) h4 rfl
 rw [e53]
 have hal := ha.lenF (J := J1.push (.cells 0 (rdc G x4 y4 (.sc (.slice none 0 0)) 0#32) false))
 rw [List.length_map] at hal
 simp -implicitDefEqProofs only [go_sem, go_sem_proc, ho, hal, dn_loop]
 have hfr := Fr.push J1 (.cells 0 (rdc G x4 y4 (.sc (.slice none 0 0)) 0#32) false) []
 have a2 := a1.fr hfr (by simp) (by simp)
 have r2 : RAt (J1.push (.cells 0 (rdc G x4 y4 (.sc (.slice none 0 0)) 0#32) false)) J1.size G x4 y4 (.sc (.slice none 0 0)) G.dk.tk [] := ⟨push_get _ _, .nil, by simp [blk, blkOf]⟩
 have n1 := lt_get a1.cells
 have n2 := lt_get a1.map
 generalize J1.push (.cells 0 (rdc G x4 y4 (.sc (.slice none 0 0)) 0#32) false) = J2 at *
 generalize J1.size = rb at *
 refine WP_range (by decide) 60 (fun i vs J => i ≤ as.length ∧ vs = [.ptr db 0 0, .ptr rb 0 0, acts, nI as.length, nI i] ∧ ∃ d l, (∃ c out, DeskAt J db mb c d l ∧ RAt J rb G x4 y4 out d.tk l ∧ db ∉ blk out ∧ mb ∉ blk out) ∧ DI d l ∧ Fits d G d.tk ∧ l.length ≤ i ∧ d.tk.toNat ≤ i) ?_ ⟨by omega, rfl, G.dk, [], ⟨0, _, a2, r2, by simp [blk, blkOf], by simp [blk, blkOf]⟩, .nil _, G.dk_fits, by simp, by simp [Gm.dk]⟩
 rintro i vs J ⟨hli, rfl, d, l, ex, di, fit, len, tk⟩ hi K1 g1 g2 g3
 refine act_ok hG acts as ha hl hi hli ex ⟨by omega, by omega⟩ di fit len tk K1 (fun J' => g2 _ _ ?_) (fun h60 hla J' d' l' ab a hB => ?_)
 ·unfold l_law14_DeskPlays_k4
  simp -implicitDefEqProofs only [go_sem, go_sem_proc]
  exact hK _ _ (frzP rfl)
 ·obtain ⟨c, out, q1, q2, q3, q4, _⟩ := hB.ex
  exact g1 h60 _ _ ⟨hla, rfl, d', l', ⟨c, out, q1, q2, q3, q4⟩, hB.di, hB.fit, hB.len, hB.tk⟩
end Go.Proofs.Ytmlhdkamogjbbaa.G
