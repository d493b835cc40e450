/- Joined: Y7 to YD1. -/
import Derived.Test.YticfcmaigffhmaaGreatXH
set_option linter.unusedVariables false
set_option linter.unusedSimpArgs false
set_option maxRecDepth 20000
set_option maxHeartbeats 2000000
namespace Go.Proofs.YticfcmaigffhmaaGreat.G
open Go
theorem tapeB_le {g : Gm} (hr : g.right = true) (o : Int) {ds : List Dl} (h : ∀ d ∈ ds, d.ps.length ≤ 48) (hl : ds.length ≤ 10) : (tapeB g o ds).length ≤ 10000 := by
 have h1 := gameB_len hr
 have h2 := blobB_len (gameB g)
 have h3 := numL_len 9 ds.length
 have h4 := tapeS_len h
 have e8 : magicB.length = 8 := rfl
 simp only [tapeB, tapeL, List.length_append, tail4_len, List.length_cons, List.length_nil, e8]
 omega
theorem full_step {g : Gm} {o : Int} {a b : Bd} (ha : a.l.length = g.cells.length) (hb : b.l.length = g.cells.length) (hva : a.view o = a) (t : BitVec 32) : applyF (ofF b (BitVec.allOnes 64) o t b.l.length) a = (b.view o, 0) := by
 have := apply_step a b (by omega) (BitVec.allOnes 64) (fun i hi => by
  have h64 : 64 ≤ i := by
   rw [BitVec.getLsbD_allOnes] at hi
   simpa using hi
  have h1 := a.h
  have h2 := b.h
  rw [List.getElem?_eq_none (by omega), List.getElem?_eq_none (by omega)]) o t
 rw [hva] at this
 exact this
structure VJ (J : JH) (M : Nat) (g : Gm) (o : Int) (r cu : Nat) (s : IV) (x5 y5 x6 y6 : IV) (ws : List (Bd × BitVec 32)) (k : Nat) (hk : k < ws.length) (sk : IV) (dk : List (Dl × IV × IV)) : Prop where
 reel : ReelAt J r g x5 y5 o s ws
 own : TapeAt J cu g x6 y6 o ws[k].1 ws[k].2 sk dk
 len : dk.length = k + 1
 far : ∀ q ∈ cu :: blk sk, M ≤ q
 f2 : ∀ q ∈ r :: blk s, q < M
 hM : M ≤ J.size
theorem show_views (g : Gm) (hr : g.right = true) (hw : ∀ c ∈ g.code, c.wf) (o : Int) (ho : 0 ≤ o ∧ o < g.obs) {J : JH} {r : Nat} {x y s : IV} {ws : List (Bd × BitVec 32)} (h : ReelAt J r g x y o s ws) (hne : ws ≠ []) (hl : ws.length ≤ 65536) (hA : AllN g o ws) (z : IV) (nn i : Int) (K : Out IV → JH → Prop) (hK : ∀ J', K (.goto 4 [z, .int .i64 nn, .int .i64 i]) J') :
  WP (dn BI l_law20_ReplayShows_k3 [.ptr r 0 0, z, .int .i64 nn, .int .i64 i] J) K := by
 unfold l_law20_ReplayShows_k3
 have hpos : 0 < ws.length := List.length_pos_iff.2 hne
 obtain ⟨⟨e1, e2⟩, _⟩ := hA 0 hpos
 simp -implicitDefEqProofs only [go_sem, dnW_ite, go_sem_proc]
 refine WP_call (rView_ok h 0 hpos) fun w J5 hv => ?_
 obtain ⟨rfl, f5⟩ := hv
 have hR5 := h.fr f5 (by simp) (by simp)
 have hvw : vwc ws[0] = stc ws[0].1 0 (ws[0].2.toNat : Int) := rfl
 rw [hvw]
 obtain ⟨b0, hb0⟩ : ∃ b0, b0 = ws[0].1 := ⟨_, rfl⟩
 obtain ⟨t0, ht0⟩ : ∃ t0, t0 = ws[0].2 := ⟨_, rfl⟩
 rw [← hb0] at e1 e2
 rw [← hb0, ← ht0]
 simp -implicitDefEqProofs only [go_sem, dnW_ite, go_sem_proc, sta_z, ↓dnW_ocr]
 have hR6 := hR5.fr (.push J5 (.cells 0 (stc b0 0 (t0.toNat : Int)) false) []) (by simp) (by simp)
 have hB6 : (J5.push (.cells 0 (stc b0 0 (t0.toNat : Int)) false))[J5.size]? = some (.cells 0 (stc b0 0 (t0.toNat : Int)) false) := push_get _ _
 have hlo5 := hR5.lo
 have hcn : (r :: blk s).contains J5.size = false := by
  have : J5.size ∉ r :: blk s := fun hm => by have := hlo5 _ hm; omega
  simpa using this
 obtain ⟨c48, _, _, _, c96⟩ := right_48 hr
 generalize J5.push (.cells 0 (stc b0 0 (t0.toNat : Int)) false) = J6 at *
 rw [hR6.reach]
 refine WP_bindC (rGame_ok hR6 c48 c96) fun w J7 hv => ?_
 obtain ⟨⟨v1, v2, rfl, hg7⟩, f7⟩ := hv
 have hR7 := hR6.fr f7 (by simp) (by simp)
 have hB7 : J7[J5.size]? = _ := (f7.2 _ (lt_get hB6) (by simp)).trans hB6
 refine ⟨by simp -implicitDefEqProofs only [go_sem, dnW_ite, go_sem_proc, hB6, hB7, hcn], ?_⟩
 simp -implicitDefEqProofs only [go_sem, dnW_ite, go_sem_proc, ↓dnW_ocr]
 rw [hR7.reach]
 refine WP_bindC (rObs_ok hR7) fun w J8 hv => ?_
 obtain ⟨rfl, rfl⟩ := hv
 refine ⟨by simp -implicitDefEqProofs only [go_sem, dnW_ite, go_sem_proc, hB7, hcn], ?_⟩
 simp -implicitDefEqProofs only [go_sem, dnW_ite, go_sem_proc]
 refine WP_call (tNew_ok g v1 v2 hg7 hr hw o ho b0 e1 0 t0 _) fun w1 J9 hv => ?_
 obtain ⟨cu, x6, y6, x7, y7, rfl, s9, f9, T9⟩ := hv
 have hR8 := hR7.fr f9 (by simp) (by simp)
 have lo2 := hR7.lo
 rw [e2] at T9
 have hV0 : VJ J9 J8.size g o r cu s x y x6 y6 ws 0 hpos (.lst 4 true [.agg (dlc (ofF b0 (BitVec.allOnes 64) o t0 b0.l.length) x7 y7)]) [(ofF b0 (BitVec.allOnes 64) o t0 b0.l.length, x7, y7)] :=
  ⟨hR8, by rw [← hb0, ← ht0]; exact T9, rfl, fun q hq => by simp [blk, blkOf] at hq; omega, lo2, f9.1⟩
 simp -implicitDefEqProofs only [go_sem, dnW_ite, go_sem_proc, dn_loop]
 refine WP_range (by decide) (ws.length - 1) (fun k vs J' => ∃ (hk : k < ws.length) (sk : IV) (dk : List (Dl × IV × IV)), vs = [.ptr r 0 0, .ptr cu 0 0, nI (k + 1), z, .int .i64 nn, .int .i64 i] ∧ VJ J' J8.size g o r cu s x y x6 y6 ws k hk sk dk) ?_ ⟨hpos, _, _, rfl, hV0⟩
 rintro k vs J10 ⟨hk, sk, dk, rfl, hV⟩ hki K2 q1 q2 q3
 unfold l_law20_ReplayShows_k1
 simp -implicitDefEqProofs only [go_sem, dnW_ite, go_sem_proc]
 refine WP_call (rLen_ok hV.reel) fun v J11 hv => ?_
 obtain ⟨rfl, rfl⟩ := hv
 by_cases hk2 : k + 1 < ws.length
 ·obtain ⟨⟨a1, a2⟩, _⟩ := hA k hk
  obtain ⟨⟨b1, b2⟩, b3⟩ := hA (k + 1) hk2
  have b3 := b3 (by omega)
  simp only [Nat.add_sub_cancel] at b3
  have hw1 : IntKind.i64.wrap (((k + 1 : Nat) : Int) + 1) = ((k + 1 + 1 : Nat) : Int) := by rw [wrap_i64 (by omega) (by omega)]; omega
  simp -implicitDefEqProofs only [go_sem, dnW_ite, go_sem_proc, show (((k + 1 : Nat) : Int) < (ws.length : Int)) by omega]
  refine WP_call (rView_ok hV.reel (k + 1) hk2) fun w J12 hv => ?_
  obtain ⟨rfl, f12⟩ := hv
  have hvw : vwc ws[k + 1] = stc ws[k + 1].1 0 (ws[k + 1].2.toNat : Int) := rfl
  rw [hvw]
  have hf := Fr.refl J12 []
  have hao : (18446744073709551615 : Int) = ((BitVec.allOnes 64).toNat : Int) := rfl
  simp -implicitDefEqProofs only [go_sem, dnW_ite, go_sem_proc, sta_z]
  rw [hao]
  refine WP_callA (Q := fun J3 => Fr J12 J3 []) (by (have hsz_ := hf.1; repeat (first | with_reducible exact hf | with_reducible apply Fr.psh | ((with_reducible apply Fr.stn); rotate_left; first | omega | (simp only [Array.size_push, Array.size_setIfInBounds] <;> omega)) | ((with_reducible apply Fr.sts); rotate_left; focus (simp only [List.mem_cons, eq_self, true_or, or_true]; done))))) ?_
  rintro J13 f13
  have O13 := (hV.own.frL f12 (by simp)).frL f13 (by simp)
  have R13 := (hV.reel.fr f12 (by simp) (by simp)).fr f13 (by simp) (by simp)
  have hfar := hV.far
  have hM := hV.hM
  have z12 := f12.1
  have z13 := f13.1
  have hdl := hV.len
  refine WP_call (tAdd_ok O13 ws[k + 1].1 0 ws[k + 1].2 (BitVec.allOnes 64) (by omega)) fun w J14 hv => ?_
  obtain ⟨rfl, sk', x3, y3, TA, f14, n14⟩ := hv.2 b3 (full_step a1 b1 a2 _)
  simp -implicitDefEqProofs only [go_sem, dnW_ite, go_sem_proc, bne_self_eq_false, hw1]
  have no : ∀ q, q < J8.size → q ∉ cu :: blk sk := fun q hq hm => by have := hfar q hm; omega
  rw [b2] at TA
  refine q1 (by omega) _ _ ⟨hk2, sk', _, rfl, ⟨R13.fr f14 (no r (hV.f2 r (by simp))) fun q hq => no q (hV.f2 q (by simp [hq])), TA, by simp; omega, fun q hq => ?_, hV.f2, by have := f14.1; omega⟩⟩
  rcases List.mem_cons.1 hq with rfl | hq
  ·exact hfar _ (by simp)
  ·rcases n14 q hq with h' | h'
   ·exact hfar q (by simp [h'])
   ·omega
 ·simp -implicitDefEqProofs only [go_sem, dnW_ite, go_sem_proc, show ¬ (((k + 1 : Nat) : Int) < (ws.length : Int)) by omega]
  refine q2 _ _ ?_
  unfold l_law20_ReplayShows_k2
  simp -implicitDefEqProofs only [go_sem, dnW_ite, go_sem_proc]
  refine WP_call (tLen_ok hV.own) fun v J11 hv => ?_
  obtain ⟨rfl, rfl⟩ := hv
  simp -implicitDefEqProofs only [go_sem, dnW_ite, go_sem_proc]
  refine WP_call (rLen_ok hV.reel) fun v J11 hv => ?_
  obtain ⟨rfl, rfl⟩ := hv
  have e : dk.length = ws.length := by rw [hV.len]; omega
  simp -implicitDefEqProofs only [go_sem, dnW_ite, go_sem_proc, e, bne_self_eq_false]
  exact hK _
theorem y_modN (o n : Nat) (hn : 1 ≤ n) : (o : Int).tmod (n : Int) = ((o % n : Nat) : Int) := by
 rw [Int.tmod_eq_emod_of_nonneg (by omega)]; omega
theorem LsR5 {sz : Nat} {f : Bool} {a b c d e : IV} {p q r s t : List Byt} (ha : BR a p) (hb : BR b q) (hc : BR c r) (hd : BR d s) (he : BR e t) : LsR sz BR (.lst sz f [a, b, c, d, e]) [p, q, r, s, t] := .cons rfl fun i h h' => by
 match i, h with
 | 0, _ => exact ha
 | 1, _ => exact hb
 | 2, _ => exact hc
 | 3, _ => exact hd
 | 4, _ => exact he
theorem shows_k5 (z : IV) (ps : List (List Byt)) (hz : LsR 1 BR z ps) (hl : ∀ p ∈ ps, p.length ≤ 900000) (i : Nat) (hi : i < ps.length) (hn : ps.length ≤ 1000) (J : JH) (K : Out IV → JH → Prop) (hK : ∀ J', K (.goto 3 [z, nI ps.length, nI (i + 1)]) J') :
  WP (dn BI l_law20_ReplayShows_k5 [z, nI ps.length, nI i] J) K := by
 unfold l_law20_ReplayShows_k5
 obtain ⟨e, he, hat⟩ := hz.at hi
 have hw1 := wrapS hi (show ps.length ≤ 9223372036854775807 by omega)
 simp -implicitDefEqProofs only [go_sem, dnW_ite, go_sem_proc, show ((i : Int) < (ps.length : Int)) by omega, hat, ↓he.icells]
 refine WP_join fun K1 j1 j2 j3 => ?_
 have on : ∀ J', K1 (.goto 4 [z, nI ps.length, nI i]) J' := fun J' => j1 _ _ (by
  unfold l_law20_ReplayShows_k4
  simp -implicitDefEqProofs only [go_sem, dnW_ite, go_sem_proc, hw1]
  exact hK _)
 refine WP_call (Read_any he (hl _ (List.getElem_mem hi)) J) fun v J' hv => ?_
 rcases hv with ⟨er, rfl, her, f⟩ | ⟨_, r, x2, y2, s, g, o, ws, rfl, ⟨hr, hw, ho1, ho2⟩, ⟨hne, hwl, hA⟩, hJr, f, hR, hs⟩
 ·rcases her with rfl | rfl
  ·simp -implicitDefEqProofs only [go_sem, dnW_ite, go_sem_proc, iisNil, isNil]
   exact on _
  ·simp -implicitDefEqProofs only [go_sem, dnW_ite, go_sem_proc, iisNil, isNil]
   exact on _
 ·simp -implicitDefEqProofs only [go_sem, dnW_ite, go_sem_proc, bne_self_eq_false]
  exact show_views g hr hw o ⟨ho1, ho2⟩ hR hne hwl hA z ps.length i K1 on
theorem shows_k7 (cut : Nat) (hcut : cut < 65536) (w b : IV) (l L : List Byt) (hw : Ls 1 w (l.map by8)) (hwl : l.length ≤ 9223372036854775807) (hb : Ls 1 b (L.map by8)) (h4 : 4 ≤ L.length) (hbl : L.length ≤ 10000) (J : JH) (K : Out IV → JH → Prop) (hK : ∀ J', K (.ret [.bool true]) J') :
  WP (dn BI l_law20_ReplayShows_k7 [.int .u16 (cut : Int), w, b] J) K := by
 unfold l_law20_ReplayShows_k7
 obtain ⟨c, hc, hc2⟩ := bCut_ok (x := w) (l := l.map fun b => (b.toNat : Int)) (by rw [Bs, ← pmap_by8]; exact hw) 60 (by simpa using hwl) (by omega)
 have hcl : Ls 1 c ((l.take 60).map by8) := by
  rw [pmap_by8, List.map_take]; exact hc2
 have hc : pc BI F_ref01_Cut [w, .int .i64 60] = some c := hc
 have h60 : (l.take 60).length ≤ 60 := by rw [List.length_take]; omega
 generalize l.take 60 = m at *
 have hwc : IntKind.i64.wrap (cut : Int) = (cut : Int) := wrap_i64 (by omega) (by omega)
 have hmd := y_modN cut L.length (by omega)
 have hq : cut % L.length < L.length := Nat.mod_lt _ (by omega)
 obtain ⟨sh, hsh, hshl⟩ := hb.slice (h := cut % L.length) (by simp; omega)
 obtain ⟨s4, hs4, hs4l⟩ := hb.slice (h := L.length - 4) (by simp)
 rw [← List.map_take] at hshl hs4l
 have hsub : IntKind.i64.wrap ((L.length : Int) - 4) = ((L.length - 4 : Nat) : Int) := by rw [wrap_i64 (by omega) (by omega)]; omega
 have l1 : (L.take (cut % L.length)).length ≤ 10000 := by rw [List.length_take]; omega
 have l2 : (L.take (L.length - 4)).length ≤ 10000 := by rw [List.length_take]; omega
 generalize L.take (cut % L.length) = sL at *
 generalize L.take (L.length - 4) = tL at *
 obtain ⟨u1, hu1, hl1⟩ := RSeal_ok hcl (by omega)
 obtain ⟨u2, hu2, hl2⟩ := RJoin_ok (LsR2 (sz := 1) (f := true) hs4l hcl) (by simp) (by simp; omega)
 obtain ⟨u3, hu3, hl3⟩ := RSeal_ok (x := u2) hl2 (by simp; omega)
 obtain ⟨u4, hu4, hl4⟩ := RSeal_ok hshl (by omega)
 have hz := LsR5 (sz := 1) (f := true) hshl hcl hl1 hl3 hl4
 have hps : ∀ p ∈ [sL, m, m ++ leW (~~~ (reg (BitVec.allOnes 32) (bitsL m))), [tL, m].flatten ++ leW (~~~ (reg (BitVec.allOnes 32) (bitsL [tL, m].flatten))), sL ++ leW (~~~ (reg (BitVec.allOnes 32) (bitsL sL)))], p.length ≤ 900000 := by
  intro p hp
  simp only [List.mem_cons, List.not_mem_nil, or_false] at hp
  rcases hp with rfl | rfl | rfl | rfl | rfl <;> first | omega | (simp [leW_len]; omega)
 generalize hpsd : [sL, m, m ++ leW (~~~ (reg (BitVec.allOnes 32) (bitsL m))), [tL, m].flatten ++ leW (~~~ (reg (BitVec.allOnes 32) (bitsL [tL, m].flatten))), sL ++ leW (~~~ (reg (BitVec.allOnes 32) (bitsL sL)))] = ps at *
 have hp5 : ps.length = 5 := by rw [← hpsd]; rfl
 have p1 := hcl.pure
 have p2 := hs4l.pure
 have p3 := hl1.pure
 have p4 := hl2.pure
 have p5 := hl3.pure
 have p6 := hl4.pure
 have p7 := hshl.pure
 simp -implicitDefEqProofs only [go_sem, dnW_ite, go_sem_proc, dcp hc (by simp [ipureL, ipure, hw.pure]), hwc, hb.lenF, List.length_map, hmd, show ¬ ((L.length : Int) = 0) by omega, hsh, hsub, hs4, ipureL, ipure, grp, mkE, List.headD, List.drop_one, List.drop_succ_cons, ↓hcl.icells, ↓hcl.one, ↓hs4l.icells, ↓hs4l.one, ↓hl1.icells, ↓hl1.one, ↓hl3.icells, ↓hl3.one, ↓hl4.icells, ↓hl4.one, ↓hshl.icells, ↓hshl.one, p1, p2, p3, p4, p5, p6, p7, dcp hu1 (by simp [ipureL, p1]), dcp hu2 (by simp [ipureL, ipure, p1, p2]), dcp hu3 (by simp [ipureL, p4]), dcp hu4 (by simp [ipureL, p7]), dn_loop]
 have h5 := shows_k5 (.lst 1 true [sh, c, u1, u3, u4]) ps hz hps
 rw [hp5] at h5
 refine WP_range (by decide) 5 (fun i vs J' => vs = [.lst 1 true [sh, c, u1, u3, u4], nI 5, nI i]) ?_ rfl
 rintro i vs J1 rfl hi K1 g1 g2 g3
 by_cases hlt : i < 5
 ·exact h5 i hlt (by omega) J1 K1 fun J' => g1 hlt _ _ rfl
 ·unfold l_law20_ReplayShows_k5
  simp -implicitDefEqProofs only [go_sem, dnW_ite, go_sem_proc, show ¬ ((i : Int) < ((5 : Nat) : Int)) by omega]
  refine g2 _ _ ?_
  unfold l_law20_ReplayShows_k6
  simp -implicitDefEqProofs only [go_sem, dnW_ite, go_sem_proc]
  exact hK _
structure ShI (J : JH) (g : Gm) (x y : IV) (c i : Nat) (b : Bd) (d : Int) (t : BitVec 32) (s : IV) (dx : List (Dl × IV × IV)) (x1 y1 : IV) : Prop where
 gm : J[0]? = some (.cells 0 (gmc g x y) false)
 st : J[1]? = some (.cells 0 (stc b d (t.toNat : Int)) false)
 tape : TapeAt J c g x1 y1 0 (b.view 0) t s dx
 ok : b.ok
 bl : b.l.length = g.cells.length
 len : dx.length ≤ min i 6 + 1
 tl : t.toNat ≤ min i 6
 far : ∀ q ∈ c :: blk s, 2 ≤ q
theorem shows_step (g : Gm) (x y : IV) (h : GR g x y) (hr : g.right = true) (hw : ∀ c ∈ g.code, c.wf) (t0 t1 t2 t3 z : IV) (as : List (List (BitVec 32))) (hx : LsR 1 (fun v ms => Ls 1 v (ms.map m32)) z as) (i : Nat) (hi : i < as.length) (ha : as.length ≤ 9223372036854775807) {J : JH} {c : Nat} {b : Bd} {d : Int} {t : BitVec 32} {s : IV} {dx : List (Dl × IV × IV)} {x1 y1 : IV} (hO : ShI J g x y c i b d t s dx x1 y1) (K : Out IV → JH → Prop)
  (hK : ∀ J' b d t s dx, ShI J' g x y c (i + 1) b d t s dx x1 y1 → K (.goto 1 [t0, t1, t2, t3, .ptr 0 0 0, .ptr 1 0 0, .ptr c 0 0, z, nI as.length, nI (i + 1)]) J') :
  WP (dn BI l_law20_ReplayShows_k0 [t0, t1, t2, t3, .ptr 0 0 0, .ptr 1 0 0, .ptr c 0 0, z, nI as.length, nI i] J) K := by
 unfold l_law20_ReplayShows_k0
 have h0 := hO.gm
 have h1 := hO.st
 obtain ⟨e, he, hat⟩ := hx.at hi
 have hw1 := wrapS hi ha
 by_cases h6 : i < 6
 rotate_left
 ·simp -implicitDefEqProofs only [go_sem, dnW_ite, go_sem_proc, show ((i : Int) < (as.length : Int)) by omega, hat, ↓he.icells, show ¬ ((i : Int) < 6) by omega, hw1]
  exact hK _ b d t s dx ⟨h0, h1, hO.tape, hO.ok, hO.bl, by have := hO.len; omega, by have := hO.tl; omega, hO.far⟩
 have htl := hO.tl
 obtain ⟨t', ht', hw32⟩ : ∃ t' : BitVec 32, t'.toNat = t.toNat + 1 ∧ IntKind.u32.wrap ((t.toNat : Int) + 1) = (t'.toNat : Int) := by
  have e : (BitVec.ofNat 32 (t.toNat + 1)).toNat = t.toNat + 1 := by rw [BitVec.toNat_ofNat]; exact Nat.mod_eq_of_lt (by omega)
  exact ⟨_, e, by rw [wrap_u32 (by omega) (by omega), e]; rfl⟩
 obtain ⟨s1, hS, hs⟩ := StepR_ok g x y h hr hw b hO.ok d (t.toNat : Int) e as[i] he
 have ok1 := step_bok g hr hw as[i] b hO.ok d (t.toNat : Int)
 have ln1 := step_len g as[i] b d (t.toNat : Int)
 have ap1 := apply_step b _ ln1 _ (step_kept g hr hw as[i] b hO.ok d (t.toNat : Int)) 0 t'
 generalize g.run as[i] b d (t.toNat : Int) = R at *
 rw [hw32] at hS
 have hlJ := lt_get h1
 have hlJ0 := lt_get h0
 simp -implicitDefEqProofs only [go_sem, dnW_ite, go_sem_proc, show ((i : Int) < (as.length : Int)) by omega, hat, ↓he.icells, show ((i : Int) < 6) by omega, h0, h1, dcp hS (by simp [ipureL, ipure, h.pure, sta_pure, he.pure]), sta_z, outC_one R hs.one, inb h0, inb h1]
 have hf := Fr.refl J [1]
 refine WP_callA (Q := fun J1 => Fr J J1 [1] ∧ J1[1]? = some (.cells 0 (stc R.bd R.dice (t'.toNat : Int)) false) ∧ J1[0]? = some (.cells 0 (gmc g x y) false)) ⟨by (have hsz_ := hf.1; repeat (first | with_reducible exact hf | with_reducible apply Fr.psh | ((with_reducible apply Fr.stn); rotate_left; first | omega | (simp only [Array.size_push, Array.size_setIfInBounds] <;> omega)) | ((with_reducible apply Fr.sts); rotate_left; focus (simp only [List.mem_cons, eq_self, true_or, or_true]; done)))), by (repeat (first | with_reducible assumption | ((with_reducible refine gsE ?_ ?_); (focus omega); focus (first | omega | (simp only [Array.size_push, Array.size_setIfInBounds] <;> omega))) | ((with_reducible refine gsN ?_ ?_); focus omega) | ((with_reducible refine gpN ?_ ?_); focus (first | omega | (simp only [Array.size_push, Array.size_setIfInBounds] <;> omega))) | ((with_reducible refine gpE ?_); focus (first | omega | (simp only [Array.size_push, Array.size_setIfInBounds] <;> omega))))), by (repeat (first | with_reducible assumption | ((with_reducible refine gsE ?_ ?_); (focus omega); focus (first | omega | (simp only [Array.size_push, Array.size_setIfInBounds] <;> omega))) | ((with_reducible refine gsN ?_ ?_); focus omega) | ((with_reducible refine gpN ?_ ?_); focus (first | omega | (simp only [Array.size_push, Array.size_setIfInBounds] <;> omega))) | ((with_reducible refine gpE ?_); focus (first | omega | (simp only [Array.size_push, Array.size_setIfInBounds] <;> omega)))))⟩ ?_
 rintro J1 ⟨f1, k1, k0⟩
 have hnf : ∀ q ∈ c :: blk s, q ∉ [1] := fun q hq hm => by have := hO.far q hq; simp at hm; omega
 have T1 := hO.tape.frL f1 hnf
 have hdl := hO.len
 refine WP_call (tAdd_ok T1 R.bd R.dice t' R.touched (by omega)) fun r J3 hv => ?_
 obtain ⟨rfl, s', x3, y3, TA, f3, n3⟩ := hv.2 ht' ap1
 have g0 : J3[0]? = some (.cells 0 (gmc g x y) false) := by rw [f3.2 0 (lt_get k0) (fun hm => by have := hO.far 0 hm; omega)]; exact k0
 have g1 : J3[1]? = some (.cells 0 (stc R.bd R.dice (t'.toNat : Int)) false) := by rw [f3.2 1 (lt_get k1) (fun hm => by have := hO.far 1 hm; omega)]; exact k1
 have z1 := f1.1
 simp -implicitDefEqProofs only [go_sem, dnW_ite, go_sem_proc, hw1]
 refine hK _ R.bd R.dice t' s' _ ⟨g0, g1, TA, ok1, ln1.trans hO.bl, by rw [List.length_append, List.length_cons, List.length_nil]; omega, by omega, fun q hq => ?_⟩
 rcases List.mem_cons.1 hq with rfl | hq
 ·exact hO.far _ (by simp)
 ·rcases n3 q hq with h' | h'
  ·exact hO.far q (by simp [h'])
  ·omega
theorem shows_k8 (g : Gm) (hr : g.right = true) (hwf : ∀ c ∈ g.code, c.wf) {J : JH} {c : Nat} {x1 y1 : IV} {v : Bd} {t : BitVec 32} {s : IV} {dx : List (Dl × IV × IV)} (h : TapeAt J c g x1 y1 0 v t s dx) (hl : dx.length ≤ 10) (cut at' : Nat) (hcut : cut < 65536) (hat : at' < 65536) (mk : BitVec 32) (w : IV) (l : List Byt) (hw : Ls 1 w (l.map by8)) (hwl : l.length ≤ 9223372036854775807) (K : Out IV → JH → Prop) (hK : ∀ J', K (.ret [.bool true]) J') :
  WP (dn BI l_law20_ReplayShows_k8 [.int .u16 (cut : Int), .int .u16 (at' : Int), m32 mk, w, .ptr c 0 0] J) K := by
 unfold l_law20_ReplayShows_k8
 simp -implicitDefEqProofs only [go_sem, dnW_ite, go_sem_proc]
 refine WP_call (tBytes_ok h hr hwf ⟨by decide, by decide⟩ (by omega)) fun b J3 hv => ?_
 obtain ⟨hb, f3⟩ := hv
 have h48 : ∀ e ∈ dx.map (·.1), e.ps.length ≤ 48 := fun e he => by
  obtain ⟨f, hf, rfl⟩ := List.mem_map.1 he
  exact (h.each f hf).2.2
 have hle := tapeB_le hr 0 h48 (by rw [List.length_map]; exact hl)
 have htl : (tapeB g 0 (dx.map (·.1))).length = (tapeL g 0 (dx.map (·.1))).length + 4 := by rw [tapeB, List.length_append, tail4_len]
 have hse : (tapeB g 0 (dx.map (·.1))).drop ((tapeB g 0 (dx.map (·.1))).length - 4) = tail4 ((tapeB g 0 (dx.map (·.1))).take ((tapeB g 0 (dx.map (·.1))).length - 4)) := by
  rw [htl, Nat.add_sub_cancel, tapeB, List.drop_left' rfl, List.take_left' rfl]
 generalize tapeB g 0 (dx.map (·.1)) = L at *
 have h4 : 4 ≤ L.length := by omega
 have hwa : IntKind.i64.wrap (at' : Int) = (at' : Int) := wrap_i64 (by omega) (by omega)
 have hm8 : IntKind.i64.wrap (8 * (L.length : Int)) = ((8 * L.length : Nat) : Int) := by rw [wrap_i64 (by omega) (by omega)]; omega
 have hmd := y_modN at' (8 * L.length) (by omega)
 have hWb : Wb (iB L) := fun z hz => by
  obtain ⟨e, _, rfl⟩ := List.mem_map.1 hz
  have := e.isLt
  exact ⟨by omega, by omega⟩
 have hmk := mk.isLt
 obtain ⟨y, hy, hy2⟩ := Turned_ok (x := b) (l := iB L) (by rw [Bs, ← pmap_by8x]; exact hb) hWb (by simp; omega) (by intro e; have := congrArg List.length e; simp at this; subst this; simp at h4) (at' % (8 * L.length)) (by have := Nat.mod_lt at' (show 0 < 8 * L.length by omega); omega) (mk.toNat : Int) (by omega) (by omega)
 have hyl : Ls 1 y ((spoilB L at' mk).map by8) := by
  rw [pmap_by8x, spoilB, ← turnN_iB]; exact hy2
 have hsl := spoilB_len L at' mk
 simp -implicitDefEqProofs only [go_sem, dnW_ite, go_sem_proc, hwa, hb.lenF, List.length_map, hm8, hmd, show ¬ (((8 * L.length : Nat) : Int) = 0) by omega, dcp hy (by simp [ipureL, ipure, hb.pure])]
 have fin : ∀ J', WP (dn BI l_law20_ReplayShows_k7 [.int .u16 (cut : Int), w, b] J') K := fun J' => shows_k7 cut hcut w b l L hw hwl hb h4 hle J' K hK
 refine WP_join fun K1 j1 j2 j3 => ?_
 refine WP_call (Read_any hyl (by omega) J3) fun v J' hv => ?_
 rcases hv with ⟨er, rfl, her, f⟩ | ⟨⟨_, hop⟩, r, x2, y2, s, g', o, ws, rfl, _, _, hJr, f, hR, hs⟩
 ·rcases her with rfl | rfl
  ·simp -implicitDefEqProofs only [go_sem, dnW_ite, go_sem_proc]
   exact j1 _ _ (fin _)
  ·simp -implicitDefEqProofs only [go_sem, dnW_ite, go_sem_proc]
   exact j1 _ _ (fin _)
 ·have e := bent_open h4 hse at' mk hop
  have hS := bSame8 hb hyl (by omega)
  rw [← e, decide_eq_true rfl] at hS
  simp -implicitDefEqProofs only [go_sem, dnW_ite, go_sem_proc, dcp hS (by simp [ipureL, hb.pure, hyl.pure])]
  exact j1 _ _ (fin _)
theorem Shows_ok (g : Gm) (x y : IV) (h : GR g x y) (hw : ∀ c ∈ g.code, c.wf) (hv : ∀ c ∈ g.cells, I32 c.v) (hc : g.cells.length ≤ 9223372036854775807) (hcd : g.code.length ≤ 9223372036854775807) (a : Int) (z : IV) (as : List (List (BitVec 32))) (hx : LsR 1 (fun v ms => Ls 1 v (ms.map m32)) z as) (ha : as.length ≤ 9223372036854775807) (cut at' : Nat) (hcut : cut < 65536) (hat : at' < 65536) (mk : BitVec 32) (w : IV) (l : List Byt) (hwl : Ls 1 w (l.map by8)) (hl : l.length ≤ 9223372036854775807) :
  pc BI F_law20_ReplayShows [.agg (gmc g x y), .int .u64 a, z, .int .u16 (cut : Int), .int .u16 (at' : Int), m32 mk, w] = some (.bool true) := by
 refine pcE fn_law20_ReplayShows rfl fun K hK => ?_
 obtain ⟨_, hf, x3, y2, rfl, h2⟩ := gfew_ok g x y h hc hcd
 have hw2 := few_wf hw
 have hv3 := few_I32 hv
 obtain ⟨n1, n2⟩ := few_len g
 generalize g.few = G at *
 unfold l_law20_ReplayShows
 have hT : ∀ J', K (.ret [.bool true]) J' := fun J' => hK _ _ (frzE rfl rfl)
 cases hr : G.right with
 | false =>
  have hS := Start0_ok G x3 y2 h2 hr hw2 (by omega) (.sc (.slice none 0 0)) a
  simp -implicitDefEqProofs only [go_sem, dnW_ite, go_sem_proc, h.one, h2.one, dcp awake20 rfl, dcp hf (by simp [ipureL, ipure, h.pure]), dcp hS (by simp [ipureL, ipure, h2.pure]), sta_z]
  rw [if_pos (by decide)]
  exact hT _
 | true =>
  have hS := Start_ok G x3 y2 h2 hr hw2 (.sc (.slice none 0 0)) [] .nil (by simp) a
  have l1 : (G.bd0 (right_48 hr).1 []).l.length = G.cells.length := bd0_len _ _ _
  have ok1 := bd0_ok G (right_48 hr).1 [] hv3 (by simp)
  have hobs := (right_48 hr).2.1
  generalize hB1 : G.bd0 (right_48 hr).1 [] = b0 at *
  simp -implicitDefEqProofs only [go_sem, dnW_ite, go_sem_proc, h.one, h2.one, dcp awake20 rfl, dcp hf (by simp [ipureL, ipure, h.pure]), dcp hS (by simp [ipureL, ipure, h2.pure]), sta_z]
  rw [if_neg (by decide)]
  refine WP_call (tNew_ok G x3 y2 h2 hr hw2 0 (by omega) b0 l1 a 0#32 _) fun w1 J1 hv => ?_
  obtain ⟨cx, x1, y1, x4, y4, rfl, s1, f1, T1⟩ := hv
  have m0 : J1[0]? = some (.cells 0 (gmc G x3 y2) false) := f1.2 0 (by simp) (by simp)
  have m1 : J1[1]? = some (.cells 0 (stc b0 a 0) false) := f1.2 1 (by simp) (by simp)
  have hO : ShI J1 G x3 y2 cx 0 b0 a 0#32 (.lst 4 true [.agg (dlc (ofF b0 (BitVec.allOnes 64) 0 0#32 b0.l.length) x4 y4)]) [(ofF b0 (BitVec.allOnes 64) 0 0#32 b0.l.length, x4, y4)] x1 y1 :=
   ⟨m0, m1, T1, ok1, l1, by simp, by simp, fun q hq => by simp [blk, blkOf] at hq; simp at s1; omega⟩
  simp -implicitDefEqProofs only [go_sem, dnW_ite, go_sem_proc, hx.lenF, List.length_map, dn_loop]
  refine WP_range (by decide) as.length (fun i vs J' => ∃ b d t s dx, vs = [.int .u16 (cut : Int), .int .u16 (at' : Int), m32 mk, w, .ptr 0 0 0, .ptr 1 0 0, .ptr cx 0 0, z, nI as.length, nI i] ∧ ShI J' G x3 y2 cx i b d t s dx x1 y1) ?_ ⟨_, _, _, _, _, rfl, hO⟩
  rintro i vs J2 ⟨b, d, t, s, dx, rfl, hO⟩ hi K1 g1 g2 g3
  by_cases hi2 : i < as.length
  ·exact shows_step G x3 y2 h2 hr hw2 _ _ _ _ z as hx i hi2 ha hO K1 fun J' b d t s dx hO' => g1 hi2 _ _ ⟨b, d, t, s, dx, rfl, hO'⟩
  ·unfold l_law20_ReplayShows_k0
   simp -implicitDefEqProofs only [go_sem, dnW_ite, go_sem_proc, show ¬ ((i : Int) < (as.length : Int)) by omega]
   exact g2 _ _ (shows_k8 G hr hw2 hO.tape (by have := hO.len; omega) cut at' hcut hat mk w l hwl hl K hT)
theorem dec_u8 {P : Program} {d : Nat} {t : TypeId} (ht : P.underlying t = some (.int .u8)) {cs : List IV} (h : WT P (d + 1) t cs) : ∃ m : Byt, cs = [by8 m] := by
 obtain ⟨n, rfl, hn⟩ := wt_int ht h
 obtain ⟨m, rfl, hm⟩ := u8_of hn
 exact ⟨nB m, by rw [nB_by8 hm]⟩
theorem dec_bytes {P : Program} {d : Nat} {t e : TypeId} (ht : P.underlying t = some (.slice e)) (he : P.underlying e = some (.int .u8)) (hc : P.cellsOf e = 1) {cs : List IV} (h : WT P (d + 2) t cs) : ∃ (x : IV) (l : List Byt), cs = [x] ∧ Ls 1 x (l.map by8) ∧ l.length ≤ 9223372036854775807 := by
 have := dec_slice (f := by8) (p := fun _ => True) ht (fun cs hl hw => by
  obtain ⟨m, rfl⟩ := dec_u8 he hw
  exact ⟨m, by rw [hc]; rfl, trivial⟩) h
 rw [hc] at this
 obtain ⟨x, l, h1, h2, h3, _⟩ := this
 exact ⟨x, l, h1, h2, h3⟩
theorem dec_u16 {P : Program} {d : Nat} {t : TypeId} (ht : P.underlying t = some (.int .u16)) {cs : List IV} (h : WT P (d + 1) t cs) : ∃ m : Nat, cs = [.int .u16 (m : Int)] ∧ m < 65536 := by
 obtain ⟨n, rfl, hn⟩ := wt_int ht h
 obtain ⟨h0, h1⟩ := wf_u16 hn
 exact ⟨n.toNat, by rw [Int.toNat_of_nonneg h0], by omega⟩
end Go.Proofs.YticfcmaigffhmaaGreat.G
