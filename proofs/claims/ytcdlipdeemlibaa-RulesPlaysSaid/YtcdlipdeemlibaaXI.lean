/- Joined: RP1 to RP1. -/
import Derived.Test.YtcdlipdeemlibaaXH
set_option linter.unusedVariables false
set_option linter.unusedSimpArgs false
namespace Go.Proofs.Ytcdlipdeemlibaa.G
open Go
set_option linter.unusedSimpArgs false
set_option linter.unusedVariables false
set_option maxRecDepth 20000
set_option maxHeartbeats 2000000
theorem s3_one {cc : IV} (ho : ione cc = true) (dd tt : Int) : (st3 cc dd tt).all ione = true := by
  simp only [st3, List.all_cons, List.all_nil, ho]; rfl
theorem s3_pure {cc : IV} (ho : ipure cc = true) (dd tt : Int) : ipureL (st3 cc dd tt) = true := by
  simp [st3, ipureL, ipure, ho]
theorem s3_len (cc dd tt) : (st3 cc dd tt).length = 3 := rfl
theorem s3_take (cc dd tt) : (st3 cc dd tt).take 3 = st3 cc dd tt := rfl
theorem s3_z (cc dd tt) : isplice [.sc (.slice none 0 0), .sc (.int .u64 0), .sc (.int .u32 0)] 0 (st3 cc dd tt) = st3 cc dd tt := rfl
theorem s3_all (c1 d1 t1 cc dd tt) : isplice (st3 c1 d1 t1) 0 (st3 cc dd tt) = st3 cc dd tt := rfl
theorem rc_len (r c s) : (rsC r c s).length = 6 := rfl
theorem rc_one (r : Rs) {c s : IV} (h : ione c = true) (k : ione s = true) : (rsC r c s).all ione = true := by
  simp only [rsC, List.all_cons, List.all_nil, h, k]; rfl
theorem rc_z (r c s) : isplice [.sc (.slice none 0 0), .sc (.int .u64 0), .sc (.int .u64 0), .sc (.slice none 0 0), .sc (.int .i64 0), .sc (.int .i64 0)] 0 (rsC r c s) = rsC r c s := rfl
theorem rc_2 (r c s) : ((rsC r c s).drop 2).take 1 = [.int .u64 (r.touched.toNat : Int)] := rfl
theorem rc_3 (r c s) : ((rsC r c s).drop 3).take 1 = [s] := rfl
theorem rc_5 (r c s) : ((rsC r c s).drop 5).take 1 = [nI r.err] := rfl
attribute [go_sem] s3_len s3_take s3_all rc_len rc_2 rc_3 rc_5
attribute [go_sem ↓] s3_z rc_z
theorem view_ok {b : Bd} (h : b.ok) (o : Int) : (b.view o).ok := by
  intro c hc
  simp only [Bd.view, Bd.map, List.mem_map] at hc
  obtain ⟨c', hc', rfl⟩ := hc
  unfold viewC; split
  · exact h c' hc'
  · exact I32_0
def Pair (g : Gm) (x y x2 y2 : IV) (b : Bd) (c : IV) (d t : Int) (J : JH) : Prop := J[0]? = some (.cells 0 (gmc g x y) false) ∧ J[1]? = some (.cells 0 (gmc g x2 y2) false) ∧ J[2]? = some (.cells 0 (stc b d t) false) ∧ J[3]? = some (.cells 0 (st3 c d t) false)
theorem plays_step (g : Gm) (x y x2 y2 : IV) (h : GR g x y) (h2 : GR g x2 y2) (hr : g.right = true) (hw : ∀ c ∈ g.code, c.wf) (b : Bd) (hbk : b.ok) (c : IV) (hc : Ls 2 c (b.l.map Cl.e)) (d t o : Int) (m : BitVec 32) (xl : IV) (as : List (List (BitVec 32))) (hx : LsR 1 (fun v ms => Ls 1 v (ms.map m32)) xl as) (i : Nat) (hi : i < as.length) (ha : as.length ≤ 9223372036854775807) (J : JH) (hJ : Pair g x y x2 y2 b c d t J) (K : Out IV → JH → Prop)
    (hE : K (.goto 2 []) J) (hK : ∀ J' b c d t, Pair g x y x2 y2 b c d t J' → b.ok → Ls 2 c (b.l.map Cl.e) → K (.goto 3 [.int .i64 o, m32 m, .ptr 0 0 0, .ptr 1 0 0, .ptr 2 0 0, .ptr 3 0 0, xl, nI as.length, nI (i + 1)]) J') :
    WP (dn BI l_law10_RulesPlays_k2 [.int .i64 o, m32 m, .ptr 0 0 0, .ptr 1 0 0, .ptr 2 0 0, .ptr 3 0 0, xl, nI as.length, nI i] J) K := by
  obtain ⟨k0, k1, k2, k3⟩ := hJ
  unfold l_law10_RulesPlays_k2
  obtain ⟨e, he, hat⟩ := hx.at hi
  have hw1 := wrapS hi ha
  by_cases h20 : 20 ≤ i
  · simp -implicitDefEqProofs only [go_sem, dnW_ite, reduceIte, Nat.reduceAdd, Nat.reduceLeDiff, Nat.reduceMul, Nat.reduceEqDiff, Int.reduceLT, Int.reduceLE, Int.reduceToNat, Nat.reduceSub, Nat.reduceLT, Int.reduceEq, BitVec.reduceOfInt, BitVec.reduceOfNat, Int.reduceGT, Int.reduceGE, Int.reduceBEq, Int.reduceBNe, Nat.reduceGT, Nat.reduceBEq, Nat.reduceBNe, Int.reduceAdd, Int.reduceSub, Int.reduceNeg, show ((i : Int) < (as.length : Int)) by omega, hat, ↓he.icells, show ((i : Int) ≥ 20) by omega]
    exact hE
  have hbl := b.h
  obtain ⟨v, hV, hvl⟩ := rView_ok c b.l hc (by omega) d t o
  have hvl' : Ls 2 v ((b.view o).l.map Cl.e) := hvl
  have hP := PredR_ok g x y h hr hw (b.view o) (view_ok hbk o) 0 t o m
  obtain ⟨w, hW, hwl⟩ := rPredict_ok g x2 y2 h2 hr hw v (b.view o) hvl' (view_ok hbk o) 0 t o m
  have hL := like_ok _ 0 (IntKind.u32.wrap (t + 1)) w hwl
  have hL2 := like_ok (b.view o) 0 t v hvl'
  obtain ⟨s, hS, hs⟩ := StepR_ok g x y h hr hw b hbk d t e as[i] he
  obtain ⟨c', s', hS', hcl, hsl⟩ := rStep_ok g x2 y2 h2 hr hw c b hc hbk d t e as[i] he
  have hok := step_bok g hr hw as[i] b hbk d t
  have hb0 := lt_get k3
  have hmd : BI.md F_rules_State_View = .pure := rfl
  have hmd2 : BI.md F_rules_Game_Predict = .pure := rfl
  have hmd3 : BI.md F_ref10_View = .pure := rfl
  generalize g.run as[i] b d t = R at *
  generalize g.run (g.preM o m) (b.view o) 0 t = Q at *
  have hL3 := like_ok R.bd R.dice (IntKind.u32.wrap (t + 1)) c' hcl
  simp -implicitDefEqProofs only [go_sem, dnW_ite, reduceIte, Nat.reduceAdd, Nat.reduceLeDiff, Nat.reduceMul, Nat.reduceEqDiff, Int.reduceLT, Int.reduceLE, Int.reduceToNat, Nat.reduceSub, Nat.reduceLT, Int.reduceEq, BitVec.reduceOfInt, BitVec.reduceOfNat, Int.reduceGT, Int.reduceGE, Int.reduceBEq, Int.reduceBNe, Nat.reduceGT, Nat.reduceBEq, Nat.reduceBNe, Int.reduceAdd, Int.reduceSub, Int.reduceNeg, show ((i : Int) < (as.length : Int)) by omega, hat, ↓he.icells, show ¬ ((i : Int) ≥ 20) by omega, k0, k1, k2, k3, hmd, hmd2, hmd3, dcp (SView_ok b d t o) (by simp [ipureL, ipure, sta_pure]), dcp hP (by simp [ipureL, ipure, h.pure, sta_pure]), dcp hV (by simp [ipureL, ipure, s3_pure hc.pure]), dcp hW (by simp [ipureL, ipure, h2.pure, s3_pure hvl.pure]), dcp hL (by simp [ipureL, ipure, sta_pure, s3_pure hwl.pure]), dcp hL2 (by simp [ipureL, ipure, sta_pure, s3_pure hvl.pure]), l_law10_RulesPlays_k1, dcp hS (by simp [ipureL, ipure, h.pure, sta_pure, he.pure]), dcp hS' (by simp [ipureL, ipure, h2.pure, s3_pure hc.pure, he.pure]), sta_z, outC_one R hs.one, inb k0, inb k1, inb k2, inb k3, s3_one hcl.one, rc_one R hcl.one hsl.one, dcp hL3 (by simp [ipureL, ipure, sta_pure, s3_pure hcl.pure]), hs.lenF, hsl.lenF, List.length_map, bne_self_eq_false, l_law10_RulesPlays_k0, hw1, show (J.size + 2 == 2) = false by rw [beq_eq_false_iff_ne]; omega]
  refine hK _ R.bd c' R.dice (IntKind.u32.wrap (t + 1)) ⟨?_, ?_, ?_, ?_⟩ hok hcl
  · (repeat (first | with_reducible assumption | ((with_reducible refine gsE ?_ ?_); (focus omega); focus (first | omega | (simp only [Array.size_push, Array.size_setIfInBounds] <;> omega))) | ((with_reducible refine gsN ?_ ?_); focus omega) | ((with_reducible refine gpN ?_ ?_); focus (first | omega | (simp only [Array.size_push, Array.size_setIfInBounds] <;> omega))) | ((with_reducible refine gpE ?_); focus (first | omega | (simp only [Array.size_push, Array.size_setIfInBounds] <;> omega)))))
  · (repeat (first | with_reducible assumption | ((with_reducible refine gsE ?_ ?_); (focus omega); focus (first | omega | (simp only [Array.size_push, Array.size_setIfInBounds] <;> omega))) | ((with_reducible refine gsN ?_ ?_); focus omega) | ((with_reducible refine gpN ?_ ?_); focus (first | omega | (simp only [Array.size_push, Array.size_setIfInBounds] <;> omega))) | ((with_reducible refine gpE ?_); focus (first | omega | (simp only [Array.size_push, Array.size_setIfInBounds] <;> omega)))))
  · (repeat (first | with_reducible assumption | ((with_reducible refine gsE ?_ ?_); (focus omega); focus (first | omega | (simp only [Array.size_push, Array.size_setIfInBounds] <;> omega))) | ((with_reducible refine gsN ?_ ?_); focus omega) | ((with_reducible refine gpN ?_ ?_); focus (first | omega | (simp only [Array.size_push, Array.size_setIfInBounds] <;> omega))) | ((with_reducible refine gpE ?_); focus (first | omega | (simp only [Array.size_push, Array.size_setIfInBounds] <;> omega)))))
  · (repeat (first | with_reducible assumption | ((with_reducible refine gsE ?_ ?_); (focus omega); focus (first | omega | (simp only [Array.size_push, Array.size_setIfInBounds] <;> omega))) | ((with_reducible refine gsN ?_ ?_); focus omega) | ((with_reducible refine gpN ?_ ?_); focus (first | omega | (simp only [Array.size_push, Array.size_setIfInBounds] <;> omega))) | ((with_reducible refine gpE ?_); focus (first | omega | (simp only [Array.size_push, Array.size_setIfInBounds] <;> omega)))))
theorem Plays_ok (g : Gm) (x y : IV) (h : GR g x y) (hw : ∀ c ∈ g.code, c.wf) (hv : ∀ c ∈ g.cells, I32 c.v) (hc : g.cells.length ≤ 9223372036854775807) (hcd : g.code.length ≤ 9223372036854775807) (sd : Int) (u : IV) (H : List Int) (hu : Ls 1 u (H.map (IV.int .i32))) (hul : H.length ≤ 9223372036854775807) (hHr : ∀ v ∈ H, I32 v) (xl : IV) (as : List (List (BitVec 32))) (hx : LsR 1 (fun v ms => Ls 1 v (ms.map m32)) xl as) (ha : as.length ≤ 9223372036854775807) (o : Int) (m : BitVec 32) :
    pc BI F_law10_RulesPlays [.agg (gmc g x y), .int .u64 sd, u, xl, .int .i64 o, m32 m] = some (.bool true) := by
  refine pcE fn_law10_RulesPlays rfl fun K hK => ?_
  obtain ⟨_, hf, x3, y2, rfl, h2⟩ := gfew_ok g x y h hc hcd
  have hw2 := few_wf hw
  have hv3 := few_I32 hv
  obtain ⟨n1, n2⟩ := few_len g
  generalize g.few = G at *
  have hg := gRight_ok G x3 y2 h2 hw2 (by omega)
  obtain ⟨_, hO, x4, y4, rfl, h4⟩ := own10_ok G x3 y2 h2 (by omega) (by omega)
  have hrr := rRight10_ok G x4 y4 h4 hw2 (by omega)
  unfold l_law10_RulesPlays
  have hT : ∀ J', K (.ret [.bool true]) J' := fun J' => hK _ _ (frzE rfl rfl)
  cases hr : G.right with
  | false =>
    rw [hr] at hg hrr
    have hS := Start0_ok G x3 y2 h2 hr hw2 (by omega) u sd
    have hSt := Step0_ok G x3 y2 h2 hr hw2 (by omega) Bd.z 0 0 (.sc (.slice none 0 0)) rfl
    have hup := hu.pure
    simp -implicitDefEqProofs only [go_sem, dnW_ite, reduceIte, Nat.reduceAdd, Nat.reduceLeDiff, Nat.reduceMul, Nat.reduceEqDiff, Int.reduceLT, Int.reduceLE, Int.reduceToNat, Nat.reduceSub, Nat.reduceLT, Int.reduceEq, BitVec.reduceOfInt, BitVec.reduceOfNat, Int.reduceGT, Int.reduceGE, Int.reduceBEq, Int.reduceBNe, Nat.reduceGT, Nat.reduceBEq, Nat.reduceBNe, Int.reduceAdd, Int.reduceSub, Int.reduceNeg, h.one, h2.one, h4.one, dcp awake10 rfl, dcp hf (by simp [ipureL, ipure, h.pure]), dcp hg (by simp [ipureL, ipure, h2.pure]), dcp hO (by simp [ipureL, ipure, h2.pure]), dcp hrr (by simp [ipureL, ipure, h4.pure]), dcp hS (by simp [ipureL, ipure, h2.pure, hup]), dcp hSt (by simp [ipureL, ipure, h2.pure, sta_pure]), sta_z, gm_all, gm_len]
    exact hT _
  | true =>
    rw [hr] at hg hrr
    have hS := Start_ok G x3 y2 h2 hr hw2 u H hu hul sd
    obtain ⟨c, hSr, hcl⟩ := rStart_ok G x4 y4 h4 (right_48 hr).1 u H hu hul sd
    have hbk := bd0_ok G (right_48 hr).1 H hv3 hHr
    generalize G.bd0 (right_48 hr).1 H = b at *
    have hL := like_ok b sd 0 c hcl
    have hup := hu.pure
    simp -implicitDefEqProofs only [go_sem, dnW_ite, reduceIte, Nat.reduceAdd, Nat.reduceLeDiff, Nat.reduceMul, Nat.reduceEqDiff, Int.reduceLT, Int.reduceLE, Int.reduceToNat, Nat.reduceSub, Nat.reduceLT, Int.reduceEq, BitVec.reduceOfInt, BitVec.reduceOfNat, Int.reduceGT, Int.reduceGE, Int.reduceBEq, Int.reduceBNe, Nat.reduceGT, Nat.reduceBEq, Nat.reduceBNe, Int.reduceAdd, Int.reduceSub, Int.reduceNeg, h.one, h2.one, h4.one, dcp awake10 rfl, dcp hf (by simp [ipureL, ipure, h.pure]), dcp hg (by simp [ipureL, ipure, h2.pure]), dcp hO (by simp [ipureL, ipure, h2.pure]), dcp hrr (by simp [ipureL, ipure, h4.pure]), dcp hS (by simp [ipureL, ipure, h2.pure, hup]), sta_z, gm_all, gm_len, l_law10_RulesPlays_k5, dcp hSr (by simp [ipureL, ipure, h4.pure, hup]), s3_one hcl.one, dcp hL (by simp [ipureL, ipure, sta_pure, s3_pure hcl.pure]), l_law10_RulesPlays_k4, hx.lenF, show (((0 : Nat) : Int) != 0) = false from rfl, dn_loop]
    have fin : ∀ J', WP (dn BI l_law10_RulesPlays_k3 [] J') K := fun J' => by
      unfold l_law10_RulesPlays_k3
      simp -implicitDefEqProofs only [go_sem, dnW_ite, reduceIte, Nat.reduceAdd, Nat.reduceLeDiff, Nat.reduceMul, Nat.reduceEqDiff, Int.reduceLT, Int.reduceLE, Int.reduceToNat, Nat.reduceSub, Nat.reduceLT, Int.reduceEq, BitVec.reduceOfInt, BitVec.reduceOfNat, Int.reduceGT, Int.reduceGE, Int.reduceBEq, Int.reduceBNe, Nat.reduceGT, Nat.reduceBEq, Nat.reduceBNe, Int.reduceAdd, Int.reduceSub, Int.reduceNeg]
      exact hT _
    refine WP_range (by decide) as.length (fun i vs J2 => vs = [.int .i64 o, m32 m, .ptr 0 0 0, .ptr 1 0 0, .ptr 2 0 0, .ptr 3 0 0, xl, nI as.length, nI i] ∧ ∃ b c d t, Pair G x3 y2 x4 y4 b c d t J2 ∧ b.ok ∧ Ls 2 c (b.l.map Cl.e)) ?_ ⟨rfl, b, c, sd, 0, ⟨rfl, rfl, rfl, rfl⟩, hbk, hcl⟩
    rintro i vs J1 ⟨rfl, b, c, d, t, hP, hbk, hcl⟩ hi K1 g1 g2 g3
    by_cases hi2 : i < as.length
    · refine plays_step G x3 y2 x4 y4 h2 h4 hr hw2 b hbk c hcl d t o m xl as hx i hi2 ha J1 hP K1 (g2 _ _ (fin _)) fun J' b c d t hP hbk hcl => ?_
      exact g1 hi2 _ _ ⟨rfl, b, c, d, t, hP, hbk, hcl⟩
    · unfold l_law10_RulesPlays_k2
      simp -implicitDefEqProofs only [go_sem, dnW_ite, reduceIte, Nat.reduceAdd, Nat.reduceLeDiff, Nat.reduceMul, Nat.reduceEqDiff, Int.reduceLT, Int.reduceLE, Int.reduceToNat, Nat.reduceSub, Nat.reduceLT, Int.reduceEq, BitVec.reduceOfInt, BitVec.reduceOfNat, Int.reduceGT, Int.reduceGE, Int.reduceBEq, Int.reduceBNe, Nat.reduceGT, Nat.reduceBEq, Nat.reduceBNe, Int.reduceAdd, Int.reduceSub, Int.reduceNeg, show ¬ ((i : Int) < (as.length : Int)) by omega]
      exact g2 _ _ (fin _)
end Go.Proofs.Ytcdlipdeemlibaa.G
