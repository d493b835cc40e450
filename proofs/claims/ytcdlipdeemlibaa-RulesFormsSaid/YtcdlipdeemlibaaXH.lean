/- Joined: RO2 to RF3. -/
import Derived.Test.YtcdlipdeemlibaaXG
set_option linter.unusedVariables false
set_option linter.unusedSimpArgs false
namespace Go.Proofs.Ytcdlipdeemlibaa.G
open Go
set_option linter.unusedSimpArgs false
set_option linter.unusedVariables false
set_option maxRecDepth 20000
set_option maxHeartbeats 2000000
theorem pow_next {i : Nat} (h : i < 32) : IntKind.u32.wrap (IntKind.u32.wrap (2 * ((2 ^ i - 1 : Nat) : Int)) + 1) = ((2 ^ (i + 1) - 1 : Nat) : Int) := by
  have h1 : 2 ^ i ≤ 2 ^ 31 := Nat.pow_le_pow_right (by omega) (by omega)
  have h2 : 1 ≤ 2 ^ i := Nat.one_le_two_pow
  have h3 : 2 ^ (i + 1) = 2 * 2 ^ i := by rw [Nat.pow_succ, Nat.mul_comm]
  rw [wrap_u32 (x := 2 * ((2 ^ i - 1 : Nat) : Int)) (by omega) (by omega), wrap_u32 (by omega) (by omega)]
  omega
theorem rAll_ok (n : Int) : pc BI F_ref10_All [.int .i64 n] = some (m32 (allM n)) := by
  refine pcE fn_ref10_All rfl fun K hK => ?_
  unfold l_ref10_All
  simp -implicitDefEqProofs only [go_sem, dnW_ite, reduceIte, Nat.reduceAdd, Nat.reduceLeDiff, Nat.reduceMul, Nat.reduceEqDiff, Int.reduceLT, Int.reduceLE, Int.reduceToNat, Nat.reduceSub, Nat.reduceLT, Int.reduceEq, BitVec.reduceOfInt, BitVec.reduceOfNat, Int.reduceGT, Int.reduceGE, Int.reduceBEq, Int.reduceBNe, Nat.reduceGT, Nat.reduceBEq, Nat.reduceBNe, Int.reduceAdd, Int.reduceSub, Int.reduceNeg, dn_loop]
  refine WP_range (by decide) (min (max n 0) 32).toNat (fun i vs J => vs = [.int .i64 n, .int .u32 ((2 ^ i - 1 : Nat) : Int), nI i]) ?_ rfl
  rintro i vs J rfl hi K1 g1 g2 g3
  have fin : i = (min (max n 0) 32).toNat → WP (dn BI l_ref10_All_k2 [.int .u32 ((2 ^ i - 1 : Nat) : Int)] J) K := fun e => by
    unfold l_ref10_All_k2
    simp -implicitDefEqProofs only [go_sem, dnW_ite, reduceIte, Nat.reduceAdd, Nat.reduceLeDiff, Nat.reduceMul, Nat.reduceEqDiff, Int.reduceLT, Int.reduceLE, Int.reduceToNat, Nat.reduceSub, Nat.reduceLT, Int.reduceEq, BitVec.reduceOfInt, BitVec.reduceOfNat, Int.reduceGT, Int.reduceGE, Int.reduceBEq, Int.reduceBNe, Nat.reduceGT, Nat.reduceBEq, Nat.reduceBNe, Int.reduceAdd, Int.reduceSub, Int.reduceNeg]
    refine hK _ _ (frzE rfl ?_)
    have h1 : 2 ^ i ≤ 2 ^ 32 := Nat.pow_le_pow_right (by omega) (by omega)
    have h2 : 1 ≤ 2 ^ i := Nat.one_le_two_pow
    simp only [itup, allM, ← e, m32, BitVec.toNat_ofNat]
    rw [Nat.mod_eq_of_lt (by omega)]
  unfold l_ref10_All_k1 l_ref10_All_k0
  by_cases h1 : (i : Int) < n
  · by_cases h2 : i < 32
    · have hw1 := wrapS h2 (show 32 ≤ 9223372036854775807 by omega)
      simp -implicitDefEqProofs only [go_sem, dnW_ite, reduceIte, Nat.reduceAdd, Nat.reduceLeDiff, Nat.reduceMul, Nat.reduceEqDiff, Int.reduceLT, Int.reduceLE, Int.reduceToNat, Nat.reduceSub, Nat.reduceLT, Int.reduceEq, BitVec.reduceOfInt, BitVec.reduceOfNat, Int.reduceGT, Int.reduceGE, Int.reduceBEq, Int.reduceBNe, Nat.reduceGT, Nat.reduceBEq, Nat.reduceBNe, Int.reduceAdd, Int.reduceSub, Int.reduceNeg, h1, show ((i : Int) < 32) by omega, pow_next h2, hw1]
      exact g1 (by omega) _ _ rfl
    · simp -implicitDefEqProofs only [go_sem, dnW_ite, reduceIte, Nat.reduceAdd, Nat.reduceLeDiff, Nat.reduceMul, Nat.reduceEqDiff, Int.reduceLT, Int.reduceLE, Int.reduceToNat, Nat.reduceSub, Nat.reduceLT, Int.reduceEq, BitVec.reduceOfInt, BitVec.reduceOfNat, Int.reduceGT, Int.reduceGE, Int.reduceBEq, Int.reduceBNe, Nat.reduceGT, Nat.reduceBEq, Nat.reduceBNe, Int.reduceAdd, Int.reduceSub, Int.reduceNeg, h1, show ¬ ((i : Int) < 32) by omega]
      exact g2 _ _ (fin (by omega))
  · simp -implicitDefEqProofs only [go_sem, dnW_ite, reduceIte, Nat.reduceAdd, Nat.reduceLeDiff, Nat.reduceMul, Nat.reduceEqDiff, Int.reduceLT, Int.reduceLE, Int.reduceToNat, Nat.reduceSub, Nat.reduceLT, Int.reduceEq, BitVec.reduceOfInt, BitVec.reduceOfNat, Int.reduceGT, Int.reduceGE, Int.reduceBEq, Int.reduceBNe, Nat.reduceGT, Nat.reduceBEq, Nat.reduceBNe, Int.reduceAdd, Int.reduceSub, Int.reduceNeg, h1]
    exact g2 _ _ (fin (by omega))
theorem within_gt (a b : BitVec 32) : (((a &&& ~~~b).toNat : Int) > 0) = (within a b = false) := by
  rw [mgt0]; unfold within
  simp
theorem gdRight_k2 (g : Gm) (x y : IV) (h : GR g x y) (hw : ∀ c ∈ g.code, c.wf) (h48 : g.cells.length ≤ 48) (hp : 0 ≤ g.players ∧ g.players ≤ 6) (J : JH) (h0 : J[0]? = some (.cells 0 (gmc g x y) false)) (K : Out IV → JH → Prop)
    (hK : ∀ J', K (.ret [.bool (g.cells.all (fun c => within c.s (allM g.obs)) && rightL g.code g.cells.length g.players.toNat)]) J') :
    WP (dn BI l_ref10_Right_k2 [.ptr 0 0 0] J) K := by
  unfold l_ref10_Right_k2
  simp -implicitDefEqProofs only [go_sem, dnW_ite, reduceIte, Nat.reduceAdd, Nat.reduceLeDiff, Nat.reduceMul, Nat.reduceEqDiff, Int.reduceLT, Int.reduceLE, Int.reduceToNat, Nat.reduceSub, Nat.reduceLT, Int.reduceEq, BitVec.reduceOfInt, BitVec.reduceOfNat, Int.reduceGT, Int.reduceGE, Int.reduceBEq, Int.reduceBNe, Nat.reduceGT, Nat.reduceBEq, Nat.reduceBNe, Int.reduceAdd, Int.reduceSub, Int.reduceNeg, h0, h.x.lenF, List.length_map, dn_loop]
  refine WP_range (by decide) g.cells.length (fun i vs J' => vs = [.ptr 0 0 0, x, nI g.cells.length, nI i] ∧ Fr J J' [] ∧ ∀ c ∈ g.cells.take i, within c.s (allM g.obs) = true) ?_ ⟨rfl, .refl _ _, by simp⟩
  rintro i vs J1 ⟨rfl, hf, hn⟩ hi K1 g1 g2 g3
  have h01 : J1[0]? = some (.cells 0 (gmc g x y) false) := by rw [hf.2 0 (lt_get h0) (by simp)]; exact h0
  unfold l_ref10_Right_k0
  by_cases hi2 : i < g.cells.length
  · have hat := fun J => h.x.at (i := i) (by simpa using hi2) (J := J)
    simp only [List.getElem_map, Cl.e, Cl.c] at hat
    have hl0 := lt_get h01
    have hwg := within_gt g.cells[i].s (allM g.obs)
    have hw1 := wrapS hi2 (show g.cells.length ≤ 9223372036854775807 by omega)
    cases hc : within g.cells[i].s (allM g.obs) with
    | false =>
      rw [hc] at hwg
      simp -implicitDefEqProofs only [go_sem, dnW_ite, reduceIte, Nat.reduceAdd, Nat.reduceLeDiff, Nat.reduceMul, Nat.reduceEqDiff, Int.reduceLT, Int.reduceLE, Int.reduceToNat, Nat.reduceSub, Nat.reduceLT, Int.reduceEq, BitVec.reduceOfInt, BitVec.reduceOfNat, Int.reduceGT, Int.reduceGE, Int.reduceBEq, Int.reduceBNe, Nat.reduceGT, Nat.reduceBEq, Nat.reduceBNe, Int.reduceAdd, Int.reduceSub, Int.reduceNeg, show ((i : Int) < (g.cells.length : Int)) by omega, hat, h01, inb h01, dcp (rAll_ok g.obs) rfl, bandNot32, hwg]
      refine g3 _ _ ?_
      have e : g.cells.all (fun c => within c.s (allM g.obs)) = false := by
        rw [List.all_eq_false]
        exact ⟨_, List.getElem_mem hi2, by rw [hc]; decide⟩
      have := fun J' => hK J'
      rw [e] at this
      exact this _
    | true =>
      rw [hc] at hwg
      simp -implicitDefEqProofs only [go_sem, dnW_ite, reduceIte, Nat.reduceAdd, Nat.reduceLeDiff, Nat.reduceMul, Nat.reduceEqDiff, Int.reduceLT, Int.reduceLE, Int.reduceToNat, Nat.reduceSub, Nat.reduceLT, Int.reduceEq, BitVec.reduceOfInt, BitVec.reduceOfNat, Int.reduceGT, Int.reduceGE, Int.reduceBEq, Int.reduceBNe, Nat.reduceGT, Nat.reduceBEq, Nat.reduceBNe, Int.reduceAdd, Int.reduceSub, Int.reduceNeg, show ((i : Int) < (g.cells.length : Int)) by omega, hat, h01, inb h01, dcp (rAll_ok g.obs) rfl, bandNot32, hwg, hw1]
      refine g1 hi2 _ _ ⟨rfl, ?_, ?_⟩
      · (have hsz_ := hf.1; repeat (first | with_reducible exact hf | with_reducible apply Fr.psh | ((with_reducible apply Fr.stn); rotate_left; first | omega | (simp only [Array.size_push, Array.size_setIfInBounds] <;> omega)) | ((with_reducible apply Fr.sts); rotate_left; focus (simp only [List.mem_cons, eq_self, true_or, or_true]; done))))
      rw [List.take_succ_eq_append_getElem hi2]
      intro c hcm
      rcases List.mem_append.1 hcm with hcm | hcm
      · exact hn c hcm
      · simp at hcm; subst hcm; exact hc
  · simp -implicitDefEqProofs only [go_sem, dnW_ite, reduceIte, Nat.reduceAdd, Nat.reduceLeDiff, Nat.reduceMul, Nat.reduceEqDiff, Int.reduceLT, Int.reduceLE, Int.reduceToNat, Nat.reduceSub, Nat.reduceLT, Int.reduceEq, BitVec.reduceOfInt, BitVec.reduceOfNat, Int.reduceGT, Int.reduceGE, Int.reduceBEq, Int.reduceBNe, Nat.reduceGT, Nat.reduceBEq, Nat.reduceBNe, Int.reduceAdd, Int.reduceSub, Int.reduceNeg, show ¬ ((i : Int) < (g.cells.length : Int)) by omega]
    refine g2 _ _ ?_
    unfold l_ref10_Right_k1
    rw [List.take_of_length_le (by omega)] at hn
    have e : g.cells.all (fun c => within c.s (allM g.obs)) = true := List.all_eq_true.2 hn
    obtain ⟨p, hp2⟩ : ∃ p : Nat, g.players = p := ⟨g.players.toNat, by omega⟩
    obtain ⟨k, hk, hkr⟩ := rCheck_ok y g.code h.y hw g.cells.length p (by omega) (by omega)
    rw [e, hp2, Bool.true_and, Int.toNat_natCast] at hK
    cases hr : rightL g.code g.cells.length p with
    | false =>
      rw [hr] at hK
      simp -implicitDefEqProofs only [go_sem, dnW_ite, reduceIte, Nat.reduceAdd, Nat.reduceLeDiff, Nat.reduceMul, Nat.reduceEqDiff, Int.reduceLT, Int.reduceLE, Int.reduceToNat, Nat.reduceSub, Nat.reduceLT, Int.reduceEq, BitVec.reduceOfInt, BitVec.reduceOfNat, Int.reduceGT, Int.reduceGE, Int.reduceBEq, Int.reduceBNe, Nat.reduceGT, Nat.reduceBEq, Nat.reduceBNe, Int.reduceAdd, Int.reduceSub, Int.reduceNeg, h01, hp2, h.x.lenF, List.length_map, dcp hk (by simp [ipureL, ipure, h.y.pure]), show ¬ k < 0 by have := hkr.2 hr; omega]
      exact hK _
    | true =>
      rw [hr] at hK
      simp -implicitDefEqProofs only [go_sem, dnW_ite, reduceIte, Nat.reduceAdd, Nat.reduceLeDiff, Nat.reduceMul, Nat.reduceEqDiff, Int.reduceLT, Int.reduceLE, Int.reduceToNat, Nat.reduceSub, Nat.reduceLT, Int.reduceEq, BitVec.reduceOfInt, BitVec.reduceOfNat, Int.reduceGT, Int.reduceGE, Int.reduceBEq, Int.reduceBNe, Nat.reduceGT, Nat.reduceBEq, Nat.reduceBNe, Int.reduceAdd, Int.reduceSub, Int.reduceNeg, h01, hp2, h.x.lenF, List.length_map, dcp hk (by simp [ipureL, ipure, h.y.pure]), show k < 0 by have := fun q => hkr.1 q; rw [hr] at this; simp at this; omega]
      exact hK _
theorem rRight10_ok (g : Gm) (x y : IV) (h : GR g x y) (hw : ∀ c ∈ g.code, c.wf) (hb : g.cells.length ≤ 9223372036854775807) : pc BI F_ref10_Right [.agg (gmc g x y)] = some (.bool g.right) := by
  refine pcE fn_ref10_Right rfl fun K hK => ?_
  unfold l_ref10_Right
  have no : g.right = false → K (.ret [.bool false]) #[.cells 0 (gmc g x y) false] := fun e => hK _ _ (frzE rfl (by rw [e]; rfl))
  by_cases h1 : g.obs < 1
  · simp -implicitDefEqProofs only [go_sem, dnW_ite, reduceIte, Nat.reduceAdd, Nat.reduceLeDiff, Nat.reduceMul, Nat.reduceEqDiff, Int.reduceLT, Int.reduceLE, Int.reduceToNat, Nat.reduceSub, Nat.reduceLT, Int.reduceEq, BitVec.reduceOfInt, BitVec.reduceOfNat, Int.reduceGT, Int.reduceGE, Int.reduceBEq, Int.reduceBNe, Nat.reduceGT, Nat.reduceBEq, Nat.reduceBNe, Int.reduceAdd, Int.reduceSub, Int.reduceNeg, h.one, h1]
    exact no (by simp [Gm.right]; omega)
  by_cases h2 : g.obs > 32
  · simp -implicitDefEqProofs only [go_sem, dnW_ite, reduceIte, Nat.reduceAdd, Nat.reduceLeDiff, Nat.reduceMul, Nat.reduceEqDiff, Int.reduceLT, Int.reduceLE, Int.reduceToNat, Nat.reduceSub, Nat.reduceLT, Int.reduceEq, BitVec.reduceOfInt, BitVec.reduceOfNat, Int.reduceGT, Int.reduceGE, Int.reduceBEq, Int.reduceBNe, Nat.reduceGT, Nat.reduceBEq, Nat.reduceBNe, Int.reduceAdd, Int.reduceSub, Int.reduceNeg, h.one, h1, h2]
    exact no (by simp [Gm.right]; omega)
  by_cases h3 : g.players < 1
  · simp -implicitDefEqProofs only [go_sem, dnW_ite, reduceIte, Nat.reduceAdd, Nat.reduceLeDiff, Nat.reduceMul, Nat.reduceEqDiff, Int.reduceLT, Int.reduceLE, Int.reduceToNat, Nat.reduceSub, Nat.reduceLT, Int.reduceEq, BitVec.reduceOfInt, BitVec.reduceOfNat, Int.reduceGT, Int.reduceGE, Int.reduceBEq, Int.reduceBNe, Nat.reduceGT, Nat.reduceBEq, Nat.reduceBNe, Int.reduceAdd, Int.reduceSub, Int.reduceNeg, h.one, h1, h2, h3]
    exact no (by simp [Gm.right]; omega)
  by_cases h4 : g.players > 6
  · simp -implicitDefEqProofs only [go_sem, dnW_ite, reduceIte, Nat.reduceAdd, Nat.reduceLeDiff, Nat.reduceMul, Nat.reduceEqDiff, Int.reduceLT, Int.reduceLE, Int.reduceToNat, Nat.reduceSub, Nat.reduceLT, Int.reduceEq, BitVec.reduceOfInt, BitVec.reduceOfNat, Int.reduceGT, Int.reduceGE, Int.reduceBEq, Int.reduceBNe, Nat.reduceGT, Nat.reduceBEq, Nat.reduceBNe, Int.reduceAdd, Int.reduceSub, Int.reduceNeg, h.one, h1, h2, h3, h4]
    exact no (by simp [Gm.right]; omega)
  by_cases h4' : g.players > g.obs
  · simp -implicitDefEqProofs only [go_sem, dnW_ite, reduceIte, Nat.reduceAdd, Nat.reduceLeDiff, Nat.reduceMul, Nat.reduceEqDiff, Int.reduceLT, Int.reduceLE, Int.reduceToNat, Nat.reduceSub, Nat.reduceLT, Int.reduceEq, BitVec.reduceOfInt, BitVec.reduceOfNat, Int.reduceGT, Int.reduceGE, Int.reduceBEq, Int.reduceBNe, Nat.reduceGT, Nat.reduceBEq, Nat.reduceBNe, Int.reduceAdd, Int.reduceSub, Int.reduceNeg, h.one, h1, h2, h3, h4, h4']
    exact no (by simp [Gm.right]; omega)
  by_cases h5 : (g.moves.toNat : Int) ≤ (g.dflt.toNat : Int)
  · simp -implicitDefEqProofs only [go_sem, dnW_ite, reduceIte, Nat.reduceAdd, Nat.reduceLeDiff, Nat.reduceMul, Nat.reduceEqDiff, Int.reduceLT, Int.reduceLE, Int.reduceToNat, Nat.reduceSub, Nat.reduceLT, Int.reduceEq, BitVec.reduceOfInt, BitVec.reduceOfNat, Int.reduceGT, Int.reduceGE, Int.reduceBEq, Int.reduceBNe, Nat.reduceGT, Nat.reduceBEq, Nat.reduceBNe, Int.reduceAdd, Int.reduceSub, Int.reduceNeg, h.one, h1, h2, h3, h4, h4', h5]
    exact no (by simp [Gm.right]; omega)
  by_cases h6 : (g.cells.length : Int) > 48
  · simp -implicitDefEqProofs only [go_sem, dnW_ite, reduceIte, Nat.reduceAdd, Nat.reduceLeDiff, Nat.reduceMul, Nat.reduceEqDiff, Int.reduceLT, Int.reduceLE, Int.reduceToNat, Nat.reduceSub, Nat.reduceLT, Int.reduceEq, BitVec.reduceOfInt, BitVec.reduceOfNat, Int.reduceGT, Int.reduceGE, Int.reduceBEq, Int.reduceBNe, Nat.reduceGT, Nat.reduceBEq, Nat.reduceBNe, Int.reduceAdd, Int.reduceSub, Int.reduceNeg, h.one, h1, h2, h3, h4, h4', h5, h.x.lenF, List.length_map, h6]
    exact no (by simp [Gm.right]; omega)
  simp -implicitDefEqProofs only [go_sem, dnW_ite, reduceIte, Nat.reduceAdd, Nat.reduceLeDiff, Nat.reduceMul, Nat.reduceEqDiff, Int.reduceLT, Int.reduceLE, Int.reduceToNat, Nat.reduceSub, Nat.reduceLT, Int.reduceEq, BitVec.reduceOfInt, BitVec.reduceOfNat, Int.reduceGT, Int.reduceGE, Int.reduceBEq, Int.reduceBNe, Nat.reduceGT, Nat.reduceBEq, Nat.reduceBNe, Int.reduceAdd, Int.reduceSub, Int.reduceNeg, h.one, h1, h2, h3, h4, h4', h5, h.x.lenF, List.length_map, h6]
  refine gdRight_k2 g x y h hw (by omega) (by omega) _ rfl K fun J' => hK _ _ (frzE rfl ?_)
  have e1 : decide (1 ≤ g.obs ∧ g.obs ≤ 32) = true := by simp; omega
  have e2 : decide (1 ≤ g.players ∧ g.players ≤ 6 ∧ g.players ≤ g.obs) = true := by simp; omega
  have e3 : decide (g.dflt.toNat < g.moves.toNat) = true := by simp; omega
  have e4 : decide (g.cells.length ≤ 48) = true := by simp; omega
  simp [Gm.right, e1, e2, e3, e4, itup]
end Go.Proofs.Ytcdlipdeemlibaa.G
namespace Go.Proofs.Ytcdlipdeemlibaa.G
open Go
set_option linter.unusedSimpArgs false
set_option linter.unusedVariables false
set_option maxRecDepth 20000
set_option maxHeartbeats 2000000
theorem RJoinW_ok {x : IV} {ps : List (List Byt)} (hx : LsR 1 BR x ps) (hn : ps.length ≤ 1000) (hb : ps.flatten.length ≤ 1000000) (J0 : JH) : RP (ic BI F_ref01_Join [x] J0) fun v J' => Grow J' v 1 (ps.flatten.map by8) ∧ Fr J0 J' [] ∧ ∀ b ∈ blk v, J0.size ≤ b := by
  refine RP_run fn_ref01_Join rfl fun K hK => ?_
  unfold l_ref01_Join
  simp -implicitDefEqProofs only [go_sem, dnW_ite, reduceIte, Nat.reduceAdd, Nat.reduceLeDiff, Nat.reduceMul, Nat.reduceEqDiff, Int.reduceLT, Int.reduceLE, Int.reduceToNat, Nat.reduceSub, Nat.reduceLT, Int.reduceEq, BitVec.reduceOfInt, BitVec.reduceOfNat, Int.reduceGT, Int.reduceGE, Int.reduceBEq, Int.reduceBNe, Nat.reduceGT, Nat.reduceBEq, Nat.reduceBNe, Int.reduceAdd, Int.reduceSub, Int.reduceNeg, hx.lenF, dn_loop]
  refine WP_range (by decide) ps.length (fun i vs J => ∃ out, vs = [out, x, nI ps.length, nI i] ∧ Grow J out 1 ((ps.take i).flatten.map by8) ∧ Fr J0 J [] ∧ ∀ b ∈ blk out, J0.size ≤ b) ?_ ⟨.sc (.slice none 0 0), rfl, .nil, .refl _ _, by simp [blk, blkOf]⟩
  rintro i vs J ⟨out, rfl, hg, hf, ho⟩ hi K1 g1 g2 g3
  unfold l_ref01_Join_k0
  by_cases h : i < ps.length
  · obtain ⟨e, he, hat⟩ := hx.at h
    have hw1 := wrapS h (show ps.length ≤ 9223372036854775807 by omega)
    have hfl := flat_le (ps := ps) (i + 1)
    rw [List.take_succ_eq_append_getElem h, List.flatten_append] at hfl
    simp only [List.flatten_cons, List.flatten_nil, List.append_nil, List.length_append] at hfl
    simp -implicitDefEqProofs only [go_sem, dnW_ite, reduceIte, Nat.reduceAdd, Nat.reduceLeDiff, Nat.reduceMul, Nat.reduceEqDiff, Int.reduceLT, Int.reduceLE, Int.reduceToNat, Nat.reduceSub, Nat.reduceLT, Int.reduceEq, BitVec.reduceOfInt, BitVec.reduceOfNat, Int.reduceGT, Int.reduceGE, Int.reduceBEq, Int.reduceBNe, Nat.reduceGT, Nat.reduceBEq, Nat.reduceBNe, Int.reduceAdd, Int.reduceSub, Int.reduceNeg, show ((i : Int) < (ps.length : Int)) by omega, hat, ↓he.icells]
    refine WP_bind (hg.app (m := ps[i].length) (ds := ps[i].map by8) (by omega) (by rw [he.cells, by8_cells]) (by rw [he.ilen, List.length_map]) (by simp) by8_one (fits1 ?_)) fun out' J' hs => ?_
    · simp only [List.length_map]; omega
    obtain ⟨k1, k2, k3⟩ := hs
    simp -implicitDefEqProofs only [go_sem, dnW_ite, reduceIte, Nat.reduceAdd, Nat.reduceLeDiff, Nat.reduceMul, Nat.reduceEqDiff, Int.reduceLT, Int.reduceLE, Int.reduceToNat, Nat.reduceSub, Nat.reduceLT, Int.reduceEq, BitVec.reduceOfInt, BitVec.reduceOfNat, Int.reduceGT, Int.reduceGE, Int.reduceBEq, Int.reduceBNe, Nat.reduceGT, Nat.reduceBEq, Nat.reduceBNe, Int.reduceAdd, Int.reduceSub, Int.reduceNeg, hw1]
    refine g1 h _ _ ⟨out', rfl, ?_, ?_, fun b hb => ?_⟩
    · rw [List.take_succ_eq_append_getElem h, List.flatten_append]
      simp only [List.flatten_cons, List.flatten_nil, List.append_nil]
      rw [← by8_grow]
      exact k1
    · refine ⟨Nat.le_trans hf.1 k2.1, fun d hd hm => ?_⟩
      rw [k2.2 d (by have := hf.1; omega) (fun hm2 => by have := ho d hm2; omega)]
      exact hf.2 d hd hm
    · rcases k3 b hb with hb | hb
      · exact ho b hb
      · have := hf.1; omega
  · simp -implicitDefEqProofs only [go_sem, dnW_ite, reduceIte, Nat.reduceAdd, Nat.reduceLeDiff, Nat.reduceMul, Nat.reduceEqDiff, Int.reduceLT, Int.reduceLE, Int.reduceToNat, Nat.reduceSub, Nat.reduceLT, Int.reduceEq, BitVec.reduceOfInt, BitVec.reduceOfNat, Int.reduceGT, Int.reduceGE, Int.reduceBEq, Int.reduceBNe, Nat.reduceGT, Nat.reduceBEq, Nat.reduceBNe, Int.reduceAdd, Int.reduceSub, Int.reduceNeg, show ¬ ((i : Int) < (ps.length : Int)) by omega]
    refine g2 _ _ ?_
    unfold l_ref01_Join_k1
    simp -implicitDefEqProofs only [go_sem, dnW_ite, reduceIte, Nat.reduceAdd, Nat.reduceLeDiff, Nat.reduceMul, Nat.reduceEqDiff, Int.reduceLT, Int.reduceLE, Int.reduceToNat, Nat.reduceSub, Nat.reduceLT, Int.reduceEq, BitVec.reduceOfInt, BitVec.reduceOfNat, Int.reduceGT, Int.reduceGE, Int.reduceBEq, Int.reduceBNe, Nat.reduceGT, Nat.reduceBEq, Nat.reduceBNe, Int.reduceAdd, Int.reduceSub, Int.reduceNeg]
    rw [List.take_of_length_le (by omega)] at hg
    exact hK _ _ ⟨hg, hf, ho⟩
def BV (J : JH) (e : IV) (q : List Byt) : Prop := Ls 1 e (q.map by8) ∨ ∃ b v c full f, e = .sl b v 0 q.length c 1 ∧ J[b]? = some (.cells v full f) ∧ full.take q.length = q.map by8
theorem BV.keep {J J' : JH} {e : IV} {q : List Byt} (h : BV J e q) (k : KeepC J J') : BV J' e q := by
  rcases h with h | ⟨b, v, c, full, f, h1, h2, h3⟩
  · exact .inl h
  · obtain ⟨f', h'⟩ := k b v full f h2
    exact .inr ⟨b, v, c, full, f', h1, h', h3⟩
theorem BV.fr {J J' : JH} {e : IV} {q : List Byt} {S : List Nat} (h : BV J e q) (k : Fr J J' S) (hs : ∀ b ∈ blk e, b ∉ S) : BV J' e q := by
  rcases h with h | ⟨b, v, c, full, f, rfl, h2, h3⟩
  · exact .inl h
  · exact .inr ⟨b, v, c, full, f, rfl, by rw [k.2 b (lt_get h2) (hs b (by simp [blk, blkOf]))]; exact h2, h3⟩
theorem BV.low {J : JH} {e : IV} {q : List Byt} (h : BV J e q) : ∀ b ∈ blk e, b < J.size := by
  rcases h with h | ⟨b, v, c, full, f, rfl, h2, h3⟩
  · intro b hb
    rcases h with ⟨rfl, _⟩ | ⟨f, rfl⟩ <;> simp [blk, blkOf] at hb
  · intro d hd
    simp [blk, blkOf] at hd
    subst hd
    exact lt_get h2
theorem BV.rd {J : JH} {b v : Nat} {f : Bool} {q : List Byt} {full : List IV} (h2 : J[b]? = some (.cells v full f)) (h3 : full.take q.length = q.map by8) : ird J b v 0 (q.length * 1) = some (q.map by8) := by
  have hl : q.length ≤ full.length := by
    have := congrArg List.length h3
    rw [List.length_take, List.length_map] at this
    omega
  simp only [ird, h2, true_and, Nat.zero_add, List.drop_zero, Nat.mul_one]
  rw [if_pos hl, h3]
theorem BV.frz {J : JH} {e : IV} {q : List Byt} (h : BV J e q) : ∃ u, (∀ k, Go.Proofs.Ytcdlipdeemlibaa.G.frz J (k + 1) e = some u) ∧ BR u q := by
  rcases h with h | ⟨b, v, c, full, f, rfl, h2, h3⟩
  · exact ⟨e, fun k => frz_pure _ _ h.pure, h⟩
  · refine ⟨_, fun k => frz_sl (by omega) (BV.rd h2 h3) by8_pure by8_one, ?_⟩
    rw [show q.length = (q.map by8).length by simp, grp1]
    exact .lst
theorem BV.shows {J : JH} {e : IV} {q : List Byt} (h : BV J e q) : ∀ d ∈ Go.Proofs.Ytcdlipdeemlibaa.G.shows J DEP e, d ∈ blk e := by
  rcases h with h | ⟨b, v, c, full, f, rfl, h2, h3⟩
  · intro d hd; rw [shows_pure J _ h.pure] at hd; cases hd
  · intro d hd
    rw [frz12, shows_sl (BV.rd h2 h3) by8_pure] at hd
    exact hd
theorem Grow.bv {J : JH} {e : IV} {q : List Byt} (h : Grow J e 1 (q.map by8)) : BV J e q := by
  rcases h with ⟨rfl, h0⟩ | ⟨b, v, n, full, rfl, h1, h2, h3, h4⟩
  · left; rw [h0]; exact .nil
  · have hn : n = q.length := by
      have := congrArg List.length h3
      rw [List.length_take, List.length_map] at this
      omega
    subst hn
    exact .inr ⟨b, v, _, full, false, rfl, h1, by rw [Nat.mul_one] at h3; exact h3⟩
end Go.Proofs.Ytcdlipdeemlibaa.G
namespace Go.Proofs.Ytcdlipdeemlibaa.G
open Go
set_option linter.unusedSimpArgs false
set_option linter.unusedVariables false
set_option maxRecDepth 20000
set_option maxHeartbeats 2000000
theorem bSame8 {x y : IV} {p q : List Byt} (hx : BR x p) (hy : BR y q) (hb : p.length ≤ 1000000) : pc BI F_ref01_Same [x, y] = some (.bool (decide (p = q))) := by
  have h := bSame_ok (x := x) (y := y) (as := p.map fun b => (b.toNat : Int)) (bs := q.map fun b => (b.toNat : Int)) (by rw [Bs, ← map_by8]; exact hx) (by rw [Bs, ← map_by8]; exact hy) (by simpa using hb)
  rw [h]
  congr 2
  rw [Bool.eq_iff_iff]
  simp only [decide_eq_true_eq]
  constructor
  · intro e
    refine List.map_inj_right (f := fun b : Byt => (b.toNat : Int)) ?_ |>.1 e
    intro a b hab
    exact BitVec.eq_of_toNat_eq (by simpa using Int.ofNat.inj hab)
  · intro e; rw [e]
theorem KeepC.psh {J J' : JH} (h : KeepC J J') (X : IB) : KeepC J (J'.push X) := fun d w cs f hd => by
  obtain ⟨f', h'⟩ := h d w cs f hd
  exact ⟨f', by rw [Array.getElem?_push, if_neg (by have := lt_get h'; omega)]; exact h'⟩
def forms_rest : L :=
    o (.ext (.tmp 6) 0) <|
    o (.ext (.tmp 6) 1) <|
    o (.new 26) <|
    o (.store 6 (.tmp 9) (.tmp 7)) <|
    o (.bin .neq (.tmp 8) (.const (.int .i64 0))) <|
    .ite (.tmp 11)
      (o (.bin .neq (.tmp 8) (.const (.int .i64 2))) <|
      .ite (.tmp 12)
        (.ret [(.const (.bool false))])
        (o (.load true 6 (.tmp 9)) <|
        o (.build 26 []) <|
        om .pure (.call F_rules_Same [(.tmp 13), (.tmp 14)]) <|
        o (.un .not (.tmp 15)) <|
        .ite (.tmp 16)
          (.ret [(.const (.bool false))])
          (o (.bin .eql (.tmp 8) (.const (.int .i64 0))) <|
          .ite (.tmp 17)
            (o (.load true 6 (.tmp 9)) <|
            om .pure (.call F_rules_Game_Bytes [(.tmp 18)]) <|
            om .pure (.call F_ref01_Same [(.tmp 19), (.tmp 5)]) <|
            o (.un .not (.tmp 20)) <|
            .ite (.tmp 21)
              (.ret [(.const (.bool false))])
              (o (.bin .add (.tmp 2) (.const (.int .i64 1))) <|
              .goto 2 [(.tmp 0), (.tmp 1), (.tmp 22)]))
            (o (.bin .add (.tmp 2) (.const (.int .i64 1))) <|
            .goto 2 [(.tmp 0), (.tmp 1), (.tmp 18)]))))
      (o (.bin .eql (.tmp 8) (.const (.int .i64 0))) <|
      .ite (.tmp 12)
        (o (.load true 6 (.tmp 9)) <|
        om .pure (.call F_rules_Game_Bytes [(.tmp 13)]) <|
        om .pure (.call F_ref01_Same [(.tmp 14), (.tmp 5)]) <|
        o (.un .not (.tmp 15)) <|
        .ite (.tmp 16)
          (.ret [(.const (.bool false))])
          (o (.bin .add (.tmp 2) (.const (.int .i64 1))) <|
          .goto 2 [(.tmp 0), (.tmp 1), (.tmp 17)]))
        (o (.bin .add (.tmp 2) (.const (.int .i64 1))) <|
        .goto 2 [(.tmp 0), (.tmp 1), (.tmp 13)]))
theorem forms_mid {x w e : IV} {q : List Byt} {J : JH} (n i : Nat) (hi : i < n) (hn : n ≤ 1000) (hq : BV J e q) (hl : q.length ≤ 1000000) (K : Out IV → JH → Prop) (hk : ∀ J', Fr J J' (blk e) → KeepC J J' → K (.goto 2 [x, nI n, nI (i + 1)]) J') :
    WP (thenD (doCall (ic BI) .pure F_rules_Parse [e] J) forms_rest [x, nI n, nI i, .bool true, w, e]) K := by
  obtain ⟨u, hu, hul⟩ := hq.frz
  obtain ⟨r, hr, hr2⟩ := GParse_ok hul hl
  have hw1 := wrapS hi (show n ≤ 9223372036854775807 by omega)
  have h2t : (((2 : Nat) : Int) != 0) = true := rfl
  have h22 : (((2 : Nat) : Int) != 2) = false := rfl
  have h2e : (((2 : Nat) : Int) == 0) = false := rfl
  have h0f : (((0 : Nat) : Int) != 0) = false := rfl
  have h0e : (((0 : Nat) : Int) == 0) = true := rfl
  unfold forms_rest
  refine WP_callK (S := blk e) (.raw (hu 11) hq.shows .nil) hr fun J2 f2 z2 kc => ?_
  cases hg : gameP q with
  | none =>
    rw [hg] at hr2
    simp only at hr2
    subst hr2
    have hz : GR Gz nilS nilS := ⟨.nil, .nil⟩
    have hs := GSame_ok Gz Gz nilS nilS nilS nilS hz hz (by simp [Gz]) (by simp [Gz]) (by simp [Gz]) (by simp [Gz])
    have hs' : pc BI F_rules_Same [.agg (gmc Gz nilS nilS), .agg [.sc (.int .i64 0), .sc (.int .i64 0), .sc (.int .u32 0), .sc (.int .u32 0), nilS, nilS]] = some (.bool (decide (Gz = Gz))) := hs
    simp -implicitDefEqProofs only [go_sem, dnW_ite, reduceIte, Nat.reduceAdd, Nat.reduceLeDiff, Nat.reduceMul, Nat.reduceEqDiff, Int.reduceLT, Int.reduceLE, Int.reduceToNat, Nat.reduceSub, Nat.reduceLT, Int.reduceEq, BitVec.reduceOfInt, BitVec.reduceOfNat, Int.reduceGT, Int.reduceGE, Int.reduceBEq, Int.reduceBNe, Nat.reduceGT, Nat.reduceBEq, Nat.reduceBNe, Int.reduceAdd, Int.reduceSub, Int.reduceNeg, hz.one, h2t, h22, h2e, hs', dcp hs' rfl, decide_true, hw1]
    exact hk _ (f2.trans (.push _ _ _) (fun _ _ h => h)) (kc.psh _)
  | some G =>
    rw [hg] at hr2
    obtain ⟨x2, y2, rfl, hG, hw⟩ := hr2
    obtain ⟨e1, e2, e3, e4⟩ := gameP_inv hg
    obtain ⟨v, hv, hvl⟩ := GBytes_ok G x2 y2 hG hw e2
    rw [e1] at hvl
    simp -implicitDefEqProofs only [go_sem, dnW_ite, reduceIte, Nat.reduceAdd, Nat.reduceLeDiff, Nat.reduceMul, Nat.reduceEqDiff, Int.reduceLT, Int.reduceLE, Int.reduceToNat, Nat.reduceSub, Nat.reduceLT, Int.reduceEq, BitVec.reduceOfInt, BitVec.reduceOfNat, Int.reduceGT, Int.reduceGE, Int.reduceBEq, Int.reduceBNe, Nat.reduceGT, Nat.reduceBEq, Nat.reduceBNe, Int.reduceAdd, Int.reduceSub, Int.reduceNeg, hG.one, h0f, h0e, dcp hv (by simp [ipureL, ipure, hG.pure])]
    have f3 := f2.trans (Fr.push J2 (IB.cells 0 (gmc G x2 y2) false) (blk e)) (fun _ _ h => h)
    have k3 := kc.psh (IB.cells 0 (gmc G x2 y2) false)
    have hq3 := hq.keep k3
    generalize J2.push (IB.cells 0 (gmc G x2 y2) false) = J3 at *
    obtain ⟨u3, hu3, hul3⟩ := hq3.frz
    have hS := bSame8 hvl hul3 hl
    have hm : [v, e].mapM (frz J3 DEP) = some [v, u3] := by
      simp only [List.mapM_cons, List.mapM_nil, show frz J3 DEP v = some v from frzP hvl.pure, show frz J3 DEP e = some u3 from hu3 11]; rfl
    refine WP_callS hm hS rfl ?_
    simp -implicitDefEqProofs only [go_sem, dnW_ite, reduceIte, Nat.reduceAdd, Nat.reduceLeDiff, Nat.reduceMul, Nat.reduceEqDiff, Int.reduceLT, Int.reduceLE, Int.reduceToNat, Nat.reduceSub, Nat.reduceLT, Int.reduceEq, BitVec.reduceOfInt, BitVec.reduceOfNat, Int.reduceGT, Int.reduceGE, Int.reduceBEq, Int.reduceBNe, Nat.reduceGT, Nat.reduceBEq, Nat.reduceBNe, Int.reduceAdd, Int.reduceSub, Int.reduceNeg, decide_true, hw1]
    exact hk _ f3 k3
def TL (J : JH) (x : IV) (es : List IV) : Prop := (∃ f, x = .lst 1 f es) ∨ ∃ B, x = .sl B 0 0 es.length es.length 1 ∧ J[B]? = some (.cells 0 es false) ∧ ∀ e ∈ es, B ∉ blk e
theorem TL.fr {J J' : JH} {x : IV} {es : List IV} {e : IV} (h : TL J x es) (he : e ∈ es) (hf : Fr J J' (blk e)) : TL J' x es := by
  rcases h with h | ⟨B, h1, h2, h3⟩
  · exact .inl h
  · exact .inr ⟨B, h1, by rw [hf.2 B (lt_get h2) (h3 e he)]; exact h2, h3⟩
theorem BV.icells {J : JH} {e : IV} {q : List Byt} (h : BV J e q) : Go.Proofs.Ytcdlipdeemlibaa.G.icells e = [e] := by
  rcases h with h | ⟨b, v, c, full, f, rfl, h2, h3⟩
  · exact h.icells
  · rfl
theorem forms_loop {x : IV} {es : List IV} {qs : List (List Byt)} {J : JH} (hx : TL J x es) (hlen : es.length = qs.length) (hn : qs.length ≤ 1000) (hq : ∀ i (h : i < es.length) (h' : i < qs.length), BV J es[i] qs[i]) (hl : ∀ q ∈ qs, q.length ≤ 1000000) (K : Out IV → JH → Prop) (hk : ∀ J', K (.goto 1 []) J') :
    WP (iter (dn BI l_law10_RulesForms_k2) 2 [x, nI qs.length, nI 0] J) K := by
  refine WP_rangeT qs.length (fun i vs J => vs = [x, nI qs.length, nI i] ∧ TL J x es ∧ ∀ i (h : i < es.length) (h' : i < qs.length), BV J es[i] qs[i]) ?_ ⟨rfl, hx, hq⟩
  rintro i vs J ⟨rfl, hx, hq⟩ hi K1 g1 g2 g3
  unfold l_law10_RulesForms_k2
  by_cases h : i < qs.length
  · have h' : i < es.length := by omega
    have hqi := hq i h' h
    have fin : ∀ J', Fr J J' (blk es[i]) → KeepC J J' → K1 (.goto 2 [x, nI qs.length, nI (i + 1)]) J' := fun J' hf hkc => g1 h _ _ ⟨rfl, hx.fr (List.getElem_mem h') hf, fun j h1 h2 => (hq j h1 h2).keep hkc⟩
    have mid := fun w => forms_mid (x := x) (w := w) qs.length i h hn hqi (hl _ (List.getElem_mem h)) K1 fin
    rcases hx with ⟨f, rfl⟩ | ⟨B, rfl, hB, hno⟩
    · have hat := (Ls.lst (sz := 1) (f := f) (xs := es)).at (i := i) h' (J := J)
      simp -implicitDefEqProofs only [go_sem, dnW_ite, reduceIte, Nat.reduceAdd, Nat.reduceLeDiff, Nat.reduceMul, Nat.reduceEqDiff, Int.reduceLT, Int.reduceLE, Int.reduceToNat, Nat.reduceSub, Nat.reduceLT, Int.reduceEq, BitVec.reduceOfInt, BitVec.reduceOfNat, Int.reduceGT, Int.reduceGE, Int.reduceBEq, Int.reduceBNe, Nat.reduceGT, Nat.reduceBEq, Nat.reduceBNe, Int.reduceAdd, Int.reduceSub, Int.reduceNeg, show ((i : Int) < (qs.length : Int)) by omega, hat, ↓hqi.icells]
      exact mid _
    · have hd : (es.drop i).take 1 = [es[i]] := by
        rw [List.drop_eq_getElem_cons h']; rfl
      simp -implicitDefEqProofs only [go_sem, dnW_ite, reduceIte, Nat.reduceAdd, Nat.reduceLeDiff, Nat.reduceMul, Nat.reduceEqDiff, Int.reduceLT, Int.reduceLE, Int.reduceToNat, Nat.reduceSub, Nat.reduceLT, Int.reduceEq, BitVec.reduceOfInt, BitVec.reduceOfNat, Int.reduceGT, Int.reduceGE, Int.reduceBEq, Int.reduceBNe, Nat.reduceGT, Nat.reduceBEq, Nat.reduceBNe, Int.reduceAdd, Int.reduceSub, Int.reduceNeg, show ((i : Int) < (qs.length : Int)) by omega, h', show i + 1 ≤ es.length by omega, hB, hd, inb hB]
      exact mid _
  · simp -implicitDefEqProofs only [go_sem, dnW_ite, reduceIte, Nat.reduceAdd, Nat.reduceLeDiff, Nat.reduceMul, Nat.reduceEqDiff, Int.reduceLT, Int.reduceLE, Int.reduceToNat, Nat.reduceSub, Nat.reduceLT, Int.reduceEq, BitVec.reduceOfInt, BitVec.reduceOfNat, Int.reduceGT, Int.reduceGE, Int.reduceBEq, Int.reduceBNe, Nat.reduceGT, Nat.reduceBEq, Nat.reduceBNe, Int.reduceAdd, Int.reduceSub, Int.reduceNeg, show ¬ ((i : Int) < (qs.length : Int)) by omega]
    exact g2 _ _ _ (by decide) (hk _)
end Go.Proofs.Ytcdlipdeemlibaa.G
namespace Go.Proofs.Ytcdlipdeemlibaa.G
open Go
set_option linter.unusedSimpArgs false
set_option linter.unusedVariables false
set_option maxRecDepth 20000
set_option maxHeartbeats 2000000
theorem BV.one {J : JH} {e : IV} {q : List Byt} (h : BV J e q) : ione e = true := by
  rcases h with h | ⟨b, v, c, full, f, rfl, h2, h3⟩
  · exact h.one
  · rfl
theorem forms_k4 {er ep eb : IV} {r p q : List Byt} {J : JH} (hr : BR er r) (hp : BR ep p) (hb : BV J eb q) (hrl : r.length ≤ 60) (hpl : p.length ≤ 10000) (hql : q.length ≤ 10000) (K : Out IV → JH → Prop) (hK : ∀ J', K (.ret [.bool true]) J') :
    WP (dn BI l_law10_RulesForms_k4 [er, ep, eb] J) K := by
  unfold l_law10_RulesForms_k4
  simp -implicitDefEqProofs only [go_sem, dnW_ite, reduceIte, Nat.reduceAdd, Nat.reduceLeDiff, Nat.reduceMul, Nat.reduceEqDiff, Int.reduceLT, Int.reduceLE, Int.reduceToNat, Nat.reduceSub, Nat.reduceLT, Int.reduceEq, BitVec.reduceOfInt, BitVec.reduceOfNat, Int.reduceGT, Int.reduceGE, Int.reduceBEq, Int.reduceBNe, Nat.reduceGT, Nat.reduceBEq, Nat.reduceBNe, Int.reduceAdd, Int.reduceSub, Int.reduceNeg, ipureL, ipure, grp, mkE, List.headD, List.drop_succ_cons, List.take_succ_cons, ↓hr.icells, ↓hr.one, ↓hr.pure, ↓hp.icells, ↓hp.one, ↓hp.pure]
  refine WP_join fun K2 j1 j2 j3 => ?_
  refine WP_call (RJoinW_ok (LsR2 (sz := 1) (f := true) hp hr) (by simp) (by simp; omega) J) fun v J2 hv => ?_
  obtain ⟨hg, hf, hn⟩ := hv
  have hv2 : BV J2 v (p ++ r) := by
    have := hg.bv
    simpa using this
  have hb2 := hb.fr hf (by simp)
  have hr2 : BV J2 er r := .inl hr
  have hdone : ∀ J', K2 (.goto 1 []) J' := fun J' => j1 _ _ (by
    unfold l_law10_RulesForms_k3
    simp -implicitDefEqProofs only [go_sem, dnW_ite, reduceIte, Nat.reduceAdd, Nat.reduceLeDiff, Nat.reduceMul, Nat.reduceEqDiff, Int.reduceLT, Int.reduceLE, Int.reduceToNat, Nat.reduceSub, Nat.reduceLT, Int.reduceEq, BitVec.reduceOfInt, BitVec.reduceOfNat, Int.reduceGT, Int.reduceGE, Int.reduceBEq, Int.reduceBNe, Nat.reduceGT, Nat.reduceBEq, Nat.reduceBNe, Int.reduceAdd, Int.reduceSub, Int.reduceNeg]
    exact hK _)
  have hqs : ∀ s ∈ [q, r, p ++ r], s.length ≤ 1000000 := by
    intro s hs
    simp only [List.mem_cons, List.not_mem_nil, or_false] at hs
    rcases hs with rfl | rfl | rfl
    · omega
    · omega
    · rw [List.length_append]; omega
  have h3 : ∀ J, BV J eb q → BV J v (p ++ r) → ∀ i (h : i < [eb, er, v].length) (h' : i < [q, r, p ++ r].length), BV J [eb, er, v][i] [q, r, p ++ r][i] := fun J k1 k2 i h h' => by
    match i, h with
    | 0, _ => exact k1
    | 1, _ => exact .inl hr
    | 2, _ => exact k2
  have hlow := hb2.low
  have hlow2 := hv2.low
  cases hpu : ipureL [eb, er, v] with
  | true =>
    simp -implicitDefEqProofs only [go_sem, dnW_ite, reduceIte, Nat.reduceAdd, Nat.reduceLeDiff, Nat.reduceMul, Nat.reduceEqDiff, Int.reduceLT, Int.reduceLE, Int.reduceToNat, Nat.reduceSub, Nat.reduceLT, Int.reduceEq, BitVec.reduceOfInt, BitVec.reduceOfNat, Int.reduceGT, Int.reduceGE, Int.reduceBEq, Int.reduceBNe, Nat.reduceGT, Nat.reduceBEq, Nat.reduceBNe, Int.reduceAdd, Int.reduceSub, Int.reduceNeg, ↓hpu, ↓hb2.icells, ↓hb2.one, ↓hr.icells, ↓hr.one, ↓hv2.icells, ↓hv2.one, grp, mkE, List.headD, List.drop_succ_cons, List.take_succ_cons]
    simp -implicitDefEqProofs only [go_sem, dnW_ite, reduceIte, Nat.reduceAdd, Nat.reduceLeDiff, Nat.reduceMul, Nat.reduceEqDiff, Int.reduceLT, Int.reduceLE, Int.reduceToNat, Nat.reduceSub, Nat.reduceLT, Int.reduceEq, BitVec.reduceOfInt, BitVec.reduceOfNat, Int.reduceGT, Int.reduceGE, Int.reduceBEq, Int.reduceBNe, Nat.reduceGT, Nat.reduceBEq, Nat.reduceBNe, Int.reduceAdd, Int.reduceSub, Int.reduceNeg, dn_loop]
    exact forms_loop (es := [eb, er, v]) (qs := [q, r, p ++ r]) (.inl ⟨true, rfl⟩) rfl (by simp) (h3 _ hb2 hv2) hqs K2 hdone
  | false =>
    simp -implicitDefEqProofs only [go_sem, dnW_ite, reduceIte, Nat.reduceAdd, Nat.reduceLeDiff, Nat.reduceMul, Nat.reduceEqDiff, Int.reduceLT, Int.reduceLE, Int.reduceToNat, Nat.reduceSub, Nat.reduceLT, Int.reduceEq, BitVec.reduceOfInt, BitVec.reduceOfNat, Int.reduceGT, Int.reduceGE, Int.reduceBEq, Int.reduceBNe, Nat.reduceGT, Nat.reduceBEq, Nat.reduceBNe, Int.reduceAdd, Int.reduceSub, Int.reduceNeg, ↓hpu, ↓hb2.icells, ↓hb2.one, ↓hr.icells, ↓hr.one, ↓hv2.icells, ↓hv2.one, grp, mkE, List.headD, List.drop_succ_cons, List.take_succ_cons]
    simp -implicitDefEqProofs only [go_sem, dnW_ite, reduceIte, Nat.reduceAdd, Nat.reduceLeDiff, Nat.reduceMul, Nat.reduceEqDiff, Int.reduceLT, Int.reduceLE, Int.reduceToNat, Nat.reduceSub, Nat.reduceLT, Int.reduceEq, BitVec.reduceOfInt, BitVec.reduceOfNat, Int.reduceGT, Int.reduceGE, Int.reduceBEq, Int.reduceBNe, Nat.reduceGT, Nat.reduceBEq, Nat.reduceBNe, Int.reduceAdd, Int.reduceSub, Int.reduceNeg, dn_loop]
    refine forms_loop (es := [eb, er, v]) (qs := [q, r, p ++ r]) (.inr ⟨J2.size, rfl, push_get _ _, fun e he hm => ?_⟩) rfl (by simp) (h3 _ (hb2.fr (.push _ _ []) (by simp)) (hv2.fr (.push _ _ []) (by simp))) hqs K2 hdone
    simp only [List.mem_cons, List.not_mem_nil, or_false] at he
    rcases he with rfl | rfl | rfl
    · have := hlow _ hm; omega
    · have := hr2.low _ hm; omega
    · have := hlow2 _ hm; omega
theorem forms_k0 {er ep : IV} {r p : List Byt} {J : JH} (hr : BR er r) (hp : BR ep p) (hrl : r.length ≤ 60) (hpl : p.length ≤ 10000) (hp0 : p ≠ []) (at' : Nat) (hat : at' < 65536) (t : Byt) (K : Out IV → JH → Prop)
    (hK : ∀ J' eb q, BV J' eb q → q.length ≤ 10000 → K (.goto 0 [er, ep, eb]) J') :
    WP (dn BI l_law10_RulesForms_k0 [er, .int .u16 (at' : Int), by8 t, ep] J) K := by
  unfold l_law10_RulesForms_k0
  simp -implicitDefEqProofs only [go_sem, dnW_ite, reduceIte, Nat.reduceAdd, Nat.reduceLeDiff, Nat.reduceMul, Nat.reduceEqDiff, Int.reduceLT, Int.reduceLE, Int.reduceToNat, Nat.reduceSub, Nat.reduceLT, Int.reduceEq, BitVec.reduceOfInt, BitVec.reduceOfNat, Int.reduceGT, Int.reduceGE, Int.reduceBEq, Int.reduceBNe, Nat.reduceGT, Nat.reduceBEq, Nat.reduceBNe, Int.reduceAdd, Int.reduceSub, Int.reduceNeg, ipureL, ipure, grp, mkE, List.headD, List.drop_succ_cons, List.take_succ_cons, ↓hp.icells, ↓hp.one, ↓hp.pure]
  have hx : LsR 1 BR (.lst 1 true [ep]) [p] := .cons rfl fun i h h' => by
    match i, h with
    | 0, _ => exact hp
  refine WP_call (RJoinW_ok hx (by simp) (by simp; omega) J) fun v J2 hv => ?_
  obtain ⟨hg, hf, hn⟩ := hv
  simp only [List.flatten_cons, List.flatten_nil, List.append_nil] at hg
  have hpos : 0 < p.length := List.length_pos_iff.2 hp0
  rcases hg with ⟨rfl, h0⟩ | ⟨b, ver, n, full, rfl, h1, h2, h3, h4⟩
  · rw [List.map_eq_nil_iff] at h0; exact absurd h0 hp0
  have hnp : n = p.length := by
    have := congrArg List.length h3
    rw [List.length_take, List.length_map] at this
    omega
  subst hnp
  have hw : IntKind.i64.wrap (at' : Int) = (at' : Int) := wrap_i64 (by omega) (by omega)
  have hm : (at' : Int).tmod (p.length : Int) = ((at' % p.length : Nat) : Int) := by
    rw [Int.tmod_eq_emod_of_nonneg (by omega)]; simp
  have hml := Nat.mod_lt at' hpos
  generalize at' % p.length = k at *
  rw [Nat.mul_one] at h2 h3
  have hkf : k < full.length := by omega
  have hat2 : full[k] = by8 p[k] := by
    have : (full.take p.length)[k]'(by rw [List.length_take]; omega) = (p.map by8)[k]'(by simpa using hml) := by simp only [h3]
    rw [List.getElem_take, List.getElem_map] at this
    exact this
  have hd : (full.drop k).take 1 = [by8 p[k]] := by
    rw [List.drop_eq_getElem_cons hkf, hat2]; rfl
  simp -implicitDefEqProofs only [go_sem, dnW_ite, reduceIte, Nat.reduceAdd, Nat.reduceLeDiff, Nat.reduceMul, Nat.reduceEqDiff, Int.reduceLT, Int.reduceLE, Int.reduceToNat, Nat.reduceSub, Nat.reduceLT, Int.reduceEq, BitVec.reduceOfInt, BitVec.reduceOfNat, Int.reduceGT, Int.reduceGE, Int.reduceBEq, Int.reduceBNe, Nat.reduceGT, Nat.reduceBEq, Nat.reduceBNe, Int.reduceAdd, Int.reduceSub, Int.reduceNeg, hw, hm, show ¬ ((p.length : Int) = 0) by omega, hml, h1, hd, inb h1, Nat.zero_add, Nat.mul_one, show k + 1 ≤ full.length by omega]
  refine hK _ _ (p.set k (p[k] ^^^ t)) (.inr ⟨b, ver, _, _, false, by rw [List.length_set], set_get _ (lt_get h1), ?_⟩) (by rw [List.length_set]; exact hpl)
  rw [List.length_set, isplice_set hkf, List.take_set, h3, List.map_set]
end Go.Proofs.Ytcdlipdeemlibaa.G
