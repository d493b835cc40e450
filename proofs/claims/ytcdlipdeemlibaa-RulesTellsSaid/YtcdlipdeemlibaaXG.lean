/- Joined: RO2 to RTe1. -/
import Derived.Test.YtcdlipdeemlibaaXF
set_option linter.unusedVariables false
set_option linter.unusedSimpArgs false
namespace Go.Proofs.Ytcdlipdeemlibaa.G
open Go
set_option linter.unusedSimpArgs false
set_option linter.unusedVariables false
set_option maxRecDepth 20000
set_option maxHeartbeats 2000000
theorem pow_next {i : Nat} (h : i < 32) : IntKind.u32.wrap (IntKind.u32.wrap (2 * ((2 ^ i - 1 : Nat) : Int)) + 1) = ((2 ^ (i + 1) - 1 : Nat) : Int) := by
  have h1 : 2 ^ i ≤ 2 ^ 31 := Nat.pow_le_pow_right (by omega) (by omega)
  have h2 : 1 ≤ 2 ^ i := Nat.one_le_two_pow
  have h3 : 2 ^ (i + 1) = 2 * 2 ^ i := by rw [Nat.pow_succ, Nat.mul_comm]
  rw [wrap_u32 (x := 2 * ((2 ^ i - 1 : Nat) : Int)) (by omega) (by omega), wrap_u32 (by omega) (by omega)]
  omega
theorem rAll_ok (n : Int) : pc BI F_ref10_All [.int .i64 n] = some (m32 (allM n)) := by
  refine pcE fn_ref10_All rfl fun K hK => ?_
  unfold l_ref10_All
  simp -implicitDefEqProofs only [go_sem, dnW_ite, reduceIte, Nat.reduceAdd, Nat.reduceLeDiff, Nat.reduceMul, Nat.reduceEqDiff, Int.reduceLT, Int.reduceLE, Int.reduceToNat, Nat.reduceSub, Nat.reduceLT, Int.reduceEq, BitVec.reduceOfInt, BitVec.reduceOfNat, Int.reduceGT, Int.reduceGE, Int.reduceBEq, Int.reduceBNe, Nat.reduceGT, Nat.reduceBEq, Nat.reduceBNe, Int.reduceAdd, Int.reduceSub, Int.reduceNeg, dn_loop]
  refine WP_range (by decide) (min (max n 0) 32).toNat (fun i vs J => vs = [.int .i64 n, .int .u32 ((2 ^ i - 1 : Nat) : Int), nI i]) ?_ rfl
  rintro i vs J rfl hi K1 g1 g2 g3
  have fin : i = (min (max n 0) 32).toNat → WP (dn BI l_ref10_All_k2 [.int .u32 ((2 ^ i - 1 : Nat) : Int)] J) K := fun e => by
    unfold l_ref10_All_k2
    simp -implicitDefEqProofs only [go_sem, dnW_ite, reduceIte, Nat.reduceAdd, Nat.reduceLeDiff, Nat.reduceMul, Nat.reduceEqDiff, Int.reduceLT, Int.reduceLE, Int.reduceToNat, Nat.reduceSub, Nat.reduceLT, Int.reduceEq, BitVec.reduceOfInt, BitVec.reduceOfNat, Int.reduceGT, Int.reduceGE, Int.reduceBEq, Int.reduceBNe, Nat.reduceGT, Nat.reduceBEq, Nat.reduceBNe, Int.reduceAdd, Int.reduceSub, Int.reduceNeg]
    refine hK _ _ (frzE rfl ?_)
    have h1 : 2 ^ i ≤ 2 ^ 32 := Nat.pow_le_pow_right (by omega) (by omega)
    have h2 : 1 ≤ 2 ^ i := Nat.one_le_two_pow
    simp only [itup, allM, ← e, m32, BitVec.toNat_ofNat]
    rw [Nat.mod_eq_of_lt (by omega)]
  unfold l_ref10_All_k1 l_ref10_All_k0
  by_cases h1 : (i : Int) < n
  · by_cases h2 : i < 32
    · have hw1 := wrapS h2 (show 32 ≤ 9223372036854775807 by omega)
      simp -implicitDefEqProofs only [go_sem, dnW_ite, reduceIte, Nat.reduceAdd, Nat.reduceLeDiff, Nat.reduceMul, Nat.reduceEqDiff, Int.reduceLT, Int.reduceLE, Int.reduceToNat, Nat.reduceSub, Nat.reduceLT, Int.reduceEq, BitVec.reduceOfInt, BitVec.reduceOfNat, Int.reduceGT, Int.reduceGE, Int.reduceBEq, Int.reduceBNe, Nat.reduceGT, Nat.reduceBEq, Nat.reduceBNe, Int.reduceAdd, Int.reduceSub, Int.reduceNeg, h1, show ((i : Int) < 32) by omega, pow_next h2, hw1]
      exact g1 (by omega) _ _ rfl
    · simp -implicitDefEqProofs only [go_sem, dnW_ite, reduceIte, Nat.reduceAdd, Nat.reduceLeDiff, Nat.reduceMul, Nat.reduceEqDiff, Int.reduceLT, Int.reduceLE, Int.reduceToNat, Nat.reduceSub, Nat.reduceLT, Int.reduceEq, BitVec.reduceOfInt, BitVec.reduceOfNat, Int.reduceGT, Int.reduceGE, Int.reduceBEq, Int.reduceBNe, Nat.reduceGT, Nat.reduceBEq, Nat.reduceBNe, Int.reduceAdd, Int.reduceSub, Int.reduceNeg, h1, show ¬ ((i : Int) < 32) by omega]
      exact g2 _ _ (fin (by omega))
  · simp -implicitDefEqProofs only [go_sem, dnW_ite, reduceIte, Nat.reduceAdd, Nat.reduceLeDiff, Nat.reduceMul, Nat.reduceEqDiff, Int.reduceLT, Int.reduceLE, Int.reduceToNat, Nat.reduceSub, Nat.reduceLT, Int.reduceEq, BitVec.reduceOfInt, BitVec.reduceOfNat, Int.reduceGT, Int.reduceGE, Int.reduceBEq, Int.reduceBNe, Nat.reduceGT, Nat.reduceBEq, Nat.reduceBNe, Int.reduceAdd, Int.reduceSub, Int.reduceNeg, h1]
    exact g2 _ _ (fin (by omega))
theorem within_gt (a b : BitVec 32) : (((a &&& ~~~b).toNat : Int) > 0) = (within a b = false) := by
  rw [mgt0]; unfold within
  simp
theorem gdRight_k2 (g : Gm) (x y : IV) (h : GR g x y) (hw : ∀ c ∈ g.code, c.wf) (h48 : g.cells.length ≤ 48) (hp : 0 ≤ g.players ∧ g.players ≤ 6) (J : JH) (h0 : J[0]? = some (.cells 0 (gmc g x y) false)) (K : Out IV → JH → Prop)
    (hK : ∀ J', K (.ret [.bool (g.cells.all (fun c => within c.s (allM g.obs)) && rightL g.code g.cells.length g.players.toNat)]) J') :
    WP (dn BI l_ref10_Right_k2 [.ptr 0 0 0] J) K := by
  unfold l_ref10_Right_k2
  simp -implicitDefEqProofs only [go_sem, dnW_ite, reduceIte, Nat.reduceAdd, Nat.reduceLeDiff, Nat.reduceMul, Nat.reduceEqDiff, Int.reduceLT, Int.reduceLE, Int.reduceToNat, Nat.reduceSub, Nat.reduceLT, Int.reduceEq, BitVec.reduceOfInt, BitVec.reduceOfNat, Int.reduceGT, Int.reduceGE, Int.reduceBEq, Int.reduceBNe, Nat.reduceGT, Nat.reduceBEq, Nat.reduceBNe, Int.reduceAdd, Int.reduceSub, Int.reduceNeg, h0, h.x.lenF, List.length_map, dn_loop]
  refine WP_range (by decide) g.cells.length (fun i vs J' => vs = [.ptr 0 0 0, x, nI g.cells.length, nI i] ∧ Fr J J' [] ∧ ∀ c ∈ g.cells.take i, within c.s (allM g.obs) = true) ?_ ⟨rfl, .refl _ _, by simp⟩
  rintro i vs J1 ⟨rfl, hf, hn⟩ hi K1 g1 g2 g3
  have h01 : J1[0]? = some (.cells 0 (gmc g x y) false) := by rw [hf.2 0 (lt_get h0) (by simp)]; exact h0
  unfold l_ref10_Right_k0
  by_cases hi2 : i < g.cells.length
  · have hat := fun J => h.x.at (i := i) (by simpa using hi2) (J := J)
    simp only [List.getElem_map, Cl.e, Cl.c] at hat
    have hl0 := lt_get h01
    have hwg := within_gt g.cells[i].s (allM g.obs)
    have hw1 := wrapS hi2 (show g.cells.length ≤ 9223372036854775807 by omega)
    cases hc : within g.cells[i].s (allM g.obs) with
    | false =>
      rw [hc] at hwg
      simp -implicitDefEqProofs only [go_sem, dnW_ite, reduceIte, Nat.reduceAdd, Nat.reduceLeDiff, Nat.reduceMul, Nat.reduceEqDiff, Int.reduceLT, Int.reduceLE, Int.reduceToNat, Nat.reduceSub, Nat.reduceLT, Int.reduceEq, BitVec.reduceOfInt, BitVec.reduceOfNat, Int.reduceGT, Int.reduceGE, Int.reduceBEq, Int.reduceBNe, Nat.reduceGT, Nat.reduceBEq, Nat.reduceBNe, Int.reduceAdd, Int.reduceSub, Int.reduceNeg, show ((i : Int) < (g.cells.length : Int)) by omega, hat, h01, inb h01, dcp (rAll_ok g.obs) rfl, bandNot32, hwg]
      refine g3 _ _ ?_
      have e : g.cells.all (fun c => within c.s (allM g.obs)) = false := by
        rw [List.all_eq_false]
        exact ⟨_, List.getElem_mem hi2, by rw [hc]; decide⟩
      have := fun J' => hK J'
      rw [e] at this
      exact this _
    | true =>
      rw [hc] at hwg
      simp -implicitDefEqProofs only [go_sem, dnW_ite, reduceIte, Nat.reduceAdd, Nat.reduceLeDiff, Nat.reduceMul, Nat.reduceEqDiff, Int.reduceLT, Int.reduceLE, Int.reduceToNat, Nat.reduceSub, Nat.reduceLT, Int.reduceEq, BitVec.reduceOfInt, BitVec.reduceOfNat, Int.reduceGT, Int.reduceGE, Int.reduceBEq, Int.reduceBNe, Nat.reduceGT, Nat.reduceBEq, Nat.reduceBNe, Int.reduceAdd, Int.reduceSub, Int.reduceNeg, show ((i : Int) < (g.cells.length : Int)) by omega, hat, h01, inb h01, dcp (rAll_ok g.obs) rfl, bandNot32, hwg, hw1]
      refine g1 hi2 _ _ ⟨rfl, ?_, ?_⟩
      · (have hsz_ := hf.1; repeat (first | with_reducible exact hf | with_reducible apply Fr.psh | ((with_reducible apply Fr.stn); rotate_left; first | omega | (simp only [Array.size_push, Array.size_setIfInBounds]; omega)) | ((with_reducible apply Fr.sts); rotate_left; focus (simp only [List.mem_cons, eq_self, true_or, or_true]; done))))
      rw [List.take_succ_eq_append_getElem hi2]
      intro c hcm
      rcases List.mem_append.1 hcm with hcm | hcm
      · exact hn c hcm
      · simp at hcm; subst hcm; exact hc
  · simp -implicitDefEqProofs only [go_sem, dnW_ite, reduceIte, Nat.reduceAdd, Nat.reduceLeDiff, Nat.reduceMul, Nat.reduceEqDiff, Int.reduceLT, Int.reduceLE, Int.reduceToNat, Nat.reduceSub, Nat.reduceLT, Int.reduceEq, BitVec.reduceOfInt, BitVec.reduceOfNat, Int.reduceGT, Int.reduceGE, Int.reduceBEq, Int.reduceBNe, Nat.reduceGT, Nat.reduceBEq, Nat.reduceBNe, Int.reduceAdd, Int.reduceSub, Int.reduceNeg, show ¬ ((i : Int) < (g.cells.length : Int)) by omega]
    refine g2 _ _ ?_
    unfold l_ref10_Right_k1
    rw [List.take_of_length_le (by omega)] at hn
    have e : g.cells.all (fun c => within c.s (allM g.obs)) = true := List.all_eq_true.2 hn
    obtain ⟨p, hp2⟩ : ∃ p : Nat, g.players = p := ⟨g.players.toNat, by omega⟩
    obtain ⟨k, hk, hkr⟩ := rCheck_ok y g.code h.y hw g.cells.length p (by omega) (by omega)
    rw [e, hp2, Bool.true_and, Int.toNat_natCast] at hK
    cases hr : rightL g.code g.cells.length p with
    | false =>
      rw [hr] at hK
      simp -implicitDefEqProofs only [go_sem, dnW_ite, reduceIte, Nat.reduceAdd, Nat.reduceLeDiff, Nat.reduceMul, Nat.reduceEqDiff, Int.reduceLT, Int.reduceLE, Int.reduceToNat, Nat.reduceSub, Nat.reduceLT, Int.reduceEq, BitVec.reduceOfInt, BitVec.reduceOfNat, Int.reduceGT, Int.reduceGE, Int.reduceBEq, Int.reduceBNe, Nat.reduceGT, Nat.reduceBEq, Nat.reduceBNe, Int.reduceAdd, Int.reduceSub, Int.reduceNeg, h01, hp2, h.x.lenF, List.length_map, dcp hk (by simp [ipureL, ipure, h.y.pure]), show ¬ k < 0 by have := hkr.2 hr; omega]
      exact hK _
    | true =>
      rw [hr] at hK
      simp -implicitDefEqProofs only [go_sem, dnW_ite, reduceIte, Nat.reduceAdd, Nat.reduceLeDiff, Nat.reduceMul, Nat.reduceEqDiff, Int.reduceLT, Int.reduceLE, Int.reduceToNat, Nat.reduceSub, Nat.reduceLT, Int.reduceEq, BitVec.reduceOfInt, BitVec.reduceOfNat, Int.reduceGT, Int.reduceGE, Int.reduceBEq, Int.reduceBNe, Nat.reduceGT, Nat.reduceBEq, Nat.reduceBNe, Int.reduceAdd, Int.reduceSub, Int.reduceNeg, h01, hp2, h.x.lenF, List.length_map, dcp hk (by simp [ipureL, ipure, h.y.pure]), show k < 0 by have := fun q => hkr.1 q; rw [hr] at this; simp at this; omega]
      exact hK _
theorem rRight10_ok (g : Gm) (x y : IV) (h : GR g x y) (hw : ∀ c ∈ g.code, c.wf) (hb : g.cells.length ≤ 9223372036854775807) : pc BI F_ref10_Right [.agg (gmc g x y)] = some (.bool g.right) := by
  refine pcE fn_ref10_Right rfl fun K hK => ?_
  unfold l_ref10_Right
  have no : g.right = false → K (.ret [.bool false]) #[.cells 0 (gmc g x y) false] := fun e => hK _ _ (frzE rfl (by rw [e]; rfl))
  by_cases h1 : g.obs < 1
  · simp -implicitDefEqProofs only [go_sem, dnW_ite, reduceIte, Nat.reduceAdd, Nat.reduceLeDiff, Nat.reduceMul, Nat.reduceEqDiff, Int.reduceLT, Int.reduceLE, Int.reduceToNat, Nat.reduceSub, Nat.reduceLT, Int.reduceEq, BitVec.reduceOfInt, BitVec.reduceOfNat, Int.reduceGT, Int.reduceGE, Int.reduceBEq, Int.reduceBNe, Nat.reduceGT, Nat.reduceBEq, Nat.reduceBNe, Int.reduceAdd, Int.reduceSub, Int.reduceNeg, h.one, h1]
    exact no (by simp [Gm.right]; omega)
  by_cases h2 : g.obs > 32
  · simp -implicitDefEqProofs only [go_sem, dnW_ite, reduceIte, Nat.reduceAdd, Nat.reduceLeDiff, Nat.reduceMul, Nat.reduceEqDiff, Int.reduceLT, Int.reduceLE, Int.reduceToNat, Nat.reduceSub, Nat.reduceLT, Int.reduceEq, BitVec.reduceOfInt, BitVec.reduceOfNat, Int.reduceGT, Int.reduceGE, Int.reduceBEq, Int.reduceBNe, Nat.reduceGT, Nat.reduceBEq, Nat.reduceBNe, Int.reduceAdd, Int.reduceSub, Int.reduceNeg, h.one, h1, h2]
    exact no (by simp [Gm.right]; omega)
  by_cases h3 : g.players < 1
  · simp -implicitDefEqProofs only [go_sem, dnW_ite, reduceIte, Nat.reduceAdd, Nat.reduceLeDiff, Nat.reduceMul, Nat.reduceEqDiff, Int.reduceLT, Int.reduceLE, Int.reduceToNat, Nat.reduceSub, Nat.reduceLT, Int.reduceEq, BitVec.reduceOfInt, BitVec.reduceOfNat, Int.reduceGT, Int.reduceGE, Int.reduceBEq, Int.reduceBNe, Nat.reduceGT, Nat.reduceBEq, Nat.reduceBNe, Int.reduceAdd, Int.reduceSub, Int.reduceNeg, h.one, h1, h2, h3]
    exact no (by simp [Gm.right]; omega)
  by_cases h4 : g.players > 6
  · simp -implicitDefEqProofs only [go_sem, dnW_ite, reduceIte, Nat.reduceAdd, Nat.reduceLeDiff, Nat.reduceMul, Nat.reduceEqDiff, Int.reduceLT, Int.reduceLE, Int.reduceToNat, Nat.reduceSub, Nat.reduceLT, Int.reduceEq, BitVec.reduceOfInt, BitVec.reduceOfNat, Int.reduceGT, Int.reduceGE, Int.reduceBEq, Int.reduceBNe, Nat.reduceGT, Nat.reduceBEq, Nat.reduceBNe, Int.reduceAdd, Int.reduceSub, Int.reduceNeg, h.one, h1, h2, h3, h4]
    exact no (by simp [Gm.right]; omega)
  by_cases h4' : g.players > g.obs
  · simp -implicitDefEqProofs only [go_sem, dnW_ite, reduceIte, Nat.reduceAdd, Nat.reduceLeDiff, Nat.reduceMul, Nat.reduceEqDiff, Int.reduceLT, Int.reduceLE, Int.reduceToNat, Nat.reduceSub, Nat.reduceLT, Int.reduceEq, BitVec.reduceOfInt, BitVec.reduceOfNat, Int.reduceGT, Int.reduceGE, Int.reduceBEq, Int.reduceBNe, Nat.reduceGT, Nat.reduceBEq, Nat.reduceBNe, Int.reduceAdd, Int.reduceSub, Int.reduceNeg, h.one, h1, h2, h3, h4, h4']
    exact no (by simp [Gm.right]; omega)
  by_cases h5 : (g.moves.toNat : Int) ≤ (g.dflt.toNat : Int)
  · simp -implicitDefEqProofs only [go_sem, dnW_ite, reduceIte, Nat.reduceAdd, Nat.reduceLeDiff, Nat.reduceMul, Nat.reduceEqDiff, Int.reduceLT, Int.reduceLE, Int.reduceToNat, Nat.reduceSub, Nat.reduceLT, Int.reduceEq, BitVec.reduceOfInt, BitVec.reduceOfNat, Int.reduceGT, Int.reduceGE, Int.reduceBEq, Int.reduceBNe, Nat.reduceGT, Nat.reduceBEq, Nat.reduceBNe, Int.reduceAdd, Int.reduceSub, Int.reduceNeg, h.one, h1, h2, h3, h4, h4', h5]
    exact no (by simp [Gm.right]; omega)
  by_cases h6 : (g.cells.length : Int) > 48
  · simp -implicitDefEqProofs only [go_sem, dnW_ite, reduceIte, Nat.reduceAdd, Nat.reduceLeDiff, Nat.reduceMul, Nat.reduceEqDiff, Int.reduceLT, Int.reduceLE, Int.reduceToNat, Nat.reduceSub, Nat.reduceLT, Int.reduceEq, BitVec.reduceOfInt, BitVec.reduceOfNat, Int.reduceGT, Int.reduceGE, Int.reduceBEq, Int.reduceBNe, Nat.reduceGT, Nat.reduceBEq, Nat.reduceBNe, Int.reduceAdd, Int.reduceSub, Int.reduceNeg, h.one, h1, h2, h3, h4, h4', h5, h.x.lenF, List.length_map, h6]
    exact no (by simp [Gm.right]; omega)
  simp -implicitDefEqProofs only [go_sem, dnW_ite, reduceIte, Nat.reduceAdd, Nat.reduceLeDiff, Nat.reduceMul, Nat.reduceEqDiff, Int.reduceLT, Int.reduceLE, Int.reduceToNat, Nat.reduceSub, Nat.reduceLT, Int.reduceEq, BitVec.reduceOfInt, BitVec.reduceOfNat, Int.reduceGT, Int.reduceGE, Int.reduceBEq, Int.reduceBNe, Nat.reduceGT, Nat.reduceBEq, Nat.reduceBNe, Int.reduceAdd, Int.reduceSub, Int.reduceNeg, h.one, h1, h2, h3, h4, h4', h5, h.x.lenF, List.length_map, h6]
  refine gdRight_k2 g x y h hw (by omega) (by omega) _ rfl K fun J' => hK _ _ (frzE rfl ?_)
  have e1 : decide (1 ≤ g.obs ∧ g.obs ≤ 32) = true := by simp; omega
  have e2 : decide (1 ≤ g.players ∧ g.players ≤ 6 ∧ g.players ≤ g.obs) = true := by simp; omega
  have e3 : decide (g.dflt.toNat < g.moves.toNat) = true := by simp; omega
  have e4 : decide (g.cells.length ≤ 48) = true := by simp; omega
  simp [Gm.right, e1, e2, e3, e4, itup]
end Go.Proofs.Ytcdlipdeemlibaa.G
namespace Go.Proofs.Ytcdlipdeemlibaa.G
open Go
set_option linter.unusedSimpArgs false
set_option linter.unusedVariables false
set_option maxRecDepth 20000
set_option maxHeartbeats 2000000
end Go.Proofs.Ytcdlipdeemlibaa.G
namespace Go.Proofs.Ytcdlipdeemlibaa.G
open Go
set_option linter.unusedSimpArgs false
set_option linter.unusedVariables false
set_option maxRecDepth 20000
set_option maxHeartbeats 2000000
/-- The moves that one thinks of. -/
def Gm.preM (g : Gm) (o : Int) (m : BitVec 32) : List (BitVec 32) := if 0 ≤ o then (List.replicate g.players.toNat g.dflt).set o.toNat m else List.replicate g.players.toNat g.dflt
/-- What is predicted. -/
def Gm.pre (g : Gm) (b : Bd) (d t : Int) (o : Int) (m : BitVec 32) (q : IV) : Rs := runF (g.env (g.preM o m) t q) g.code b d
end Go.Proofs.Ytcdlipdeemlibaa.G
namespace Go.Proofs.Ytcdlipdeemlibaa.G
open Go
set_option linter.unusedSimpArgs false
set_option linter.unusedVariables false
set_option maxRecDepth 20000
set_option maxHeartbeats 1000000
theorem eq_one (d : Int) : iaggEq [.int .u64 d] [.int .u64 d] = some true := by simp [iaggEq]
end Go.Proofs.Ytcdlipdeemlibaa.G
namespace Go.Proofs.Ytcdlipdeemlibaa.G
open Go
set_option linter.unusedSimpArgs false
set_option linter.unusedVariables false
set_option maxRecDepth 20000
set_option maxHeartbeats 1000000
theorem bit_get {i : Int} (h0 : 0 ≤ i) (h : i < 64) (j : Nat) : (bit i).getLsbD j = decide (j = i.toNat) := by
  unfold bit
  rw [BitVec.getLsbD_shiftLeft]
  by_cases e : j = i.toNat
  · subst e
    simp; omega
  · by_cases hlt : j < i.toNat
    · simp [hlt, e]
    · have : j - i.toNat ≠ 0 := by omega
      simp [e, BitVec.getLsbD_one, this]
theorem within_self (m : BitVec 32) : within m m = true := by
  unfold within
  rw [beq_iff_eq]
  apply BitVec.eq_of_getLsbD_eq
  intro i hi
  simp
theorem within_or (m n : BitVec 32) : within m (m ||| n) = true := by
  unfold within
  rw [beq_iff_eq]
  apply BitVec.eq_of_getLsbD_eq
  intro i hi
  simp only [BitVec.getLsbD_and, BitVec.getLsbD_not, BitVec.getLsbD_or, BitVec.getLsbD_zero]
  cases m.getLsbD i <;> simp
theorem within_iff {m n : BitVec 32} : within m n = true ↔ ∀ i, m.getLsbD i = true → n.getLsbD i = true := by
  unfold within
  rw [beq_iff_eq]
  constructor
  · intro h i hi
    have := congrArg (fun z => BitVec.getLsbD z i) h
    simp only [BitVec.getLsbD_and, BitVec.getLsbD_not, BitVec.getLsbD_zero, hi, Bool.true_and] at this
    have hlt : i < 32 := BitVec.lt_of_getLsbD hi
    simpa [hlt] using this
  · intro h
    apply BitVec.eq_of_getLsbD_eq
    intro i hi
    simp only [BitVec.getLsbD_and, BitVec.getLsbD_not, BitVec.getLsbD_zero]
    cases hm : m.getLsbD i with
    | false => simp
    | true => simp [h i hm]
theorem within_trans {a b c : BitVec 32} (h : within a b = true) (k : within b c = true) : within a c = true := by
  rw [within_iff] at *
  exact fun i hi => k i (h i hi)
structure KP (b : Bd) (ns : Bool) (m : Mc) : Prop where
  len : m.bd.l.length = b.l.length
  kept : ∀ i, m.touched.getLsbD i = false → m.bd.l[i]? = b.l[i]?
  high : ∀ i, b.l.length ≤ i → m.touched.getLsbD i = false
  lab : ns = true → ∀ (i : Nat) (c : Cl), b.l[i]? = some c → ∃ c' : Cl, m.bd.l[i]? = some c' ∧ c'.v = c.v ∧ within c.s c'.s = true
variable {b : Bd} {ns : Bool} {m : Mc} {E : Me}
theorem KP.set (h : KP b ns m) {i : Int} (hi : m.bd.there i = true) (c : Cl) (bd : Bd) (hb : bd.l = m.bd.l.set i.toNat c) (hc : ns = true → c.v = (m.bd.at i).v ∧ within (m.bd.at i).s c.s = true) : KP b ns { m with bd := bd, touched := m.touched ||| bit i } := by
  have hbl := b.h
  have hlen := h.len
  obtain ⟨h0, h1⟩ : 0 ≤ i ∧ i < (m.bd.l.length : Int) := by simpa [Bd.there] using hi
  refine ⟨by rw [hb, List.length_set]; exact h.len, fun j hj => ?_, fun j hj => ?_, fun hn j d hd => ?_⟩
  · simp only [BitVec.getLsbD_or, bit_get h0 (by omega), Bool.or_eq_false_iff, decide_eq_false_iff_not] at hj
    rw [hb, List.getElem?_set_ne (fun e => hj.2 e.symm)]
    exact h.kept j hj.1
  · simp only [BitVec.getLsbD_or, bit_get h0 (by omega), Bool.or_eq_false_iff, decide_eq_false_iff_not]
    exact ⟨h.high j hj, by omega⟩
  · obtain ⟨c', k1, k2, k3⟩ := h.lab hn j d hd
    rw [hb]
    by_cases e : i.toNat = j
    · subst e
      have hlt : i.toNat < m.bd.l.length := by omega
      refine ⟨c, by simp [hlt], ?_⟩
      obtain ⟨c1, c2⟩ := hc hn
      have ea : m.bd.at i = c' := by simp [Bd.at, List.getD_eq_getElem?_getD, k1]
      rw [ea] at c1 c2
      exact ⟨c1.trans k2, within_trans k3 c2⟩
    · rw [List.getElem?_set_ne e]
      exact ⟨c', k1, k2, k3⟩
theorem KP.same (h : KP b ns m) {m' : Mc} (h1 : m'.bd = m.bd) (h2 : m'.touched = m.touched) : KP b ns m' := ⟨by rw [h1]; exact h.len, by rw [h1, h2]; exact h.kept, by rw [h2]; exact h.high, by rw [h1]; exact h.lab⟩
theorem KP.put (h : KP b false m) {i : Int} (hi : m.bd.there i = true) (c : Cl) : KP b false { m with bd := m.bd.put i c, touched := m.touched ||| bit i } :=
  h.set hi c _ (by rw [Bd.put, if_pos hi]; rfl) (fun e => by cases e)
theorem KP.show (h : KP b ns m) {i : Int} (hi : m.bd.there i = true) (to : BitVec 32) : KP b ns { m with bd := m.bd.show i to, touched := m.touched ||| bit i } :=
  h.set hi ⟨(m.bd.at i).v, (m.bd.at i).s ||| to⟩ _ (by rw [Bd.show, if_pos hi]; rfl) (fun _ => ⟨rfl, within_or _ _⟩)
theorem KP.fill {start : Nat} {out : List Int} : ∀ (k : Nat) (m : Mc), KP b false m → start + k ≤ m.bd.l.length → KP b false (fillN m start out k)
  | 0, m, h, _ => h
  | k + 1, m, h, hk => by
    have ih := KP.fill (start := start) (out := out) k m h (by omega)
    have hl := fillN_len m start out k
    exact ih.put (by simp only [Bd.there, hl, decide_eq_true_eq]; omega) _
def isStore (x : Cd) : Bool := x.op == 3 || x.op == 5 || x.op == 24
theorem KP.reach (h : KP b ns m) (x : Cd) {size : Nat} (hr : x.right size m.bd.l.length E.moves.length = true) (hn : ns = true → isStore x = false) : KP b ns (reachF E m x) := by
  have hf : isStore x = true → ns = false := fun e => by cases ns with | false => rfl | true => rw [hn rfl] at e; cases e
  unfold reachF
  split
  · split
    · exact h.same rfl rfl
    · exact h.same rfl rfl
  · rename_i hop
    obtain rfl := hf (by simp [isStore, hop])
    split
    · rename_i hnm
      exact h.put (named_ok hnm).1 _
    · exact h.same rfl rfl
  · unfold revealF
    split
    · exact h.same rfl rfl
    · rename_i hnm
      have := h.show (named_ok (by simpa using hnm)).1 (Sh.one m x E.all (named E m x).1)
      exact this.same rfl rfl
  · rename_i hop
    obtain rfl := hf (by simp [isStore, hop])
    simp [Cd.right, hop, useOf] at hr
    have h' : KP b false { m with dice := (shufL m.dice (x.c - 1) (rowV m x.n.toNat x.c)).2 } := h.same rfl rfl
    exact KP.fill x.c _ h' (by show x.n.toNat + x.c ≤ m.bd.l.length; omega)
  · exact h
theorem KP.follow (h : KP b ns m) (x : Cd) {size : Nat} (hr : x.right size m.bd.l.length E.moves.length = true) (hn : ns = true → isStore x = false) : KP b ns (followF E m x) := by
  have hg : KP b ns m.go := h.same rfl rfl
  have hf : isStore x = true → ns = false := fun e => by cases ns with | false => rfl | true => rw [hn rfl] at e; cases e
  unfold followF
  simp only
  split
  all_goals first
    | exact hg.same rfl rfl
    | exact hg.reach x hr hn
    | skip
  · rename_i hop
    obtain rfl := hf (by simp [isStore, hop])
    simp [Cd.right, hop, useOf, nOk] at hr
    exact hg.put (decide_eq_true hr.1.1.1.1) _
  · split
    · split
      · exact hg.same rfl rfl
      · exact hg
    · exact hg.same rfl rfl
theorem KP.loop (l : List Cd) (hr : ∀ x ∈ l, x.right l.length b.l.length E.moves.length = true) (hn : ns = true → ∀ x ∈ l, isStore x = false) : ∀ (k : Nat) (m : Mc), KP b ns m → KP b ns (loopF E l k m)
  | 0, m, h => by
    rw [loopF]; split
    · exact h.same rfl rfl
    · exact h
  | k + 1, m, h => by
    rw [loopF]
    split
    · rename_i hc
      have hm := List.getElem_mem hc.2
      have e : l.getD m.pc ⟨0, 0, 0, 0, 0, 0⟩ = l[m.pc] := by simp [hc.2]
      rw [e]
      split
      · exact h.same rfl rfl
      · have h' : KP b ns { m with used := m.used + 1 } := h.same rfl rfl
        exact KP.loop l hr hn k _ (h'.follow l[m.pc] (by show l[m.pc].right l.length m.bd.l.length _ = true; rw [h.len]; exact hr _ hm) (fun e => hn e _ hm))
    · exact h
theorem KP.start (d : Int) : KP b ns (Go.Proofs.Ytcdlipdeemlibaa.G.start E b d) := ⟨rfl, fun _ _ => rfl, fun _ _ => by simp [Go.Proofs.Ytcdlipdeemlibaa.G.start], fun _ i c h => ⟨c, h, rfl, within_self _⟩⟩
end Go.Proofs.Ytcdlipdeemlibaa.G
namespace Go.Proofs.Ytcdlipdeemlibaa.G
open Go
set_option linter.unusedSimpArgs false
set_option linter.unusedVariables false
set_option maxRecDepth 20000
set_option maxHeartbeats 2000000
theorem push_set1 {α : Type} (J : Array α) (A X Y : α) : ((J.push A).push X).setIfInBounds (J.size + 1) Y = (J.push A).push Y := by
  have := push_set (J.push A) X Y
  rwa [Array.size_push] at this
attribute [go_sem] push_set1
end Go.Proofs.Ytcdlipdeemlibaa.G
namespace Go.Proofs.Ytcdlipdeemlibaa.G
open Go
set_option linter.unusedSimpArgs false
set_option linter.unusedVariables false
set_option maxRecDepth 20000
set_option maxHeartbeats 1000000
/-- Cells that one sees alike. -/
def CE (P : BitVec 32 → Bool) (a b : Cl) : Prop := a.s = b.s ∧ (P a.s = true → a.v = b.v)
theorem CE.refl (P) (a : Cl) : CE P a a := ⟨rfl, fun _ => rfl⟩
/-- Boards that one sees alike. -/
def BE (P : BitVec 32 → Bool) (a b : Bd) : Prop := a.l.length = b.l.length ∧ ∀ i : Int, CE P (a.at i) (b.at i)
/-- Shows of like cells, to the like. -/
def SE (a b : List Sh) : Prop := a.map (fun s => (s.cell, s.to)) = b.map (fun s => (s.cell, s.to))
structure ME (P : BitVec 32 → Bool) (m n : Mc) : Prop where
  bd : BE P m.bd n.bd
  touched : m.touched = n.touched
  shows : SE m.shows n.shows
  used : m.used = n.used
  err : m.err = n.err
  r : ∀ i, i < 8 → CE P (m.r.at i) (n.r.at i)
  pc : m.pc = n.pc
/-- Who sees what: what all see one sees; of two labels' meet one sees both. -/
structure PO (P : BitVec 32 → Bool) (all : BitVec 32) : Prop where
  all : ∀ s, within all s = true → P s = true
  meet : ∀ a b, P (a &&& b) = true → P a = true ∧ P b = true
  zero : P 0#32 = false
/-- The environments of both. -/
structure EE (P : BitVec 32 → Bool) (E F : Me) : Prop where
  all : E.all = F.all
  tick : E.tick = F.tick
  moves : ∀ i : Int, P (oneM i) = true → E.moves.getD i.toNat 0 = F.moves.getD i.toNat 0
variable {P : BitVec 32 → Bool} {E F : Me} {m n : Mc}
theorem BE.there {a b : Bd} (h : BE P a b) (i : Int) : a.there i = b.there i := by simp only [Bd.there, h.1]
theorem Bd.at_set (b : Bd) {i : Nat} (hi : i < b.l.length) (c : Cl) (j : Int) : (b.set i c).at j = if j.toNat = i then c else b.at j := by
  simp only [Bd.at, Bd.set, List.getD_eq_getElem?_getD, List.getElem?_set]
  by_cases h : i = j.toNat
  · subst h; simp [hi]
  · simp [h, Ne.symm h]
theorem BE.put {a b : Bd} (h : BE P a b) (i : Int) {c d : Cl} (hc : CE P c d) : BE P (a.put i c) (b.put i d) := by
  refine ⟨by rw [put_len, put_len]; exact h.1, fun j => ?_⟩
  unfold Bd.put
  rw [h.there i]
  by_cases ht : b.there i = true
  · have h1 : i.toNat < b.l.length := by simp [Bd.there] at ht; omega
    rw [if_pos ht, if_pos ht, Bd.at_set _ (by rw [h.1]; exact h1), Bd.at_set _ h1]
    split
    · exact hc
    · exact h.2 j
  · rw [if_neg ht, if_neg ht]; exact h.2 j
theorem BE.show {a b : Bd} (h : BE P a b) (i : Int) {to : BitVec 32} (hc : P ((a.at i).s ||| to) = true → (a.at i).v = (b.at i).v) : BE P (a.show i to) (b.show i to) := by
  refine ⟨by rw [show_len, show_len]; exact h.1, fun j => ?_⟩
  unfold Bd.show
  rw [h.there i]
  by_cases ht : b.there i = true
  · have h1 : i.toNat < b.l.length := by simp [Bd.there] at ht; omega
    rw [if_pos ht, if_pos ht, Bd.at_set _ (by rw [h.1]; exact h1), Bd.at_set _ h1]
    split
    · exact ⟨by show _ ||| to = _ ||| to; rw [(h.2 i).1], hc⟩
    · exact h.2 j
  · rw [if_neg ht, if_neg ht]; exact h.2 j
theorem Rset {r q : Rg} (h : ∀ i, i < 8 → CE P (r.at i) (q.at i)) {k : Nat} (hk : k < 8) {c d : Cl} (hc : CE P c d) : ∀ i, i < 8 → CE P ((r.set k c).at i) ((q.set k d).at i) := by
  intro i hi
  rw [Rg.at_set _ _ _ hk, Rg.at_set _ _ _ hk]
  split
  · exact hc
  · exact h i hi
theorem named_eq (hP : PO P E.all) (hE : EE P E F) (h : ME P m n) (x : Cd) (hb : x.b < 8) : named E m x = named F n x := by
  have hr := h.r x.b hb
  unfold named
  rw [← hE.all, ← hr.1, ← h.bd.1]
  by_cases hw : within E.all (m.r.at x.b).s = false
  · rw [if_pos hw, if_pos hw]
  · rw [if_neg hw, if_neg hw, ← hr.2 (hP.all _ (by simpa using hw))]
theorem ME.setR (h : ME P m n) {k : Nat} (hk : k < 8) {c d : Cl} (hc : CE P c d) : ME P { m with r := m.r.set k c } { n with r := n.r.set k d } := ⟨h.bd, h.touched, h.shows, h.used, h.err, Rset h.r hk hc, h.pc⟩
theorem ME.put (h : ME P m n) (i : Int) {c d : Cl} (hc : CE P c d) : ME P { m with bd := m.bd.put i c, touched := m.touched ||| bit i } { n with bd := n.bd.put i d, touched := n.touched ||| bit i } := ⟨h.bd.put i hc, by show _ ||| _ = _ ||| _; rw [h.touched], h.shows, h.used, h.err, h.r, h.pc⟩
theorem CE.z (hz : P 0#32 = false) (a b : Int) : CE P ⟨a, 0#32⟩ ⟨b, 0#32⟩ := ⟨rfl, fun h => by rw [hz] at h; cases h⟩
theorem ME.fill (hz : P 0#32 = false) (start : Nat) (o1 o2 : List Int) : ∀ (k : Nat) (m n : Mc), ME P m n → ME P (fillN m start o1 k) (fillN n start o2 k)
  | 0, m, n, h => h
  | k + 1, m, n, h => (ME.fill hz start o1 o2 k m n h).put _ (CE.z hz _ _)
theorem ME.errs (h : ME P m n) (e : Nat) : ME P { m with err := e } { n with err := e } := ⟨h.bd, h.touched, h.shows, h.used, rfl, h.r, h.pc⟩
theorem SE.app {a b c d : List Sh} (h : SE a b) (k : SE c d) : SE (a ++ c) (b ++ d) := by
  unfold SE at *
  rw [List.map_append, List.map_append, h, k]
/-- What is shown to one is the same. -/
def Tell (P : BitVec 32 → Bool) (a b : List Sh) : Prop := ∀ (i : Nat) (s t : Sh), a[i]? = some s → b[i]? = some t → P s.to = true → s.v = t.v
/-- One sees more by a show alone. -/
def Join' (P : BitVec 32 → Bool) : Prop := ∀ s t, P (s ||| t) = true → P s = true ∨ P t = true
theorem ME.reveal (hP : PO P E.all) (hE : EE P E F) (h : ME P m n) (x : Cd) (hb : x.b < 8) (hj : Join' P) (ht : Tell P (revealF E m x).shows (revealF F n x).shows) : ME P (revealF E m x) (revealF F n x) := by
  have hn := named_eq hP hE h x hb
  unfold revealF at ht ⊢
  rw [← hn] at ht ⊢
  by_cases hk : (named E m x).2.1 = false
  · rw [if_pos hk, if_pos hk]; exact h.errs _
  · rw [if_neg hk, if_neg hk] at ht ⊢
    have hc := h.bd.2 (named E m x).1
    have ho : Sh.one n x F.all (named E m x).1 = Sh.one m x E.all (named E m x).1 := by unfold Sh.one; rw [← hE.all, ← hc.1]
    rw [ho] at ht ⊢
    have hlen : m.shows.length = n.shows.length := by have := congrArg List.length h.shows; simpa using this
    have hv : P (Sh.one m x E.all (named E m x).1) = true → (m.bd.at (named E m x).1).v = (n.bd.at (named E m x).1).v := fun hp => by
      have hz : Sh.one m x E.all (named E m x).1 ≠ 0#32 := fun e => by rw [e, hP.zero] at hp; cases hp
      simp only [if_neg hz] at ht
      have := ht m.shows.length ⟨(named E m x).1, Sh.one m x E.all (named E m x).1, (m.bd.at (named E m x).1).v⟩ ⟨(named E m x).1, Sh.one m x E.all (named E m x).1, (n.bd.at (named E m x).1).v⟩ (by simp) (by rw [hlen]; simp) hp
      exact this
    refine ⟨h.bd.show _ fun hp => ?_, by show _ ||| _ = _ ||| _; rw [h.touched], SE.app h.shows ?_, h.used, rfl, h.r, h.pc⟩
    · rcases hj _ _ hp with hp | hp
      · exact hc.2 hp
      · exact hv hp
    · by_cases hz : Sh.one m x E.all (named E m x).1 = 0#32
      · rw [if_pos hz, if_pos hz]; rfl
      · rw [if_neg hz, if_neg hz]; rfl
theorem ME.reach (hP : PO P E.all) (hE : EE P E F) (h : ME P m n) (x : Cd) (ha : x.a < 8) (hb : x.b < 8) (hj : x.op = 22 → Join' P) (ht : Tell P (reachF E m x).shows (reachF F n x).shows) : ME P (reachF E m x) (reachF F n x) := by
  have hn := named_eq hP hE h x hb
  unfold reachF at ht ⊢
  split
  · rw [← hn]
    split
    · exact h.setR ha (h.bd.2 _)
    · exact h.errs _
  · rw [← hn]
    split
    · exact h.put _ (h.r _ ha)
    · exact h.errs _
  · rename_i hop
    simp only [hop] at ht
    exact ME.reveal hP hE h x hb (hj hop) ht
  · have hd : ME P { m with dice := (shufL m.dice (x.c - 1) (rowV m x.n.toNat x.c)).2 } { n with dice := (shufL n.dice (x.c - 1) (rowV n x.n.toNat x.c)).2 } := ⟨h.bd, h.touched, h.shows, h.used, h.err, h.r, h.pc⟩
    exact ME.fill hP.zero _ _ _ _ _ _ hd
  · exact h
theorem CE.meet (hP : PO P E.all) {a b c d : Cl} (h : CE P a b) (k : CE P c d) (f : Int → Int → Int) : CE P ⟨f a.v c.v, a.s &&& c.s⟩ ⟨f b.v d.v, b.s &&& d.s⟩ := by
  refine ⟨by show a.s &&& c.s = b.s &&& d.s; rw [h.1, k.1], fun hp => ?_⟩
  obtain ⟨h1, h2⟩ := hP.meet _ _ hp
  show f a.v c.v = f b.v d.v
  rw [h.2 h1, k.2 h2]
theorem ME.follow (hP : PO P E.all) (hE : EE P E F) (h : ME P m n) (x : Cd) (ha : x.a < 8) (hb : x.b < 8) (hj : x.op = 22 → Join' P) (ht : Tell P (followF E m x).shows (followF F n x).shows) : ME P (followF E m x) (followF F n x) := by
  have hg : ME P m.go n.go := ⟨h.bd, h.touched, h.shows, h.used, h.err, h.r, by show m.pc + 1 = n.pc + 1; rw [h.pc]⟩
  have hc8 : x.c % 8 < 8 := by omega
  unfold followF at ht ⊢
  simp only at ht ⊢
  split
  · exact hg.setR ha (by rw [hE.all]; exact CE.refl _ _)
  · exact hg.setR ha (hg.bd.2 _)
  · exact hg.put _ (hg.r _ ha)
  · refine hg.setR ha ⟨?_, fun hp => ?_⟩
    · show _ &&& _ &&& _ = _ &&& _ &&& _
      rw [(hg.r _ ha).1, (hg.r _ hb).1, (hg.r _ hc8).1]
    · obtain ⟨h1, h2⟩ := hP.meet _ _ hp
      obtain ⟨h3, h4⟩ := hP.meet _ _ h1
      show (if _ then _ else _) = (if _ then _ else _)
      rw [(hg.r _ ha).2 h3, (hg.r _ hb).2 h4, (hg.r _ hc8).2 h2]
  · rw [← hE.all, ← (hg.r _ ha).1]
    by_cases hw : within E.all (m.go.r.at x.a).s = true
    · rw [if_pos hw, if_pos hw, ← (hg.r _ ha).2 (hP.all _ hw)]
      split
      · exact ⟨hg.bd, hg.touched, hg.shows, hg.used, hg.err, hg.r, rfl⟩
      · exact hg
    · rw [if_neg hw, if_neg hw]; exact hg.errs _
  · exact ⟨hg.bd, hg.touched, hg.shows, hg.used, hg.err, hg.r, rfl⟩
  · exact hg.setR ha ⟨rfl, fun hp => hE.moves _ hp⟩
  · have := hg.setR ha (CE.z hP.zero (below m.go.dice x.n) (below n.go.dice x.n))
    exact ⟨this.bd, this.touched, this.shows, this.used, this.err, this.r, this.pc⟩
  · exact hg.setR ha (by rw [hE.all, hE.tick]; exact CE.refl _ _)
  · rename_i hop; simp only [hop] at ht; exact ME.reach hP hE hg x ha hb hj ht
  · rename_i hop; simp only [hop] at ht; exact ME.reach hP hE hg x ha hb hj ht
  · rename_i hop; simp only [hop] at ht; exact ME.reach hP hE hg x ha hb hj ht
  · rename_i hop; simp only [hop] at ht; exact ME.reach hP hE hg x ha hb hj ht
  · exact hg.setR ha (CE.meet hP (hg.r _ hb) (hg.r _ hc8) _)
end Go.Proofs.Ytcdlipdeemlibaa.G
namespace Go.Proofs.Ytcdlipdeemlibaa.G
open Go
set_option linter.unusedSimpArgs false
set_option linter.unusedVariables false
set_option maxRecDepth 20000
set_option maxHeartbeats 1000000
variable {P : BitVec 32 → Bool} {E F : Me} {m n : Mc}
theorem Tell.pre {P : BitVec 32 → Bool} {a b c d : List Sh} (h : Tell P (a ++ c) (b ++ d)) : Tell P a b := by
  intro i s t h1 h2 h3
  refine h i s t ?_ ?_ h3
  · rw [List.getElem?_append_left (by have := List.getElem?_eq_some_iff.1 h1; exact this.1)]; exact h1
  · rw [List.getElem?_append_left (by have := List.getElem?_eq_some_iff.1 h2; exact this.1)]; exact h2
theorem reachF_shows (E : Me) (m : Mc) (x : Cd) : ∃ c, (reachF E m x).shows = m.shows ++ c := by
  unfold reachF
  split
  · split
    · exact ⟨[], (List.append_nil _).symm⟩
    · exact ⟨[], (List.append_nil _).symm⟩
  · split
    · exact ⟨[], (List.append_nil _).symm⟩
    · exact ⟨[], (List.append_nil _).symm⟩
  · unfold revealF; split
    · exact ⟨[], (List.append_nil _).symm⟩
    · exact ⟨_, rfl⟩
  · have := fillN_same x.n.toNat (shufL m.dice (x.c - 1) (rowV m x.n.toNat x.c)).1 x.c { m with dice := (shufL m.dice (x.c - 1) (rowV m x.n.toNat x.c)).2 }
    refine ⟨[], ?_⟩
    rw [List.append_nil, shuffleF]
    simp_all
  · exact ⟨[], (List.append_nil _).symm⟩
theorem followF_shows (E : Me) (m : Mc) (x : Cd) : ∃ c, (followF E m x).shows = m.shows ++ c := by
  unfold followF
  simp only
  split <;> first | exact ⟨[], (List.append_nil _).symm⟩ | exact reachF_shows E m.go x | skip
  split
  · split <;> exact ⟨[], (List.append_nil _).symm⟩
  · exact ⟨[], (List.append_nil _).symm⟩
theorem loopF_shows (E : Me) (l : List Cd) : ∀ (k : Nat) (m : Mc), ∃ c, (loopF E l k m).shows = m.shows ++ c
  | 0, m => by
    rw [loopF]; split
    · exact ⟨[], (List.append_nil _).symm⟩
    · exact ⟨[], (List.append_nil _).symm⟩
  | k + 1, m => by
    rw [loopF]
    split
    · split
      · exact ⟨[], (List.append_nil _).symm⟩
      · obtain ⟨c, hc⟩ := loopF_shows E l k (followF E { m with used := m.used + 1 } (l.getD m.pc ⟨0, 0, 0, 0, 0, 0⟩))
        obtain ⟨d, hd⟩ := followF_shows E { m with used := m.used + 1 } (l.getD m.pc ⟨0, 0, 0, 0, 0, 0⟩)
        refine ⟨d ++ c, ?_⟩
        rw [hc, hd, List.append_assoc]
    · exact ⟨[], (List.append_nil _).symm⟩
theorem ME.loop (hP : PO P E.all) (hE : EE P E F) (l : List Cd) (ha : ∀ x ∈ l, x.a < 8 ∧ x.b < 8) (hj : (∃ x ∈ l, x.op = 22) → Join' P) : ∀ (k : Nat) (m n : Mc), ME P m n → Tell P (loopF E l k m).shows (loopF F l k n).shows → ME P (loopF E l k m) (loopF F l k n)
  | 0, m, n, h, ht => by
    have hc2 : (n.err = 0 ∧ n.pc < l.length) ↔ (m.err = 0 ∧ m.pc < l.length) := by rw [h.err, h.pc]
    rw [loopF, loopF]
    by_cases hc : m.err = 0 ∧ m.pc < l.length
    · rw [if_pos hc, if_pos (hc2.2 hc)]; exact h.errs _
    · rw [if_neg hc, if_neg (fun q => hc (hc2.1 q))]; exact h
  | k + 1, m, n, h, ht => by
    have hc2 : (n.err = 0 ∧ n.pc < l.length) ↔ (m.err = 0 ∧ m.pc < l.length) := by rw [h.err, h.pc]
    rw [loopF, loopF] at ht ⊢
    by_cases hc : m.err = 0 ∧ m.pc < l.length
    · rw [if_pos hc, if_pos (hc2.2 hc)] at ht ⊢
      have hm := List.getElem_mem hc.2
      have hx : l.getD m.pc ⟨0, 0, 0, 0, 0, 0⟩ = l[m.pc] := by simp [hc.2]
      have hy : l.getD n.pc ⟨0, 0, 0, 0, 0, 0⟩ = l[m.pc] := by rw [← h.pc, hx]
      rw [hx, hy] at ht ⊢
      have hu : ME P { m with used := m.used + 1 } { n with used := n.used + 1 } := ⟨h.bd, h.touched, h.shows, by show m.used + 1 = n.used + 1; rw [h.used], h.err, h.r, h.pc⟩
      by_cases h0 : l[m.pc].op = 0
      · rw [if_pos h0, if_pos h0]; exact hu
      · rw [if_neg h0, if_neg h0] at ht ⊢
        have ht' := ht
        obtain ⟨c, hc1⟩ := loopF_shows E l k (followF E { m with used := m.used + 1 } l[m.pc])
        obtain ⟨d, hd1⟩ := loopF_shows F l k (followF F { n with used := n.used + 1 } l[m.pc])
        rw [hc1, hd1] at ht'
        exact ME.loop hP hE l ha hj k _ _ (hu.follow hP hE l[m.pc] (ha _ hm).1 (ha _ hm).2 (fun e => hj ⟨_, hm, e⟩) ht'.pre) ht
    · rw [if_neg hc, if_neg (fun q => hc (hc2.1 q))]; exact h
theorem ME.start (hE : EE P E F) {b c : Bd} (h : BE P b c) (d e : Int) : ME P (Go.Proofs.Ytcdlipdeemlibaa.G.start E b d) (Go.Proofs.Ytcdlipdeemlibaa.G.start F c e) :=
  ⟨h, rfl, rfl, rfl, rfl, fun i _ => by show CE P ((regs0 E.all).at i) ((regs0 F.all).at i); rw [hE.all]; exact CE.refl _ _, rfl⟩
/-- Two runs. -/
structure RE (P : BitVec 32 → Bool) (r s : Rs) : Prop where
  bd : BE P r.bd s.bd
  touched : r.touched = s.touched
  shows : SE r.shows s.shows
  used : r.used = s.used
  err : r.err = s.err
theorem RE.run (hP : PO P E.all) (hE : EE P E F) (hl : E.moves.length = F.moves.length) (l : List Cd) (hj : (∃ x ∈ l, x.op = 22) → Join' P) {b c : Bd} (h : BE P b c) (d e : Int) (ht : Tell P (runF E l b d).shows (runF F l c e).shows) : RE P (runF E l b d) (runF F l c e) := by
  unfold runF at ht ⊢
  rw [← hl, ← h.1] at ht ⊢
  by_cases hR : rightL l b.l.length E.moves.length = false
  · rw [if_pos hR, if_pos hR]; exact ⟨h, rfl, rfl, rfl, rfl⟩
  · rw [if_neg hR, if_neg hR] at ht ⊢
    have hall : ∀ x ∈ l, x.a < 8 ∧ x.b < 8 := fun x hx => by
      have h2 : l.length ≤ 96 ∧ ∀ x ∈ l, x.right l.length b.l.length E.moves.length = true := by simpa [rightL] using hR
      exact (right_ab (h2.2 x hx)).2
    have hk := fun g => ME.loop hP hE l hall hj 400 _ _ (ME.start hE h d e) g
    have he : (loopF E l 400 (Go.Proofs.Ytcdlipdeemlibaa.G.start E b d)).shows = (if (loopF E l 400 (Go.Proofs.Ytcdlipdeemlibaa.G.start E b d)).err ≠ 0 then (⟨b, d, 0#64, (loopF E l 400 (Go.Proofs.Ytcdlipdeemlibaa.G.start E b d)).shows, (loopF E l 400 (Go.Proofs.Ytcdlipdeemlibaa.G.start E b d)).used, (loopF E l 400 (Go.Proofs.Ytcdlipdeemlibaa.G.start E b d)).err⟩ : Rs) else ⟨(loopF E l 400 (Go.Proofs.Ytcdlipdeemlibaa.G.start E b d)).bd, (loopF E l 400 (Go.Proofs.Ytcdlipdeemlibaa.G.start E b d)).dice, (loopF E l 400 (Go.Proofs.Ytcdlipdeemlibaa.G.start E b d)).touched, (loopF E l 400 (Go.Proofs.Ytcdlipdeemlibaa.G.start E b d)).shows, (loopF E l 400 (Go.Proofs.Ytcdlipdeemlibaa.G.start E b d)).used, 0⟩).shows := by split <;> rfl
    have hf : (loopF F l 400 (Go.Proofs.Ytcdlipdeemlibaa.G.start F c e)).shows = (if (loopF F l 400 (Go.Proofs.Ytcdlipdeemlibaa.G.start F c e)).err ≠ 0 then (⟨c, e, 0#64, (loopF F l 400 (Go.Proofs.Ytcdlipdeemlibaa.G.start F c e)).shows, (loopF F l 400 (Go.Proofs.Ytcdlipdeemlibaa.G.start F c e)).used, (loopF F l 400 (Go.Proofs.Ytcdlipdeemlibaa.G.start F c e)).err⟩ : Rs) else ⟨(loopF F l 400 (Go.Proofs.Ytcdlipdeemlibaa.G.start F c e)).bd, (loopF F l 400 (Go.Proofs.Ytcdlipdeemlibaa.G.start F c e)).dice, (loopF F l 400 (Go.Proofs.Ytcdlipdeemlibaa.G.start F c e)).touched, (loopF F l 400 (Go.Proofs.Ytcdlipdeemlibaa.G.start F c e)).shows, (loopF F l 400 (Go.Proofs.Ytcdlipdeemlibaa.G.start F c e)).used, 0⟩).shows := by split <;> rfl
    rw [← he, ← hf] at ht
    have hM := hk ht
    rw [← hM.err]
    split
    · exact ⟨h, rfl, hM.shows, hM.used, rfl⟩
    · exact ⟨hM.bd, hM.touched, hM.shows, hM.used, rfl⟩
end Go.Proofs.Ytcdlipdeemlibaa.G
namespace Go.Proofs.Ytcdlipdeemlibaa.G
open Go
set_option linter.unusedSimpArgs false
set_option linter.unusedVariables false
set_option maxRecDepth 20000
set_option maxHeartbeats 1000000
variable {b : Bd} {ns : Bool} {m : Mc} {E : Me}
/-- A show of cells of a board b, that now are those of m. -/
structure SOk (b : Bd) (ns : Bool) (all : BitVec 32) (m : Bd) (s : Sh) : Prop where
  there : b.there s.cell = true
  to0 : s.to ≠ 0#32
  all : within s.to all = true
  was : ns = true → s.to &&& (b.at s.cell).s = 0#32 ∧ s.v = (b.at s.cell).v ∧ within s.to (m.at s.cell).s = true
/-- Labels grow. -/
def LG (m n : Bd) : Prop := ∀ i : Int, within (m.at i).s (n.at i).s = true
theorem LG.refl (m : Bd) : LG m m := fun i => within_self _
theorem SOk.grow {all : BitVec 32} {m n : Bd} {s : Sh} (h : SOk b ns all m s) (hg : ns = true → LG m n) : SOk b ns all n s :=
  ⟨h.there, h.to0, h.all, fun e => ⟨(h.was e).1, (h.was e).2.1, within_trans (h.was e).2.2 (hg e _)⟩⟩
theorem KP.lg (h : KP b true m) : LG b m.bd := by
  intro i
  by_cases hi : i.toNat < b.l.length
  · obtain ⟨c', k1, k2, k3⟩ := h.lab rfl i.toNat _ (List.getElem?_eq_getElem hi)
    have e1 : m.bd.at i = c' := by simp [Bd.at, List.getD_eq_getElem?_getD, k1]
    have e2 : b.at i = b.l[i.toNat] := by simp [Bd.at, hi]
    rw [e1, e2]; exact k3
  · have e1 : b.at i = Cl.z := by simp [Bd.at, List.getD_eq_getElem?_getD, List.getElem?_eq_none (Nat.not_lt.1 hi)]
    rw [e1]
    unfold within Cl.z; simp
end Go.Proofs.Ytcdlipdeemlibaa.G
namespace Go.Proofs.Ytcdlipdeemlibaa.G
open Go
set_option linter.unusedSimpArgs false
set_option linter.unusedVariables false
set_option maxRecDepth 20000
set_option maxHeartbeats 2000000
/-- A step of a game. -/
def Gm.run (g : Gm) (ms : List (BitVec 32)) (b : Bd) (d t : Int) : Rs := runF (g.env ms t (.sc (.slice none 0 0))) g.code b d
/-- What a step comes to. -/
def outC (r : Rs) (s : IV) : List IV := [.int .u64 (r.touched.toNat : Int), s, nI r.err]
variable {b : Bd} {E : Me}
end Go.Proofs.Ytcdlipdeemlibaa.G
namespace Go.Proofs.Ytcdlipdeemlibaa.G
open Go
set_option linter.unusedSimpArgs false
set_option linter.unusedVariables false
set_option maxRecDepth 20000
set_option maxHeartbeats 2000000
theorem out_len (r s) : (outC r s).length = 3 := rfl
theorem out_take (r s) : (outC r s).take 3 = outC r s := rfl
theorem out_0 (r s) : (outC r s).take 1 = [.int .u64 (r.touched.toNat : Int)] := rfl
theorem out_00 (r s) : ((outC r s).drop 0).take 1 = [.int .u64 (r.touched.toNat : Int)] := rfl
theorem out_1 (r s) : ((outC r s).drop 1).take 1 = [s] := rfl
theorem out_2 (r s) : ((outC r s).drop 2).take 1 = [nI r.err] := rfl
theorem out_z (r s) : isplice [IV.sc (Value.int IntKind.u64 0), IV.sc (Value.slice none 0 0), IV.sc (Value.int IntKind.i64 0)] 0 (outC r s) = outC r s := rfl
attribute [go_sem] out_len out_take out_0 out_00 out_1 out_2
attribute [go_sem ↓] out_z
end Go.Proofs.Ytcdlipdeemlibaa.G
namespace Go.Proofs.Ytcdlipdeemlibaa.G
open Go
set_option linter.unusedSimpArgs false
set_option linter.unusedVariables false
set_option maxRecDepth 20000
set_option maxHeartbeats 1000000
/-- The cells of a list, laid out. -/
def clL (X : List Cl) : List IV := (X.map Cl.c).flatten
theorem clL_len (X : List Cl) : (clL X).length = X.length * 2 := by rw [clL, flat_len (cl2 X), List.length_map]
theorem clL_pure (X : List Cl) : ipureL (clL X) = true := cl_pure X
/-- A list of cells of one's own. -/
def RawC (J : JH) (s : IV) (X : List Cl) : Prop := (X = [] ∧ s = .lst 2 true []) ∨ (X ≠ [] ∧ ∃ b, s = .sl b 0 0 X.length (UNK + 2) 2 ∧ J[b]? = some (.cells 0 (clL X) false))
theorem Clip.raw {J J' : JH} {s : IV} {X : List Cl} (h : Clip J J' s 2 (X.map Cl.c)) : RawC J' s X := by
  rcases h with ⟨h, rfl, _⟩ | ⟨h, rfl, rfl⟩
  · exact .inl ⟨List.map_eq_nil_iff.1 h, rfl⟩
  · refine .inr ⟨fun e => h (by rw [e]; rfl), J.size, by rw [List.length_map], by rw [push_get]; rfl⟩
theorem Clip.new {J J' : JH} {s : IV} {sz : Nat} {X : List (List IV)} (h : Clip J J' s sz X) : ∀ d ∈ blk s, J.size ≤ d := by
  rcases h with ⟨_, rfl, _⟩ | ⟨_, rfl, _⟩ <;> simp [blk, blkOf]
theorem RawC.fr {J J' : JH} {s : IV} {X : List Cl} {S : List Nat} (h : RawC J s X) (hf : Fr J J' S) (hs : ∀ d ∈ blk s, d ∉ S) : RawC J' s X := by
  rcases h with h | ⟨h, b, rfl, hb⟩
  · exact .inl h
  · exact .inr ⟨h, b, rfl, by rw [hf.2 b (lt_get hb) (hs b (by simp [blk, blkOf]))]; exact hb⟩
theorem RawC.lenF {J : JH} {s : IV} {X : List Cl} (h : RawC J s X) (J2 : JH) : Go.Proofs.Ytcdlipdeemlibaa.G.lenF false s J2 = some (nI X.length, J2) := by
  rcases h with ⟨rfl, rfl⟩ | ⟨_, _, rfl, _⟩ <;> rfl
theorem RawC.get {J : JH} {s : IV} {X : List Cl} (h : RawC J s X) {i : Nat} (hi : i < X.length) : ∃ b, s = .sl b 0 0 X.length (UNK + 2) 2 ∧ J[b]? = some (.cells 0 (clL X) false) := by
  rcases h with ⟨rfl, _⟩ | h
  · cases hi
  · exact h.2
theorem RawC.frz {J : JH} {s : IV} {X : List Cl} (h : RawC J s X) : ∃ u, (∀ k, Go.Proofs.Ytcdlipdeemlibaa.G.frz J (k + 1) s = some u) ∧ Ls 2 u (X.map Cl.e) := by
  rcases h with ⟨rfl, rfl⟩ | ⟨hne, b, rfl, hb⟩
  · exact ⟨_, fun k => frz_pure _ _ rfl, .lst⟩
  · have hl : X.length = (X.map Cl.c).length := by simp
    have hr : ird J b 0 0 (X.length * 2) = some (X.map Cl.c).flatten := by
      simp only [ird, hb, true_and, Nat.zero_add, List.drop_zero]
      rw [if_pos (by rw [clL_len]; exact Nat.le_refl _), List.take_of_length_le (by rw [clL_len]; exact Nat.le_refl _)]; rfl
    refine ⟨_, fun k => frz_sl (by decide) hr (cl_pure X) (flat_one X), ?_⟩
    rw [hl, grp_flat (cl2 X), cl_mk]; exact .lst
theorem RawC.shows {J : JH} {s : IV} {X : List Cl} (h : RawC J s X) : ∀ d ∈ Go.Proofs.Ytcdlipdeemlibaa.G.shows J DEP s, d ∈ blk s := by
  rcases h with ⟨rfl, rfl⟩ | ⟨hne, b, rfl, hb⟩
  · intro d hd; rw [shows_pure J DEP rfl] at hd; cases hd
  · intro d hd
    have hr : ird J b 0 0 (X.length * 2) = some (clL X) := by
      simp only [ird, hb, true_and, Nat.zero_add, List.drop_zero]
      rw [if_pos (by rw [clL_len]; exact Nat.le_refl _), List.take_of_length_le (by rw [clL_len]; exact Nat.le_refl _)]
    rw [frz12, shows_sl hr (clL_pure X)] at hd
    exact hd
end Go.Proofs.Ytcdlipdeemlibaa.G
namespace Go.Proofs.Ytcdlipdeemlibaa.G
open Go
set_option linter.unusedSimpArgs false
set_option linter.unusedVariables false
set_option maxRecDepth 20000
set_option maxHeartbeats 1000000
theorem BE.view (p : Int) (b : Bd) : BE (fun s => hasM s p) b (b.view p) := by
  refine ⟨by simp [Bd.view, Bd.map], fun j => ?_⟩
  simp only [Bd.at, Bd.view, Bd.map, List.getD_eq_getElem?_getD, List.getElem?_map]
  cases h : b.l[j.toNat]? with
  | none => exact CE.refl _ _
  | some c =>
    show CE _ c (viewC p c)
    unfold viewC
    split
    · exact CE.refl _ _
    · rename_i hn; exact ⟨rfl, fun h => absurd h hn⟩
variable {P : BitVec 32 → Bool} {E F : Me} {m n : Mc}
/-- What differs for the first time. -/
def Diff (P : BitVec 32 → Bool) (a b : List Sh) : Prop := ∃ (j : Nat) (s t : Sh), a[j]? = some s ∧ b[j]? = some t ∧ P s.to = true ∧ s.v ≠ t.v ∧ SE (a.take (j + 1)) (b.take (j + 1))
theorem Diff.ext {a b c d : List Sh} (h : Diff P a b) : Diff P (a ++ c) (b ++ d) := by
  obtain ⟨j, s, t, h1, h2, h3, h4, h5⟩ := h
  have l1 := (List.getElem?_eq_some_iff.1 h1).1
  have l2 := (List.getElem?_eq_some_iff.1 h2).1
  refine ⟨j, s, t, by rw [List.getElem?_append_left l1]; exact h1, by rw [List.getElem?_append_left l2]; exact h2, h3, h4, ?_⟩
  rw [List.take_append_of_le_length (by omega), List.take_append_of_le_length (by omega)]
  exact h5
end Go.Proofs.Ytcdlipdeemlibaa.G
namespace Go.Proofs.Ytcdlipdeemlibaa.G
open Go
set_option linter.unusedSimpArgs false
set_option linter.unusedVariables false
set_option maxRecDepth 20000
set_option maxHeartbeats 2000000
end Go.Proofs.Ytcdlipdeemlibaa.G
namespace Go.Proofs.Ytcdlipdeemlibaa.G
open Go
set_option linter.unusedSimpArgs false
set_option linter.unusedVariables false
set_option maxRecDepth 20000
set_option maxHeartbeats 2000000
end Go.Proofs.Ytcdlipdeemlibaa.G
namespace Go.Proofs.Ytcdlipdeemlibaa.G
open Go
set_option linter.unusedSimpArgs false
set_option linter.unusedVariables false
set_option maxRecDepth 20000
set_option maxHeartbeats 2000000
end Go.Proofs.Ytcdlipdeemlibaa.G
namespace Go.Proofs.Ytcdlipdeemlibaa.G
open Go
set_option linter.unusedSimpArgs false
set_option linter.unusedVariables false
set_option maxRecDepth 20000
set_option maxHeartbeats 2000000
theorem EE.refl (P : BitVec 32 → Bool) (E : Me) : EE P E E := ⟨rfl, rfl, fun _ _ => rfl⟩
theorem sta_eq (b c : Bd) (d t : Int) (e u : Int) : iaggEq (stc b d t) (stc c e u) = some (decide (b = c) && (decide (d = e) && decide (t = u))) := by
  have hb := b.h
  have hc := c.h
  have key : ∀ (p q : List Cl) (n m : Nat), p.length = q.length → iaggEq ((p.map Cl.c).flatten ++ [nI n, .int .u64 d, .int .u32 t]) ((q.map Cl.c).flatten ++ [nI m, .int .u64 e, .int .u32 u]) = some (decide (p = q ∧ n = m) && (decide (d = e) && decide (t = u))) := by
    intro p
    induction p with
    | nil =>
      intro q n m h
      cases q with
      | nil =>
        simp only [List.map_nil, List.flatten_nil, List.nil_append, iaggEq, if_true, Bool.and_true, true_and]
        congr 1
        rw [Bool.eq_iff_iff]; simp; omega
      | cons _ _ => simp at h
    | cons a p ih =>
      intro q n m h
      cases q with
      | nil => simp at h
      | cons b q =>
        have ih := ih q n m (by simpa using h)
        obtain ⟨av, as1⟩ := a
        obtain ⟨bv, bs1⟩ := b
        simp only [List.map_cons, List.flatten_cons, Cl.c, List.cons_append, List.nil_append, iaggEq, if_true, List.append_eq, ih, beqB]
        congr 1
        rw [Bool.eq_iff_iff]
        simp [and_assoc]
  rw [stc, stc, bdc, bdc, Bd.pad, Bd.pad, List.append_assoc, List.append_assoc]
  simp only [List.cons_append, List.nil_append]
  rw [key _ _ _ _ (by simp; omega)]
  congr 2
  rw [decide_eq_decide]
  constructor
  · rintro ⟨h1, h2⟩
    apply Bd.ext
    rw [h2] at h1
    exact List.append_cancel_right h1
  · rintro rfl
    exact ⟨rfl, rfl⟩
attribute [go_sem] sta_eq
end Go.Proofs.Ytcdlipdeemlibaa.G
namespace Go.Proofs.Ytcdlipdeemlibaa.G
open Go
set_option linter.unusedSimpArgs false
set_option linter.unusedVariables false
set_option maxRecDepth 20000
set_option maxHeartbeats 2000000
theorem view_view (b : Bd) (o : Int) : (b.view o).view o = b.view o := by
  apply Bd.ext
  simp only [Bd.view, Bd.map, List.map_map]
  apply List.map_congr_left
  intro c _
  simp only [Function.comp, viewC]
  split
  · rfl
  · rfl
theorem tells_k0 (g : Gm) (x y : IV) (h : GR g x y) (hb : g.cells.length ≤ 100000) (m : BitVec 32) (s o : Int) (J : JH) (h0 : J[0]? = some (.cells 0 (gmc g x y) false)) (K : Out IV → JH → Prop) (hT : ∀ J', K (.ret [.bool true]) J') :
    WP (dn BI l_law10_RulesTells_k0 [m32 m, .int .u64 s, .int .i64 o, .ptr 0 0 0] J) K := by
  unfold l_law10_RulesTells_k0
  obtain ⟨a, ha, hal⟩ := h.x.slice (h := min g.cells.length 48) (by simp; omega)
  have hm : min (g.cells.length : Int) 48 = ((min g.cells.length 48 : Nat) : Int) := by omega
  have hal' : Ls 2 a ((g.cells.take (min g.cells.length 48)).map Cl.e) := by rw [List.map_take]; exact hal
  have hN := New_ok a _ hal' (by simp; omega)
  generalize Bd.new (g.cells.take (min g.cells.length 48)) = b at *
  have hl0 := lt_get h0
  have hmd : BI.md F_rules_State_View = .pure := rfl
  have hmd2 : BI.md F_board_Board_View = .pure := rfl
  have hV := SView_ok b s m.toNat o
  have hV2 := SView_ok (b.view o) 0 m.toNat o
  rw [view_view] at hV2
  have hz : isplice (isplice (isplice (stc Bd.z 0 0) 0 (bdc b)) 97 [.int .u64 s]) 98 [m32 m] = stc b s m.toNat := by rw [sta_sbd, sta_s97, sta_s98]
  simp -implicitDefEqProofs only [go_sem, dnW_ite, reduceIte, Nat.reduceAdd, Nat.reduceLeDiff, Nat.reduceMul, Nat.reduceEqDiff, Int.reduceLT, Int.reduceLE, Int.reduceToNat, Nat.reduceSub, Nat.reduceLT, Int.reduceEq, BitVec.reduceOfInt, BitVec.reduceOfNat, Int.reduceGT, Int.reduceGE, Int.reduceBEq, Int.reduceBNe, Nat.reduceGT, Nat.reduceBEq, Nat.reduceBNe, Int.reduceAdd, Int.reduceSub, Int.reduceNeg, h0, h.x.lenF, List.length_map, hm, ha, dcp hN (by simp [ipureL, hal'.pure]), inb h0, sta_z, sta_one, hz, hmd, hmd2, dcp hV (by simp [ipureL, ipure, sta_pure]), dcp hV2 (by simp [ipureL, ipure, sta_pure]), dcp (View_ok b o) (by simp [ipureL, ipure, bdc_pure]), eq_one]
  exact hT _
theorem Tells_ok (g : Gm) (x y : IV) (h : GR g x y) (hw : ∀ c ∈ g.code, c.wf) (hc : g.cells.length ≤ 9223372036854775807) (hcd : g.code.length ≤ 9223372036854775807) (m : BitVec 32) (s o : Int) :
    pc BI F_law10_RulesTells [.agg (gmc g x y), m32 m, .int .u64 s, .int .i64 o] = some (.bool true) := by
  refine pcE fn_law10_RulesTells rfl fun K hK => ?_
  obtain ⟨_, hf, x3, y2, rfl, h2⟩ := gfew_ok g x y h hc hcd
  have hw2 := few_wf hw
  obtain ⟨n1, n2⟩ := few_len g
  generalize g.few = G at *
  have hg := gRight_ok G x3 y2 h2 hw2 (by omega)
  obtain ⟨_, hO, x4, y4, rfl, h4⟩ := own10_ok G x3 y2 h2 (by omega) (by omega)
  have hr := rRight10_ok G x4 y4 h4 hw2 (by omega)
  have hL := Legal_ok G x3 y2 h2 m
  have hL2 : decide ((m.toNat : Int) < (G.moves.toNat : Int)) = G.legal m := by simp [Gm.legal]
  unfold l_law10_RulesTells
  simp -implicitDefEqProofs only [go_sem, dnW_ite, reduceIte, Nat.reduceAdd, Nat.reduceLeDiff, Nat.reduceMul, Nat.reduceEqDiff, Int.reduceLT, Int.reduceLE, Int.reduceToNat, Nat.reduceSub, Nat.reduceLT, Int.reduceEq, BitVec.reduceOfInt, BitVec.reduceOfNat, Int.reduceGT, Int.reduceGE, Int.reduceBEq, Int.reduceBNe, Nat.reduceGT, Nat.reduceBEq, Nat.reduceBNe, Int.reduceAdd, Int.reduceSub, Int.reduceNeg, h.one, h2.one, dcp awake10 rfl, dcp hf (by simp [ipureL, ipure, h.pure]), dcp hg (by simp [ipureL, ipure, h2.pure]), dcp hO (by simp [ipureL, ipure, h2.pure]), dcp hr (by simp [ipureL, ipure, h4.pure]), dcp hL (by simp [ipureL, ipure, h2.pure]), ↓hL2, dcp (All10_ok G x3 y2 h2) (by simp [ipureL, ipure, h2.pure]), dcp (rAll_ok G.obs) rfl, beq_self_eq_true, bne_self_eq_false]
  exact tells_k0 G x3 y2 h2 (by omega) m s o _ rfl K fun J' => hK _ _ (frzE rfl rfl)
end Go.Proofs.Ytcdlipdeemlibaa.G
