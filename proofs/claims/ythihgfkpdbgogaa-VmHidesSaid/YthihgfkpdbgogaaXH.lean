/- Joined: W9 to W20. -/
import Derived.Test.YthihgfkpdbgogaaXG
set_option linter.unusedVariables false
set_option linter.unusedSimpArgs false
namespace Go.Proofs.Ythihgfkpdbgogaa.G
open Go
set_option linter.unusedSimpArgs false
set_option linter.unusedVariables false
set_option maxRecDepth 20000
set_option maxHeartbeats 2000000
theorem keeps_run {E : Me} (hE : E.ok) (l : List Cd) (hw : ∀ x ∈ l, x.wf) (b : Bd) (hb : b.ok) (d : Int) (ns : Bool) (hn : ns = true → ∀ x ∈ l, isStore x = false) :
    ((runF E l b d).err ≠ 0 → (runF E l b d).bd = b ∧ (runF E l b d).dice = d ∧ (runF E l b d).touched = 0#64 ∧ (runF E l b d).used ≤ 400) ∧
    ((runF E l b d).err = 0 → ∃ m : Mc, KP b ns m ∧ (runF E l b d).bd = m.bd ∧ (runF E l b d).touched = m.touched) := by
  unfold runF
  split
  · exact ⟨fun _ => ⟨rfl, rfl, rfl, Nat.zero_le _⟩, fun h => by cases h⟩
  · rename_i hR
    have hall : l.length ≤ 96 ∧ ∀ x ∈ l, x.right l.length b.l.length E.moves.length = true := by
      simpa [rightL] using hR
    have hst : (start E b d).ok b.l.length l.length := ⟨fun i hi => by
      have : ((start E b d).r.at i).v = 0 := by
        show ((regs0 E.all).at i).v = 0
        rw [rg_at _ hi]; simp only [regs0, List.getElem_replicate]
      rw [this]; exact I32_0, hb, rfl, Nat.zero_le _⟩
    split
    · refine ⟨fun _ => ⟨rfl, rfl, rfl, ?_⟩, fun h => absurd h (by assumption)⟩
      have := loop_used l hall.2 hE hw 400 (start E b d) hst
      have e : (start E b d).used = 0 := rfl
      show (loopF E l 400 (start E b d)).used ≤ 400
      omega
    · exact ⟨fun h => absurd rfl h, fun _ => ⟨loopF E l 400 (start E b d), KP.loop l hall.2 hn 400 _ (KP.start d), rfl, rfl⟩⟩
/-- a bit that is looked at -/
theorem bit_test (t : BitVec 64) (i : Nat) : (Int.tmod ((t >>> i).toNat : Int) 2 == 0) = !t.getLsbD i := by
  have e : Int.tmod ((t >>> i).toNat : Int) 2 = (((t >>> i).toNat % 2 : Nat) : Int) := rfl
  rw [e]
  have h : t.getLsbD i = (t >>> i).toNat.testBit 0 := by
    rw [BitVec.testBit_toNat, BitVec.getLsbD_ushiftRight, Nat.add_zero]
  rw [h, Nat.testBit_zero]
  have : (t >>> i).toNat % 2 = 0 ∨ (t >>> i).toNat % 2 = 1 := by omega
  rcases this with h2 | h2 <;> rw [h2] <;> rfl
theorem shr_zero {t : BitVec 64} {n : Nat} (h : ∀ i, n ≤ i → t.getLsbD i = false) : t >>> n = 0#64 := by
  apply BitVec.eq_of_getLsbD_eq
  intro i hi
  rw [BitVec.getLsbD_ushiftRight, h (n + i) (by omega)]; simp
theorem bd_at {b : Bd} {i : Nat} {c : Cl} (h : b.l[i]? = some c) : b.at (i : Int) = c := by simp [Bd.at, List.getD_eq_getElem?_getD, h]
/-- Does one store? -/
theorem keeps_k0 (z : IV) (L : List Cd) (hz : Ls 6 z (L.map Cd.e)) (hl : L.length ≤ 96) (c : IV) (J : JH) (h2 : J.size ≥ 3) (K : Out IV → JH → Prop)
    (hK : ∀ J', Fr J J' [] → WP (dn BI l_law09_VmKeeps_k3 [c, .ptr 2 0 0, .bool (L.any isStore)] J') K) :
    WP (dn BI l_law09_VmKeeps_k4 [z, c, .ptr 2 0 0] J) K := by
  unfold l_law09_VmKeeps_k4
  simp -implicitDefEqProofs only [go_sem, dnW_ite, reduceIte, Nat.reduceAdd, Nat.reduceLeDiff, Nat.reduceMul, Nat.reduceEqDiff, Int.reduceLT, Int.reduceLE, Int.reduceToNat, Nat.reduceSub, Nat.reduceLT, Int.reduceEq, BitVec.reduceOfInt, BitVec.reduceOfNat, Int.reduceGT, Int.reduceGE, Int.reduceBEq, Int.reduceBNe, Nat.reduceGT, Nat.reduceBEq, Nat.reduceBNe, Int.reduceAdd, Int.reduceSub, Int.reduceNeg, hz.lenF, List.length_map, dn_loop]
  refine WP_range (by decide) L.length (fun i vs J' => vs = [c, .ptr 2 0 0, .bool ((L.take i).any isStore), z, nI L.length, nI i] ∧ Fr J J' []) ?_ ⟨rfl, .refl _ _⟩
  rintro i vs J1 ⟨rfl, hf⟩ hi K1 g1 g2 g3
  unfold l_law09_VmKeeps_k0
  by_cases h : i < L.length
  · have hat := fun J => hz.at (i := i) (by simpa using h) (J := J)
    simp only [List.getElem_map, Cd.e, Cd.cs] at hat
    rw [List.take_succ_eq_append_getElem h, List.any_append] at g1
    have fin : ∀ b J', b = ((L.take i).any isStore || isStore L[i]) → Fr J1 J' [] → K1 (.goto 2 [c, .ptr 2 0 0, .bool b, z, nI L.length, nI (i + 1)]) J' := fun b J' hb hf' => g1 h _ _ ⟨by rw [hb]; simp, hf.trans hf' (by simp)⟩
    cases hs : (L.take i).any isStore with
    | true =>
      simp -implicitDefEqProofs only [go_sem, dnW_ite, reduceIte, Nat.reduceAdd, Nat.reduceLeDiff, Nat.reduceMul, Nat.reduceEqDiff, Int.reduceLT, Int.reduceLE, Int.reduceToNat, Nat.reduceSub, Nat.reduceLT, Int.reduceEq, BitVec.reduceOfInt, BitVec.reduceOfNat, Int.reduceGT, Int.reduceGE, Int.reduceBEq, Int.reduceBNe, Nat.reduceGT, Nat.reduceBEq, Nat.reduceBNe, Int.reduceAdd, Int.reduceSub, Int.reduceNeg, show ((i : Int) < (L.length : Int)) by omega, hat, wrapS h (show L.length ≤ 9223372036854775807 by omega)]
      exact fin _ _ (by simp [hs]) (.push _ _ _)
    | false =>
      by_cases o3 : L[i].op = 3
      · simp -implicitDefEqProofs only [go_sem, dnW_ite, reduceIte, Nat.reduceAdd, Nat.reduceLeDiff, Nat.reduceMul, Nat.reduceEqDiff, Int.reduceLT, Int.reduceLE, Int.reduceToNat, Nat.reduceSub, Nat.reduceLT, Int.reduceEq, BitVec.reduceOfInt, BitVec.reduceOfNat, Int.reduceGT, Int.reduceGE, Int.reduceBEq, Int.reduceBNe, Nat.reduceGT, Nat.reduceBEq, Nat.reduceBNe, Int.reduceAdd, Int.reduceSub, Int.reduceNeg, show ((i : Int) < (L.length : Int)) by omega, hat, wrapS h (show L.length ≤ 9223372036854775807 by omega), natBeqc, natBeqD, o3]
        exact fin _ _ (by simp [isStore, o3]) (.push _ _ _)
      · by_cases o5 : L[i].op = 5
        · simp -implicitDefEqProofs only [go_sem, dnW_ite, reduceIte, Nat.reduceAdd, Nat.reduceLeDiff, Nat.reduceMul, Nat.reduceEqDiff, Int.reduceLT, Int.reduceLE, Int.reduceToNat, Nat.reduceSub, Nat.reduceLT, Int.reduceEq, BitVec.reduceOfInt, BitVec.reduceOfNat, Int.reduceGT, Int.reduceGE, Int.reduceBEq, Int.reduceBNe, Nat.reduceGT, Nat.reduceBEq, Nat.reduceBNe, Int.reduceAdd, Int.reduceSub, Int.reduceNeg, show ((i : Int) < (L.length : Int)) by omega, hat, wrapS h (show L.length ≤ 9223372036854775807 by omega), natBeqc, natBeqD, o3, o5]
          exact fin _ _ (by simp [isStore, o5]) (.push _ _ _)
        · simp -implicitDefEqProofs only [go_sem, dnW_ite, reduceIte, Nat.reduceAdd, Nat.reduceLeDiff, Nat.reduceMul, Nat.reduceEqDiff, Int.reduceLT, Int.reduceLE, Int.reduceToNat, Nat.reduceSub, Nat.reduceLT, Int.reduceEq, BitVec.reduceOfInt, BitVec.reduceOfNat, Int.reduceGT, Int.reduceGE, Int.reduceBEq, Int.reduceBNe, Nat.reduceGT, Nat.reduceBEq, Nat.reduceBNe, Int.reduceAdd, Int.reduceSub, Int.reduceNeg, show ((i : Int) < (L.length : Int)) by omega, hat, wrapS h (show L.length ≤ 9223372036854775807 by omega), natBeqc, natBeqD, o3, o5]
          exact fin _ _ (by rw [hs, isStore, natBeqD, natBeqD, natBeqD]; simp [o3, o5]) (.push _ _ _)
  · simp -implicitDefEqProofs only [go_sem, dnW_ite, reduceIte, Nat.reduceAdd, Nat.reduceLeDiff, Nat.reduceMul, Nat.reduceEqDiff, Int.reduceLT, Int.reduceLE, Int.reduceToNat, Nat.reduceSub, Nat.reduceLT, Int.reduceEq, BitVec.reduceOfInt, BitVec.reduceOfNat, Int.reduceGT, Int.reduceGE, Int.reduceBEq, Int.reduceBNe, Nat.reduceGT, Nat.reduceBEq, Nat.reduceBNe, Int.reduceAdd, Int.reduceSub, Int.reduceNeg, show ¬ ((i : Int) < (L.length : Int)) by omega]
    refine g2 _ _ ?_
    have := hK J1 hf
    rw [List.take_of_length_le (by omega)]
    exact this
theorem eqAgg_cl (a b : Cl) : iaggEq [.int .i32 a.v, m32 a.s] [.int .i32 b.v, m32 b.s] = some (decide (a = b)) := by
  simp only [iaggEq, if_true, beqB, Bool.and_true]
  congr 1
  rw [Bool.eq_iff_iff]
  cases a; cases b
  simp
theorem keeps_k1 (y : IV) (C : List Cl) (hC : C.length ≤ 48) (hy : Ls 2 y (C.map Cl.e)) (R : Rs) (u : IV) (ns : Bool) (J : JH) (h2 : J[2]? = some (.cells 0 (resC R u) false)) (hk : ∃ m : Mc, KP ⟨C, hC⟩ ns m ∧ R.bd = m.bd ∧ R.touched = m.touched) (st : Bool) (hst : st = !ns) (K : Out IV → JH → Prop)
    (hK : ∀ J', K (.ret [.bool true]) J') :
    WP (dn BI l_law09_VmKeeps_k3 [y, .ptr 2 0 0, .bool st] J) K := by
  obtain ⟨m, hm, hb, ht⟩ := hk
  unfold l_law09_VmKeeps_k3
  simp -implicitDefEqProofs only [go_sem, dnW_ite, reduceIte, Nat.reduceAdd, Nat.reduceLeDiff, Nat.reduceMul, Nat.reduceEqDiff, Int.reduceLT, Int.reduceLE, Int.reduceToNat, Nat.reduceSub, Nat.reduceLT, Int.reduceEq, BitVec.reduceOfInt, BitVec.reduceOfNat, Int.reduceGT, Int.reduceGE, Int.reduceBEq, Int.reduceBNe, Nat.reduceGT, Nat.reduceBEq, Nat.reduceBNe, Int.reduceAdd, Int.reduceSub, Int.reduceNeg, hy.lenF, List.length_map, dn_loop]
  refine WP_range (by decide) C.length (fun i vs J' => vs = [y, .ptr 2 0 0, .bool st, y, nI C.length, nI i] ∧ Fr J J' []) ?_ ⟨rfl, .refl _ _⟩
  rintro i vs J1 ⟨rfl, hf⟩ hi K1 g1 g2 g3
  have h21 : J1[2]? = some (.cells 0 (resC R u) false) := by rw [hf.2 2 (lt_get h2) (by simp)]; exact h2
  have hin := inb h21
  by_cases h : i < C.length
  · have hat := fun J => hy.at (i := i) (by simpa using h) (J := J)
    simp only [List.getElem_map, Cl.e, Cl.c] at hat
    have hth : R.bd.there (i : Int) = true := by
      have : m.bd.l.length = C.length := hm.len
      rw [hb]; simp only [Bd.there, decide_eq_true_eq]; omega
    have hA := At_ok R.bd (i : Int)
    rw [hth] at hA
    simp only [if_true, Cl.c] at hA
    have fin : ∀ J', Fr J1 J' [] → K1 (.goto 3 [y, .ptr 2 0 0, .bool st, y, nI C.length, nI (i + 1)]) J' := fun J' hf' => g1 h _ _ ⟨rfl, hf.trans hf' (by simp)⟩
    have hci : (⟨C, hC⟩ : Bd).l[i]? = some C[i] := by simp [h]
    have hrem : IntKind.u64.wrap 0 = 0 := rfl
    have hbt := bit_test R.touched i
    have hkept : R.touched.getLsbD i = false → R.bd.at (i : Int) = C[i] := fun e => by
      rw [ht] at e
      have := hm.kept i e
      rw [hb]; exact bd_at (this.trans hci)
    have hlab : ns = true → (R.bd.at (i : Int)).v = C[i].v ∧ within C[i].s (R.bd.at (i : Int)).s = true := fun e => by
      obtain ⟨c', k1, k2, k3⟩ := hm.lab e i C[i] hci
      rw [hb, bd_at k1]; exact ⟨k2, k3⟩
    generalize R.bd.at (i : Int) = c' at *
    unfold l_law09_VmKeeps_k1
    have ff : Fr J1 ((J1.push (IB.cells 0 [IV.int .i32 C[i].v, m32 C[i].s] false)).push (IB.cells 0 [IV.int .i32 c'.v, m32 c'.s] false)) [] := (Fr.push _ _ []).trans (.push _ _ []) (by simp)
    cases hb2 : R.touched.getLsbD i with
    | false =>
      rw [hb2] at hbt
      have he := hkept hb2
      have heq := eqAgg_cl C[i] c'
      rw [he] at heq
      cases ns with
      | true =>
        obtain ⟨l1, l2⟩ := hlab rfl
        have hw := Within_ok C[i].s c'.s
        rw [l2, he] at hw
        subst hst
        simp -implicitDefEqProofs only [go_sem, dnW_ite, reduceIte, Nat.reduceAdd, Nat.reduceLeDiff, Nat.reduceMul, Nat.reduceEqDiff, Int.reduceLT, Int.reduceLE, Int.reduceToNat, Nat.reduceSub, Nat.reduceLT, Int.reduceEq, BitVec.reduceOfInt, BitVec.reduceOfNat, Int.reduceGT, Int.reduceGE, Int.reduceBEq, Int.reduceBNe, Nat.reduceGT, Nat.reduceBEq, Nat.reduceBNe, Int.reduceAdd, Int.reduceSub, Int.reduceNeg, show ((i : Int) < (C.length : Int)) by omega, hat, h21, Array.getElem?_push, hin, dcp hA (by simp [ipureL, ipure, bdc_pure]), show ¬ (i : Int) < 0 by omega, show min i 64 = i by omega, hbt, he, heq, dcp hw rfl, wrapS h (show C.length ≤ 9223372036854775807 by omega), bne_self_eq_false, show ¬ ((2 : Int) = 0) by decide]
        rw [he] at ff
        exact fin _ ff
      | false =>
        subst hst
        simp -implicitDefEqProofs only [go_sem, dnW_ite, reduceIte, Nat.reduceAdd, Nat.reduceLeDiff, Nat.reduceMul, Nat.reduceEqDiff, Int.reduceLT, Int.reduceLE, Int.reduceToNat, Nat.reduceSub, Nat.reduceLT, Int.reduceEq, BitVec.reduceOfInt, BitVec.reduceOfNat, Int.reduceGT, Int.reduceGE, Int.reduceBEq, Int.reduceBNe, Nat.reduceGT, Nat.reduceBEq, Nat.reduceBNe, Int.reduceAdd, Int.reduceSub, Int.reduceNeg, show ((i : Int) < (C.length : Int)) by omega, hat, h21, Array.getElem?_push, hin, dcp hA (by simp [ipureL, ipure, bdc_pure]), show ¬ (i : Int) < 0 by omega, show min i 64 = i by omega, hbt, he, heq, wrapS h (show C.length ≤ 9223372036854775807 by omega), bne_self_eq_false, show ¬ ((2 : Int) = 0) by decide]
        rw [he] at ff
        exact fin _ ff
    | true =>
      rw [hb2] at hbt
      cases ns with
      | true =>
        obtain ⟨l1, l2⟩ := hlab rfl
        have hw := Within_ok C[i].s c'.s
        rw [l2] at hw
        subst hst
        simp -implicitDefEqProofs only [go_sem, dnW_ite, reduceIte, Nat.reduceAdd, Nat.reduceLeDiff, Nat.reduceMul, Nat.reduceEqDiff, Int.reduceLT, Int.reduceLE, Int.reduceToNat, Nat.reduceSub, Nat.reduceLT, Int.reduceEq, BitVec.reduceOfInt, BitVec.reduceOfNat, Int.reduceGT, Int.reduceGE, Int.reduceBEq, Int.reduceBNe, Nat.reduceGT, Nat.reduceBEq, Nat.reduceBNe, Int.reduceAdd, Int.reduceSub, Int.reduceNeg, show ((i : Int) < (C.length : Int)) by omega, hat, h21, Array.getElem?_push, hin, dcp hA (by simp [ipureL, ipure, bdc_pure]), show ¬ (i : Int) < 0 by omega, show min i 64 = i by omega, hbt, l1, dcp hw rfl, wrapS h (show C.length ≤ 9223372036854775807 by omega), bne_self_eq_false, show ¬ ((2 : Int) = 0) by decide]
        rw [l1] at ff
        exact fin _ ff
      | false =>
        subst hst
        simp -implicitDefEqProofs only [go_sem, dnW_ite, reduceIte, Nat.reduceAdd, Nat.reduceLeDiff, Nat.reduceMul, Nat.reduceEqDiff, Int.reduceLT, Int.reduceLE, Int.reduceToNat, Nat.reduceSub, Nat.reduceLT, Int.reduceEq, BitVec.reduceOfInt, BitVec.reduceOfNat, Int.reduceGT, Int.reduceGE, Int.reduceBEq, Int.reduceBNe, Nat.reduceGT, Nat.reduceBEq, Nat.reduceBNe, Int.reduceAdd, Int.reduceSub, Int.reduceNeg, show ((i : Int) < (C.length : Int)) by omega, hat, h21, Array.getElem?_push, hin, dcp hA (by simp [ipureL, ipure, bdc_pure]), show ¬ (i : Int) < 0 by omega, show min i 64 = i by omega, hbt, wrapS h (show C.length ≤ 9223372036854775807 by omega), bne_self_eq_false, show ¬ ((2 : Int) = 0) by decide]
        exact fin _ ff
  · unfold l_law09_VmKeeps_k1
    simp -implicitDefEqProofs only [go_sem, dnW_ite, reduceIte, Nat.reduceAdd, Nat.reduceLeDiff, Nat.reduceMul, Nat.reduceEqDiff, Int.reduceLT, Int.reduceLE, Int.reduceToNat, Nat.reduceSub, Nat.reduceLT, Int.reduceEq, BitVec.reduceOfInt, BitVec.reduceOfNat, Int.reduceGT, Int.reduceGE, Int.reduceBEq, Int.reduceBNe, Nat.reduceGT, Nat.reduceBEq, Nat.reduceBNe, Int.reduceAdd, Int.reduceSub, Int.reduceNeg, show ¬ ((i : Int) < (C.length : Int)) by omega]
    refine g2 _ _ ?_
    unfold l_law09_VmKeeps_k2
    have hsh := shr_zero (t := R.touched) (n := C.length) (fun i hi => by rw [ht]; exact hm.high i hi)
    have hl : R.bd.l.length = C.length := by rw [hb]; exact hm.len
    simp -implicitDefEqProofs only [go_sem, dnW_ite, reduceIte, Nat.reduceAdd, Nat.reduceLeDiff, Nat.reduceMul, Nat.reduceEqDiff, Int.reduceLT, Int.reduceLE, Int.reduceToNat, Nat.reduceSub, Nat.reduceLT, Int.reduceEq, BitVec.reduceOfInt, BitVec.reduceOfNat, Int.reduceGT, Int.reduceGE, Int.reduceBEq, Int.reduceBNe, Nat.reduceGT, Nat.reduceBEq, Nat.reduceBNe, Int.reduceAdd, Int.reduceSub, Int.reduceNeg, h21, dcp (Len_ok R.bd) (by simp [ipureL, ipure, bdc_pure]), hy.lenF, List.length_map, hl, show ¬ (C.length : Int) < 0 by omega, show min C.length 64 = C.length by omega, hsh]
    exact hK _
theorem playersF_len (l : List Int) : (playersF l).length ≤ 6 := by
  unfold playersF; split <;> simp; omega
theorem playersF_rng {l : List Int} (h : ∀ v ∈ l, I32 v) : ∀ v ∈ playersF l, I32 v := by
  unfold playersF; split
  · intro v hv; simp at hv; subst hv; exact I32_0
  · exact fun v hv => h v (List.mem_of_mem_take hv)
theorem Keeps_ok (x c mv : IV) (l : List Cd) (cl : List Cl) (d : Int) (ms : List Int) (hx : Ls 6 x (l.map Cd.e)) (hc : Ls 2 c (cl.map Cl.e)) (hm : Ls 1 mv (ms.map (IV.int .i32))) (hw : ∀ q ∈ l, q.wf) (hv : ∀ q ∈ cl, I32 q.v) (hmr : ∀ v ∈ ms, I32 v) (hb : l.length ≤ 9223372036854775807) (hb2 : cl.length ≤ 9223372036854775807) (hb3 : ms.length ≤ 9223372036854775807) :
    pc BI F_law09_VmKeeps [x, c, .agg [.int .u64 d], mv] = some (.bool true) := by
  refine pcE fn_law09_VmKeeps rfl fun K hK => ?_
  obtain ⟨y, hy, hyl⟩ := few_ok c cl hc hb2
  obtain ⟨q, hq, hql⟩ := players_ok mv ms hm hb3
  obtain ⟨_, hz, z1, z2, rfl, hz1, hz2⟩ := codes_ok x l hx hb
  have hw' : ∀ q ∈ l.take 96, q.wf := fun q hq => hw q (List.mem_of_mem_take hq)
  have hl96 : (l.take 96).length ≤ 96 := by simp; omega
  generalize l.take 96 = L at *
  have hn := New48 y cl hyl
  have hE : (⟨q, playersF ms, 3, allM 8⟩ : Me).ok := ⟨hql, playersF_rng hmr, by have := playersF_len ms; show (playersF ms).length ≤ _; omega⟩
  obtain ⟨_, hr, s, hs, rfl⟩ := Run_ok z1 L hz1 hw' (by omega) (bd48 cl) (bd48_ok hv) d ⟨q, playersF ms, 3, allM 8⟩ hE
  have hr' : pc BI F_vm_Run [z1, .agg (bdc (bd48 cl)), .agg [.int .u64 d], q, .int .u32 3, m32 (allM 8)] = _ := hr
  have ha : pc BI F_mask_All [.int .i64 8] = some (m32 (allM 8)) := All_ok 8
  obtain ⟨k1, k2⟩ := keeps_run hE L hw' (bd48 cl) (bd48_ok hv) d (!L.any isStore) (fun e => by simpa using e)
  have hbd : bd48 cl = ⟨cl.take 48, (bd48 cl).h⟩ := rfl
  generalize runF ⟨q, playersF ms, 3, allM 8⟩ L (bd48 cl) d = R at *
  unfold l_law09_VmKeeps
  by_cases he : R.err = 0
  · have he' : ((R.err : Int) != 0) = false := by simp [he]
    simp -implicitDefEqProofs only [go_sem, dnW_ite, reduceIte, Nat.reduceAdd, Nat.reduceLeDiff, Nat.reduceMul, Nat.reduceEqDiff, Int.reduceLT, Int.reduceLE, Int.reduceToNat, Nat.reduceSub, Nat.reduceLT, Int.reduceEq, BitVec.reduceOfInt, BitVec.reduceOfNat, Int.reduceGT, Int.reduceGE, Int.reduceBEq, Int.reduceBNe, Nat.reduceGT, Nat.reduceBEq, Nat.reduceBNe, Int.reduceAdd, Int.reduceSub, Int.reduceNeg, dcp awake09 rfl, dcp hy (by simp [ipureL, hc.pure]), dcp hq (by simp [ipureL, hm.pure]), dcp hz (by simp [ipureL, hx.pure]), dcp hn (by simp [ipureL, hyl.pure]), dcp ha rfl, dcp hr' (by simp [ipureL, ipure, hz1.pure, hql.pure, bdc_pure]), rs_one _ _ hs.one, he']
    refine keeps_k0 z1 L hz1 hl96 y _ (by simp) K fun J' hf => ?_
    refine keeps_k1 y (cl.take 48) (bd48 cl).h hyl R s (!L.any isStore) J' ?_ (k2 he) _ (by simp) K (fun J2 => hK _ _ (frzE rfl rfl))
    rw [hf.2 2 (by simp) (by simp)]; rfl
  · have he' : ((R.err : Int) != 0) = true := by simp; omega
    obtain ⟨b1, b2, b3, b4⟩ := k1 he
    simp -implicitDefEqProofs only [go_sem, dnW_ite, reduceIte, Nat.reduceAdd, Nat.reduceLeDiff, Nat.reduceMul, Nat.reduceEqDiff, Int.reduceLT, Int.reduceLE, Int.reduceToNat, Nat.reduceSub, Nat.reduceLT, Int.reduceEq, BitVec.reduceOfInt, BitVec.reduceOfNat, Int.reduceGT, Int.reduceGE, Int.reduceBEq, Int.reduceBNe, Nat.reduceGT, Nat.reduceBEq, Nat.reduceBNe, Int.reduceAdd, Int.reduceSub, Int.reduceNeg, dcp awake09 rfl, dcp hy (by simp [ipureL, hc.pure]), dcp hq (by simp [ipureL, hm.pure]), dcp hz (by simp [ipureL, hx.pure]), dcp hn (by simp [ipureL, hyl.pure]), dcp ha rfl, dcp hr' (by simp [ipureL, ipure, hz1.pure, hql.pure, bdc_pure]), rs_one _ _ hs.one, he', b1, b2, b3, eq_one, show ((R.used : Int) ≤ 400) by omega]
    exact hK _ _ (frzE rfl rfl)
end Go.Proofs.Ythihgfkpdbgogaa.G
namespace Go.Proofs.Ythihgfkpdbgogaa.G
open Go
set_option linter.unusedSimpArgs false
set_option linter.unusedVariables false
set_option maxRecDepth 20000
set_option maxHeartbeats 1000000
/-- Cells that one sees alike. -/
def CE (P : BitVec 32 → Bool) (a b : Cl) : Prop := a.s = b.s ∧ (P a.s = true → a.v = b.v)
theorem CE.refl (P) (a : Cl) : CE P a a := ⟨rfl, fun _ => rfl⟩
/-- Boards that one sees alike. -/
def BE (P : BitVec 32 → Bool) (a b : Bd) : Prop := a.l.length = b.l.length ∧ ∀ i : Int, CE P (a.at i) (b.at i)
/-- Shows of like cells, to the like. -/
def SE (a b : List Sh) : Prop := a.map (fun s => (s.cell, s.to)) = b.map (fun s => (s.cell, s.to))
structure ME (P : BitVec 32 → Bool) (m n : Mc) : Prop where
  bd : BE P m.bd n.bd
  touched : m.touched = n.touched
  shows : SE m.shows n.shows
  used : m.used = n.used
  err : m.err = n.err
  r : ∀ i, i < 8 → CE P (m.r.at i) (n.r.at i)
  pc : m.pc = n.pc
/-- Who sees what: what all see one sees; of two labels' meet one sees both. -/
structure PO (P : BitVec 32 → Bool) (all : BitVec 32) : Prop where
  all : ∀ s, within all s = true → P s = true
  meet : ∀ a b, P (a &&& b) = true → P a = true ∧ P b = true
  zero : P 0#32 = false
/-- The environments of both. -/
structure EE (P : BitVec 32 → Bool) (E F : Me) : Prop where
  all : E.all = F.all
  tick : E.tick = F.tick
  moves : ∀ i : Int, P (oneM i) = true → E.moves.getD i.toNat 0 = F.moves.getD i.toNat 0
variable {P : BitVec 32 → Bool} {E F : Me} {m n : Mc}
theorem BE.there {a b : Bd} (h : BE P a b) (i : Int) : a.there i = b.there i := by simp only [Bd.there, h.1]
theorem Bd.at_set (b : Bd) {i : Nat} (hi : i < b.l.length) (c : Cl) (j : Int) : (b.set i c).at j = if j.toNat = i then c else b.at j := by
  simp only [Bd.at, Bd.set, List.getD_eq_getElem?_getD, List.getElem?_set]
  by_cases h : i = j.toNat
  · subst h; simp [hi]
  · simp [h, Ne.symm h]
theorem BE.put {a b : Bd} (h : BE P a b) (i : Int) {c d : Cl} (hc : CE P c d) : BE P (a.put i c) (b.put i d) := by
  refine ⟨by rw [put_len, put_len]; exact h.1, fun j => ?_⟩
  unfold Bd.put
  rw [h.there i]
  by_cases ht : b.there i = true
  · have h1 : i.toNat < b.l.length := by simp [Bd.there] at ht; omega
    rw [if_pos ht, if_pos ht, Bd.at_set _ (by rw [h.1]; exact h1), Bd.at_set _ h1]
    split
    · exact hc
    · exact h.2 j
  · rw [if_neg ht, if_neg ht]; exact h.2 j
theorem BE.show {a b : Bd} (h : BE P a b) (i : Int) {to : BitVec 32} (hc : P ((a.at i).s ||| to) = true → (a.at i).v = (b.at i).v) : BE P (a.show i to) (b.show i to) := by
  refine ⟨by rw [show_len, show_len]; exact h.1, fun j => ?_⟩
  unfold Bd.show
  rw [h.there i]
  by_cases ht : b.there i = true
  · have h1 : i.toNat < b.l.length := by simp [Bd.there] at ht; omega
    rw [if_pos ht, if_pos ht, Bd.at_set _ (by rw [h.1]; exact h1), Bd.at_set _ h1]
    split
    · exact ⟨by show _ ||| to = _ ||| to; rw [(h.2 i).1], hc⟩
    · exact h.2 j
  · rw [if_neg ht, if_neg ht]; exact h.2 j
theorem Rset {r q : Rg} (h : ∀ i, i < 8 → CE P (r.at i) (q.at i)) {k : Nat} (hk : k < 8) {c d : Cl} (hc : CE P c d) : ∀ i, i < 8 → CE P ((r.set k c).at i) ((q.set k d).at i) := by
  intro i hi
  rw [Rg.at_set _ _ _ hk, Rg.at_set _ _ _ hk]
  split
  · exact hc
  · exact h i hi
theorem named_eq (hP : PO P E.all) (hE : EE P E F) (h : ME P m n) (x : Cd) (hb : x.b < 8) : named E m x = named F n x := by
  have hr := h.r x.b hb
  unfold named
  rw [← hE.all, ← hr.1, ← h.bd.1]
  by_cases hw : within E.all (m.r.at x.b).s = false
  · rw [if_pos hw, if_pos hw]
  · rw [if_neg hw, if_neg hw, ← hr.2 (hP.all _ (by simpa using hw))]
theorem bitEq (i : Int) : bit i = bit i := rfl
theorem ME.setR (h : ME P m n) {k : Nat} (hk : k < 8) {c d : Cl} (hc : CE P c d) : ME P { m with r := m.r.set k c } { n with r := n.r.set k d } := ⟨h.bd, h.touched, h.shows, h.used, h.err, Rset h.r hk hc, h.pc⟩
theorem ME.put (h : ME P m n) (i : Int) {c d : Cl} (hc : CE P c d) : ME P { m with bd := m.bd.put i c, touched := m.touched ||| bit i } { n with bd := n.bd.put i d, touched := n.touched ||| bit i } := ⟨h.bd.put i hc, by show _ ||| _ = _ ||| _; rw [h.touched], h.shows, h.used, h.err, h.r, h.pc⟩
theorem CE.z (hz : P 0#32 = false) (a b : Int) : CE P ⟨a, 0#32⟩ ⟨b, 0#32⟩ := ⟨rfl, fun h => by rw [hz] at h; cases h⟩
theorem ME.fill (hz : P 0#32 = false) (start : Nat) (o1 o2 : List Int) : ∀ (k : Nat) (m n : Mc), ME P m n → ME P (fillN m start o1 k) (fillN n start o2 k)
  | 0, m, n, h => h
  | k + 1, m, n, h => (ME.fill hz start o1 o2 k m n h).put _ (CE.z hz _ _)
theorem ME.errs (h : ME P m n) (e : Nat) : ME P { m with err := e } { n with err := e } := ⟨h.bd, h.touched, h.shows, h.used, rfl, h.r, h.pc⟩
theorem SE.app {a b c d : List Sh} (h : SE a b) (k : SE c d) : SE (a ++ c) (b ++ d) := by
  unfold SE at *
  rw [List.map_append, List.map_append, h, k]
/-- What is shown to one is the same. -/
def Tell (P : BitVec 32 → Bool) (a b : List Sh) : Prop := ∀ (i : Nat) (s t : Sh), a[i]? = some s → b[i]? = some t → P s.to = true → s.v = t.v
/-- One sees more by a show alone. -/
def Join' (P : BitVec 32 → Bool) : Prop := ∀ s t, P (s ||| t) = true → P s = true ∨ P t = true
theorem ME.reveal (hP : PO P E.all) (hE : EE P E F) (h : ME P m n) (x : Cd) (hb : x.b < 8) (hj : Join' P) (ht : Tell P (revealF E m x).shows (revealF F n x).shows) : ME P (revealF E m x) (revealF F n x) := by
  have hn := named_eq hP hE h x hb
  unfold revealF at ht ⊢
  rw [← hn] at ht ⊢
  by_cases hk : (named E m x).2.1 = false
  · rw [if_pos hk, if_pos hk]; exact h.errs _
  · rw [if_neg hk, if_neg hk] at ht ⊢
    have hc := h.bd.2 (named E m x).1
    have ho : Sh.one n x F.all (named E m x).1 = Sh.one m x E.all (named E m x).1 := by unfold Sh.one; rw [← hE.all, ← hc.1]
    rw [ho] at ht ⊢
    have hlen : m.shows.length = n.shows.length := by have := congrArg List.length h.shows; simpa using this
    have hv : P (Sh.one m x E.all (named E m x).1) = true → (m.bd.at (named E m x).1).v = (n.bd.at (named E m x).1).v := fun hp => by
      have hz : Sh.one m x E.all (named E m x).1 ≠ 0#32 := fun e => by rw [e, hP.zero] at hp; cases hp
      simp only [if_neg hz] at ht
      have := ht m.shows.length ⟨(named E m x).1, Sh.one m x E.all (named E m x).1, (m.bd.at (named E m x).1).v⟩ ⟨(named E m x).1, Sh.one m x E.all (named E m x).1, (n.bd.at (named E m x).1).v⟩ (by simp) (by rw [hlen]; simp) hp
      exact this
    refine ⟨h.bd.show _ fun hp => ?_, by show _ ||| _ = _ ||| _; rw [h.touched], SE.app h.shows ?_, h.used, rfl, h.r, h.pc⟩
    · rcases hj _ _ hp with hp | hp
      · exact hc.2 hp
      · exact hv hp
    · by_cases hz : Sh.one m x E.all (named E m x).1 = 0#32
      · rw [if_pos hz, if_pos hz]; rfl
      · rw [if_neg hz, if_neg hz]; rfl
theorem ME.reach (hP : PO P E.all) (hE : EE P E F) (h : ME P m n) (x : Cd) (ha : x.a < 8) (hb : x.b < 8) (hj : x.op = 22 → Join' P) (ht : Tell P (reachF E m x).shows (reachF F n x).shows) : ME P (reachF E m x) (reachF F n x) := by
  have hn := named_eq hP hE h x hb
  unfold reachF at ht ⊢
  split
  · rw [← hn]
    split
    · exact h.setR ha (h.bd.2 _)
    · exact h.errs _
  · rw [← hn]
    split
    · exact h.put _ (h.r _ ha)
    · exact h.errs _
  · rename_i hop
    simp only [hop] at ht
    exact ME.reveal hP hE h x hb (hj hop) ht
  · have hd : ME P { m with dice := (shufL m.dice (x.c - 1) (rowV m x.n.toNat x.c)).2 } { n with dice := (shufL n.dice (x.c - 1) (rowV n x.n.toNat x.c)).2 } := ⟨h.bd, h.touched, h.shows, h.used, h.err, h.r, h.pc⟩
    exact ME.fill hP.zero _ _ _ _ _ _ hd
  · exact h
theorem CE.meet (hP : PO P E.all) {a b c d : Cl} (h : CE P a b) (k : CE P c d) (f : Int → Int → Int) : CE P ⟨f a.v c.v, a.s &&& c.s⟩ ⟨f b.v d.v, b.s &&& d.s⟩ := by
  refine ⟨by show a.s &&& c.s = b.s &&& d.s; rw [h.1, k.1], fun hp => ?_⟩
  obtain ⟨h1, h2⟩ := hP.meet _ _ hp
  show f a.v c.v = f b.v d.v
  rw [h.2 h1, k.2 h2]
theorem ME.follow (hP : PO P E.all) (hE : EE P E F) (h : ME P m n) (x : Cd) (ha : x.a < 8) (hb : x.b < 8) (hj : x.op = 22 → Join' P) (ht : Tell P (followF E m x).shows (followF F n x).shows) : ME P (followF E m x) (followF F n x) := by
  have hg : ME P m.go n.go := ⟨h.bd, h.touched, h.shows, h.used, h.err, h.r, by show m.pc + 1 = n.pc + 1; rw [h.pc]⟩
  have hc8 : x.c % 8 < 8 := by omega
  unfold followF at ht ⊢
  simp only at ht ⊢
  split
  · exact hg.setR ha (by rw [hE.all]; exact CE.refl _ _)
  · exact hg.setR ha (hg.bd.2 _)
  · exact hg.put _ (hg.r _ ha)
  · refine hg.setR ha ⟨?_, fun hp => ?_⟩
    · show _ &&& _ &&& _ = _ &&& _ &&& _
      rw [(hg.r _ ha).1, (hg.r _ hb).1, (hg.r _ hc8).1]
    · obtain ⟨h1, h2⟩ := hP.meet _ _ hp
      obtain ⟨h3, h4⟩ := hP.meet _ _ h1
      show (if _ then _ else _) = (if _ then _ else _)
      rw [(hg.r _ ha).2 h3, (hg.r _ hb).2 h4, (hg.r _ hc8).2 h2]
  · rw [← hE.all, ← (hg.r _ ha).1]
    by_cases hw : within E.all (m.go.r.at x.a).s = true
    · rw [if_pos hw, if_pos hw, ← (hg.r _ ha).2 (hP.all _ hw)]
      split
      · exact ⟨hg.bd, hg.touched, hg.shows, hg.used, hg.err, hg.r, rfl⟩
      · exact hg
    · rw [if_neg hw, if_neg hw]; exact hg.errs _
  · exact ⟨hg.bd, hg.touched, hg.shows, hg.used, hg.err, hg.r, rfl⟩
  · exact hg.setR ha ⟨rfl, fun hp => hE.moves _ hp⟩
  · have := hg.setR ha (CE.z hP.zero (below m.go.dice x.n) (below n.go.dice x.n))
    exact ⟨this.bd, this.touched, this.shows, this.used, this.err, this.r, this.pc⟩
  · exact hg.setR ha (by rw [hE.all, hE.tick]; exact CE.refl _ _)
  · rename_i hop; simp only [hop] at ht; exact ME.reach hP hE hg x ha hb hj ht
  · rename_i hop; simp only [hop] at ht; exact ME.reach hP hE hg x ha hb hj ht
  · rename_i hop; simp only [hop] at ht; exact ME.reach hP hE hg x ha hb hj ht
  · rename_i hop; simp only [hop] at ht; exact ME.reach hP hE hg x ha hb hj ht
  · exact hg.setR ha (CE.meet hP (hg.r _ hb) (hg.r _ hc8) _)
end Go.Proofs.Ythihgfkpdbgogaa.G
namespace Go.Proofs.Ythihgfkpdbgogaa.G
open Go
set_option linter.unusedSimpArgs false
set_option linter.unusedVariables false
set_option maxRecDepth 20000
set_option maxHeartbeats 1000000
variable {P : BitVec 32 → Bool} {E F : Me} {m n : Mc}
theorem Tell.pre {P : BitVec 32 → Bool} {a b c d : List Sh} (h : Tell P (a ++ c) (b ++ d)) : Tell P a b := by
  intro i s t h1 h2 h3
  refine h i s t ?_ ?_ h3
  · rw [List.getElem?_append_left (by have := List.getElem?_eq_some_iff.1 h1; exact this.1)]; exact h1
  · rw [List.getElem?_append_left (by have := List.getElem?_eq_some_iff.1 h2; exact this.1)]; exact h2
theorem fillN_shows (a k : Nat) (out : List Int) : ∀ (j : Nat) (m : Mc), (fillN m a out j).shows = m.shows := fun j m => (fillN_same a out j m).2.2.1
theorem reachF_shows (E : Me) (m : Mc) (x : Cd) : ∃ c, (reachF E m x).shows = m.shows ++ c := by
  unfold reachF
  split
  · split
    · exact ⟨[], (List.append_nil _).symm⟩
    · exact ⟨[], (List.append_nil _).symm⟩
  · split
    · exact ⟨[], (List.append_nil _).symm⟩
    · exact ⟨[], (List.append_nil _).symm⟩
  · unfold revealF; split
    · exact ⟨[], (List.append_nil _).symm⟩
    · exact ⟨_, rfl⟩
  · have := fillN_same x.n.toNat (shufL m.dice (x.c - 1) (rowV m x.n.toNat x.c)).1 x.c { m with dice := (shufL m.dice (x.c - 1) (rowV m x.n.toNat x.c)).2 }
    refine ⟨[], ?_⟩
    rw [List.append_nil, shuffleF]
    simp_all
  · exact ⟨[], (List.append_nil _).symm⟩
theorem followF_shows (E : Me) (m : Mc) (x : Cd) : ∃ c, (followF E m x).shows = m.shows ++ c := by
  unfold followF
  simp only
  split <;> first | exact ⟨[], (List.append_nil _).symm⟩ | exact reachF_shows E m.go x | skip
  split
  · split <;> exact ⟨[], (List.append_nil _).symm⟩
  · exact ⟨[], (List.append_nil _).symm⟩
theorem loopF_shows (E : Me) (l : List Cd) : ∀ (k : Nat) (m : Mc), ∃ c, (loopF E l k m).shows = m.shows ++ c
  | 0, m => by
    rw [loopF]; split
    · exact ⟨[], (List.append_nil _).symm⟩
    · exact ⟨[], (List.append_nil _).symm⟩
  | k + 1, m => by
    rw [loopF]
    split
    · split
      · exact ⟨[], (List.append_nil _).symm⟩
      · obtain ⟨c, hc⟩ := loopF_shows E l k (followF E { m with used := m.used + 1 } (l.getD m.pc ⟨0, 0, 0, 0, 0, 0⟩))
        obtain ⟨d, hd⟩ := followF_shows E { m with used := m.used + 1 } (l.getD m.pc ⟨0, 0, 0, 0, 0, 0⟩)
        refine ⟨d ++ c, ?_⟩
        rw [hc, hd, List.append_assoc]
    · exact ⟨[], (List.append_nil _).symm⟩
theorem ME.loop (hP : PO P E.all) (hE : EE P E F) (l : List Cd) (ha : ∀ x ∈ l, x.a < 8 ∧ x.b < 8) (hj : (∃ x ∈ l, x.op = 22) → Join' P) : ∀ (k : Nat) (m n : Mc), ME P m n → Tell P (loopF E l k m).shows (loopF F l k n).shows → ME P (loopF E l k m) (loopF F l k n)
  | 0, m, n, h, ht => by
    have hc2 : (n.err = 0 ∧ n.pc < l.length) ↔ (m.err = 0 ∧ m.pc < l.length) := by rw [h.err, h.pc]
    rw [loopF, loopF]
    by_cases hc : m.err = 0 ∧ m.pc < l.length
    · rw [if_pos hc, if_pos (hc2.2 hc)]; exact h.errs _
    · rw [if_neg hc, if_neg (fun q => hc (hc2.1 q))]; exact h
  | k + 1, m, n, h, ht => by
    have hc2 : (n.err = 0 ∧ n.pc < l.length) ↔ (m.err = 0 ∧ m.pc < l.length) := by rw [h.err, h.pc]
    rw [loopF, loopF] at ht ⊢
    by_cases hc : m.err = 0 ∧ m.pc < l.length
    · rw [if_pos hc, if_pos (hc2.2 hc)] at ht ⊢
      have hm := List.getElem_mem hc.2
      have hx : l.getD m.pc ⟨0, 0, 0, 0, 0, 0⟩ = l[m.pc] := by simp [hc.2]
      have hy : l.getD n.pc ⟨0, 0, 0, 0, 0, 0⟩ = l[m.pc] := by rw [← h.pc, hx]
      rw [hx, hy] at ht ⊢
      have hu : ME P { m with used := m.used + 1 } { n with used := n.used + 1 } := ⟨h.bd, h.touched, h.shows, by show m.used + 1 = n.used + 1; rw [h.used], h.err, h.r, h.pc⟩
      by_cases h0 : l[m.pc].op = 0
      · rw [if_pos h0, if_pos h0]; exact hu
      · rw [if_neg h0, if_neg h0] at ht ⊢
        have ht' := ht
        obtain ⟨c, hc1⟩ := loopF_shows E l k (followF E { m with used := m.used + 1 } l[m.pc])
        obtain ⟨d, hd1⟩ := loopF_shows F l k (followF F { n with used := n.used + 1 } l[m.pc])
        rw [hc1, hd1] at ht'
        exact ME.loop hP hE l ha hj k _ _ (hu.follow hP hE l[m.pc] (ha _ hm).1 (ha _ hm).2 (fun e => hj ⟨_, hm, e⟩) ht'.pre) ht
    · rw [if_neg hc, if_neg (fun q => hc (hc2.1 q))]; exact h
theorem ME.start (hE : EE P E F) {b c : Bd} (h : BE P b c) (d e : Int) : ME P (Go.Proofs.Ythihgfkpdbgogaa.G.start E b d) (Go.Proofs.Ythihgfkpdbgogaa.G.start F c e) :=
  ⟨h, rfl, rfl, rfl, rfl, fun i _ => by show CE P ((regs0 E.all).at i) ((regs0 F.all).at i); rw [hE.all]; exact CE.refl _ _, rfl⟩
/-- Two runs. -/
structure RE (P : BitVec 32 → Bool) (r s : Rs) : Prop where
  bd : BE P r.bd s.bd
  touched : r.touched = s.touched
  shows : SE r.shows s.shows
  used : r.used = s.used
  err : r.err = s.err
theorem RE.run (hP : PO P E.all) (hE : EE P E F) (hl : E.moves.length = F.moves.length) (l : List Cd) (hj : (∃ x ∈ l, x.op = 22) → Join' P) {b c : Bd} (h : BE P b c) (d e : Int) (ht : Tell P (runF E l b d).shows (runF F l c e).shows) : RE P (runF E l b d) (runF F l c e) := by
  unfold runF at ht ⊢
  rw [← hl, ← h.1] at ht ⊢
  by_cases hR : rightL l b.l.length E.moves.length = false
  · rw [if_pos hR, if_pos hR]; exact ⟨h, rfl, rfl, rfl, rfl⟩
  · rw [if_neg hR, if_neg hR] at ht ⊢
    have hall : ∀ x ∈ l, x.a < 8 ∧ x.b < 8 := fun x hx => by
      have h2 : l.length ≤ 96 ∧ ∀ x ∈ l, x.right l.length b.l.length E.moves.length = true := by simpa [rightL] using hR
      exact (right_ab (h2.2 x hx)).2
    have hk := fun g => ME.loop hP hE l hall hj 400 _ _ (ME.start hE h d e) g
    have he : (loopF E l 400 (Go.Proofs.Ythihgfkpdbgogaa.G.start E b d)).shows = (if (loopF E l 400 (Go.Proofs.Ythihgfkpdbgogaa.G.start E b d)).err ≠ 0 then (⟨b, d, 0#64, (loopF E l 400 (Go.Proofs.Ythihgfkpdbgogaa.G.start E b d)).shows, (loopF E l 400 (Go.Proofs.Ythihgfkpdbgogaa.G.start E b d)).used, (loopF E l 400 (Go.Proofs.Ythihgfkpdbgogaa.G.start E b d)).err⟩ : Rs) else ⟨(loopF E l 400 (Go.Proofs.Ythihgfkpdbgogaa.G.start E b d)).bd, (loopF E l 400 (Go.Proofs.Ythihgfkpdbgogaa.G.start E b d)).dice, (loopF E l 400 (Go.Proofs.Ythihgfkpdbgogaa.G.start E b d)).touched, (loopF E l 400 (Go.Proofs.Ythihgfkpdbgogaa.G.start E b d)).shows, (loopF E l 400 (Go.Proofs.Ythihgfkpdbgogaa.G.start E b d)).used, 0⟩).shows := by split <;> rfl
    have hf : (loopF F l 400 (Go.Proofs.Ythihgfkpdbgogaa.G.start F c e)).shows = (if (loopF F l 400 (Go.Proofs.Ythihgfkpdbgogaa.G.start F c e)).err ≠ 0 then (⟨c, e, 0#64, (loopF F l 400 (Go.Proofs.Ythihgfkpdbgogaa.G.start F c e)).shows, (loopF F l 400 (Go.Proofs.Ythihgfkpdbgogaa.G.start F c e)).used, (loopF F l 400 (Go.Proofs.Ythihgfkpdbgogaa.G.start F c e)).err⟩ : Rs) else ⟨(loopF F l 400 (Go.Proofs.Ythihgfkpdbgogaa.G.start F c e)).bd, (loopF F l 400 (Go.Proofs.Ythihgfkpdbgogaa.G.start F c e)).dice, (loopF F l 400 (Go.Proofs.Ythihgfkpdbgogaa.G.start F c e)).touched, (loopF F l 400 (Go.Proofs.Ythihgfkpdbgogaa.G.start F c e)).shows, (loopF F l 400 (Go.Proofs.Ythihgfkpdbgogaa.G.start F c e)).used, 0⟩).shows := by split <;> rfl
    rw [← he, ← hf] at ht
    have hM := hk ht
    rw [← hM.err]
    split
    · exact ⟨h, rfl, hM.shows, hM.used, rfl⟩
    · exact ⟨hM.bd, hM.touched, hM.shows, hM.used, rfl⟩
theorem fillN_pre : True := trivial
/-- Without a reveal nothing is shown. -/
theorem reachF_none (E : Me) (m : Mc) (x : Cd) (h : x.op ≠ 22) : (reachF E m x).shows = m.shows := by
  unfold reachF
  split
  · split <;> rfl
  · split <;> rfl
  · rename_i ho; exact absurd ho h
  · have := fillN_same x.n.toNat (shufL m.dice (x.c - 1) (rowV m x.n.toNat x.c)).1 x.c { m with dice := (shufL m.dice (x.c - 1) (rowV m x.n.toNat x.c)).2 }
    rw [shuffleF]
    simp_all
  · rfl
theorem followF_none (E : Me) (m : Mc) (x : Cd) (h : x.op ≠ 22) : (followF E m x).shows = m.shows := by
  unfold followF
  simp only
  split <;> first | rfl | exact reachF_none E m.go x h | skip
  split
  · split <;> rfl
  · rfl
theorem loopF_none (E : Me) (l : List Cd) (hl : ∀ x ∈ l, x.op ≠ 22) : ∀ (k : Nat) (m : Mc), (loopF E l k m).shows = m.shows
  | 0, m => by
    rw [loopF]; split <;> rfl
  | k + 1, m => by
    rw [loopF]
    split
    · rename_i hc
      have hm := List.getElem_mem hc.2
      have hx : l.getD m.pc ⟨0, 0, 0, 0, 0, 0⟩ = l[m.pc] := by simp [hc.2]
      rw [hx]
      split
      · rfl
      · rw [loopF_none E l hl k, followF_none _ _ _ (hl _ hm)]
    · rfl
theorem runF_none (E : Me) (l : List Cd) (hl : ∀ x ∈ l, x.op ≠ 22) (b : Bd) (d : Int) : (runF E l b d).shows = [] := by
  unfold runF
  split
  · rfl
  · split
    · exact loopF_none E l hl 400 _
    · exact loopF_none E l hl 400 _
theorem bdB_labels {a b : Bd} (h : BE P a b) : bdB false a.l = bdB false b.l := by
  unfold bdB
  have : a.l.map Cl.s = b.l.map Cl.s := by
    apply List.ext_getElem
    · simp [h.1]
    · intro i h1 h2
      have := (h.2 (i : Int)).1
      simp only [List.length_map] at h1 h2
      simpa [Bd.at, List.getD_eq_getElem?_getD, h1, h2] using this
  have e : ∀ l : List Cl, l.flatMap (cellB false) = (l.map Cl.s).flatMap leW := fun l => by
    induction l with
    | nil => rfl
    | cons c l ih => simp only [List.flatMap_cons, List.map_cons, ih]; rfl
  rw [e, e, this]
theorem BE.labels {a b : Bd} (h : BE P a b) : sumB false a = sumB false b := by
  unfold sumB; rw [bdB_labels h]
end Go.Proofs.Ythihgfkpdbgogaa.G
namespace Go.Proofs.Ythihgfkpdbgogaa.G
open Go
set_option linter.unusedSimpArgs false
set_option linter.unusedVariables false
set_option maxRecDepth 20000
set_option maxHeartbeats 1000000
/-- The cells of a list, laid out. -/
def clL (X : List Cl) : List IV := (X.map Cl.c).flatten
theorem clL_len (X : List Cl) : (clL X).length = X.length * 2 := by rw [clL, flat_len (cl2 X), List.length_map]
theorem clL_at (X : List Cl) {i : Nat} (h : i < X.length) : ((clL X).drop (i * 2)).take 2 = X[i].c := by
  have := flat_at (rest := []) (cl2 X) (i := i) (by simpa using h)
  rw [List.append_nil] at this
  rw [clL, this]; simp
theorem clL_at1 (X : List Cl) {i k : Nat} (h : i < X.length) (hk : k < 2) : ((clL X).drop (i * 2 + k)).take 1 = [X[i].c[k]'hk] := by
  have := flat_at1 (rest := []) (cl2 X) (i := i) (k := k) (by simpa using h) (by simp [Cl.c]; omega)
  rw [List.append_nil] at this
  rw [clL, this]; simp only [List.getElem_map]; rfl
theorem clL_v (X : List Cl) {i : Nat} (h : i < X.length) : ((clL X).drop (i * 2)).take 1 = [.int .i32 X[i].v] := clL_at1 X h (k := 0) (by omega)
theorem clL_s (X : List Cl) {i : Nat} (h : i < X.length) : ((clL X).drop (i * 2 + 1)).take 1 = [m32 X[i].s] := clL_at1 X h (k := 1) (by omega)
theorem clL_splice (X : List Cl) {i k : Nat} (vs : List IV) (h : i < X.length) (hk : k + vs.length ≤ 2) (c : Cl) (hc : isplice X[i].c k vs = c.c) : isplice (clL X) (i * 2 + k) vs = clL (X.set i c) := by
  have e := flat_splice (rest := []) (cl2 X) (i := i) (k := k) (vs := vs) (by simpa using h) hk
  simp only [List.append_nil, List.getElem_map] at e
  rw [clL, e, hc, clL, List.map_set]
theorem clL_setv (X : List Cl) {i : Nat} (h : i < X.length) (v : Int) : isplice (clL X) (i * 2) [.int .i32 v] = clL (X.set i ⟨v, X[i].s⟩) := clL_splice X (k := 0) _ h (by simp) ⟨v, X[i].s⟩ rfl
theorem clL_sets (X : List Cl) {i : Nat} (h : i < X.length) (s : BitVec 32) : isplice (clL X) (i * 2 + 1) [m32 s] = clL (X.set i ⟨X[i].v, s⟩) := clL_splice X (k := 1) _ h (by simp) ⟨X[i].v, s⟩ rfl
theorem clL_pure (X : List Cl) : ipureL (clL X) = true := cl_pure X
theorem clL_one (X : List Cl) : (clL X).all ione = true := flat_one X
/-- A list of cells of one's own. -/
def RawC (J : JH) (s : IV) (X : List Cl) : Prop := (X = [] ∧ s = .lst 2 true []) ∨ (X ≠ [] ∧ ∃ b, s = .sl b 0 0 X.length (UNK + 2) 2 ∧ J[b]? = some (.cells 0 (clL X) false))
theorem Clip.raw {J J' : JH} {s : IV} {X : List Cl} (h : Clip J J' s 2 (X.map Cl.c)) : RawC J' s X := by
  rcases h with ⟨h, rfl, _⟩ | ⟨h, rfl, rfl⟩
  · exact .inl ⟨List.map_eq_nil_iff.1 h, rfl⟩
  · refine .inr ⟨fun e => h (by rw [e]; rfl), J.size, by rw [List.length_map], by rw [push_get]; rfl⟩
theorem Clip.new {J J' : JH} {s : IV} {sz : Nat} {X : List (List IV)} (h : Clip J J' s sz X) : ∀ d ∈ blk s, J.size ≤ d := by
  rcases h with ⟨_, rfl, _⟩ | ⟨_, rfl, _⟩ <;> simp [blk, blkOf]
theorem RawC.fr {J J' : JH} {s : IV} {X : List Cl} {S : List Nat} (h : RawC J s X) (hf : Fr J J' S) (hs : ∀ d ∈ blk s, d ∉ S) : RawC J' s X := by
  rcases h with h | ⟨h, b, rfl, hb⟩
  · exact .inl h
  · exact .inr ⟨h, b, rfl, by rw [hf.2 b (lt_get hb) (hs b (by simp [blk, blkOf]))]; exact hb⟩
theorem RawC.low {J : JH} {s : IV} {X : List Cl} (h : RawC J s X) : ∀ d ∈ blk s, d < J.size := by
  rcases h with ⟨_, rfl⟩ | ⟨_, b, rfl, hb⟩
  · simp [blk, blkOf]
  · intro d hd; simp [blk, blkOf] at hd; subst hd; exact lt_get hb
theorem RawC.lenF {J : JH} {s : IV} {X : List Cl} (h : RawC J s X) (J2 : JH) : Go.Proofs.Ythihgfkpdbgogaa.G.lenF false s J2 = some (nI X.length, J2) := by
  rcases h with ⟨rfl, rfl⟩ | ⟨_, _, rfl, _⟩ <;> rfl
theorem RawC.get {J : JH} {s : IV} {X : List Cl} (h : RawC J s X) {i : Nat} (hi : i < X.length) : ∃ b, s = .sl b 0 0 X.length (UNK + 2) 2 ∧ J[b]? = some (.cells 0 (clL X) false) := by
  rcases h with ⟨rfl, _⟩ | h
  · cases hi
  · exact h.2
theorem RawC.frz {J : JH} {s : IV} {X : List Cl} (h : RawC J s X) : ∃ u, (∀ k, Go.Proofs.Ythihgfkpdbgogaa.G.frz J (k + 1) s = some u) ∧ Ls 2 u (X.map Cl.e) := by
  rcases h with ⟨rfl, rfl⟩ | ⟨hne, b, rfl, hb⟩
  · exact ⟨_, fun k => frz_pure _ _ rfl, .lst⟩
  · have hl : X.length = (X.map Cl.c).length := by simp
    have hr : ird J b 0 0 (X.length * 2) = some (X.map Cl.c).flatten := by
      simp only [ird, hb, true_and, Nat.zero_add, List.drop_zero]
      rw [if_pos (by rw [clL_len]; exact Nat.le_refl _), List.take_of_length_le (by rw [clL_len]; exact Nat.le_refl _)]; rfl
    refine ⟨_, fun k => frz_sl (by decide) hr (cl_pure X) (flat_one X), ?_⟩
    rw [hl, grp_flat (cl2 X), cl_mk]; exact .lst
theorem RawC.shows {J : JH} {s : IV} {X : List Cl} (h : RawC J s X) : ∀ d ∈ Go.Proofs.Ythihgfkpdbgogaa.G.shows J DEP s, d ∈ blk s := by
  rcases h with ⟨rfl, rfl⟩ | ⟨hne, b, rfl, hb⟩
  · intro d hd; rw [shows_pure J DEP rfl] at hd; cases hd
  · intro d hd
    have hr : ird J b 0 0 (X.length * 2) = some (clL X) := by
      simp only [ird, hb, true_and, Nat.zero_add, List.drop_zero]
      rw [if_pos (by rw [clL_len]; exact Nat.le_refl _), List.take_of_length_le (by rw [clL_len]; exact Nat.le_refl _)]
    rw [frz12, shows_sl hr (clL_pure X)] at hd
    exact hd
theorem few_raw (x : IV) (l : List Cl) (hx : Ls 2 x (l.map Cl.e)) (hb : l.length ≤ 9223372036854775807) (J : JH) : RP (ic BI F_law09_few [x] J) fun s J' => Clip J J' s 2 ((l.take 48).map Cl.c) := by
  refine RP_run fn_law09_few rfl fun K hK => ?_
  obtain ⟨y, hy, hyl⟩ := hx.slice (h := min l.length 48) (by simp; omega)
  have hm : min (l.length : Int) 48 = ((min l.length 48 : Nat) : Int) := by omega
  unfold l_law09_few
  simp -implicitDefEqProofs only [go_sem, dnW_ite, reduceIte, Nat.reduceAdd, Nat.reduceLeDiff, Nat.reduceMul, Nat.reduceEqDiff, Int.reduceLT, Int.reduceLE, Int.reduceToNat, Nat.reduceSub, Nat.reduceLT, Int.reduceEq, BitVec.reduceOfInt, BitVec.reduceOfNat, Int.reduceGT, Int.reduceGE, Int.reduceBEq, Int.reduceBNe, Nat.reduceGT, Nat.reduceBEq, Nat.reduceBNe, Int.reduceAdd, Int.reduceSub, Int.reduceNeg, hx.lenF, List.length_map, ipureL, grp, hm, hy]
  have hyl' : Ls 2 y (((l.take 48).map Cl.c).map (mkE 2)) := by
    rw [cl_mk, List.map_take]
    have : (l.map Cl.e).take (min l.length 48) = (l.map Cl.e).take 48 := by
      rw [show min l.length 48 = min 48 (l.map Cl.e).length by simp; omega, ← List.take_eq_take_min]
    rw [← this]; exact hyl
  refine WP_bind (app_clip hyl' (by decide) (cl2 _) (flat_one _) (fits8 (by simp; omega))) fun s J' hs => ?_
  simp -implicitDefEqProofs only [go_sem, dnW_ite, reduceIte, Nat.reduceAdd, Nat.reduceLeDiff, Nat.reduceMul, Nat.reduceEqDiff, Int.reduceLT, Int.reduceLE, Int.reduceToNat, Nat.reduceSub, Nat.reduceLT, Int.reduceEq, BitVec.reduceOfInt, BitVec.reduceOfNat, Int.reduceGT, Int.reduceGE, Int.reduceBEq, Int.reduceBNe, Nat.reduceGT, Nat.reduceBEq, Nat.reduceBNe, Int.reduceAdd, Int.reduceSub, Int.reduceNeg]
  exact hK _ _ hs
theorem few_raw2 {J : JH} {s : IV} {X : List Cl} (h : RawC J s X) (hX : X.length ≤ 48) : RP (ic BI F_law09_few [s] J) fun s' J' => Clip J J' s' 2 (X.map Cl.c) := by
  rcases h with ⟨rfl, rfl⟩ | ⟨hne, b, rfl, hb⟩
  · exact few_raw _ [] .lst (by simp) J
  · refine RP_run fn_law09_few rfl fun K hK => ?_
    have hm : min (X.length : Int) 48 = (X.length : Int) := by omega
    unfold l_law09_few
    have hr : ird J b 0 0 (X.length * 2) = some (clL X) := by
      simp only [ird, hb, true_and, Nat.zero_add, List.drop_zero]
      rw [if_pos (by rw [clL_len]; exact Nat.le_refl _), List.take_of_length_le (by rw [clL_len]; exact Nat.le_refl _)]
    have h0 : X.length ≠ 0 := fun e => hne (List.eq_nil_of_length_eq_zero e)
    have hs : sliceF 2 (.sl b 0 0 X.length (UNK + 2) 2) none (some (nI X.length)) none J = some (.sl b 0 0 X.length (UNK + 2) 2, J) := by
      simp [sliceF, islice, ibnd, iasNat, asNat, capOf, ilift]
    have ha : appF 2 8 (.lst 2 true []) (.sl b 0 0 X.length (UNK + 2) 2) J = some (.sl J.size 0 0 X.length (UNK + 2) 2, J.push (.cells 0 (clL X) false)) := by
      have hone := clL_one X
      have hfit : fits X.length 8 = true := fits8 (by omega)
      simp [appF, iappend, iscells, hr, ilen, h0, hone, hfit]
    simp -implicitDefEqProofs only [go_sem, dnW_ite, reduceIte, Nat.reduceAdd, Nat.reduceLeDiff, Nat.reduceMul, Nat.reduceEqDiff, Int.reduceLT, Int.reduceLE, Int.reduceToNat, Nat.reduceSub, Nat.reduceLT, Int.reduceEq, BitVec.reduceOfInt, BitVec.reduceOfNat, Int.reduceGT, Int.reduceGE, Int.reduceBEq, Int.reduceBNe, Nat.reduceGT, Nat.reduceBEq, Nat.reduceBNe, Int.reduceAdd, Int.reduceSub, Int.reduceNeg, ipureL, grp, hm, ↓hs, ↓ha]
    exact hK _ _ (.inr ⟨by simpa using hne, by simp [itup], rfl⟩)
/-- Cells whose values are others. -/
def chgL (p : Cl → Bool) (vs : List Int) (X : List Cl) (i : Nat) : List Cl := X.mapIdx fun j c => if j < i ∧ j < vs.length ∧ p c = true then ⟨vs.getD j 0, c.s⟩ else c
theorem chg_len (p vs X i) : (chgL p vs X i).length = X.length := by simp [chgL]
theorem chg_0 (p vs X) : chgL p vs X 0 = X := by
  apply List.ext_getElem <;> simp [chgL]
theorem chg_at (p vs X) {i : Nat} (h : i < X.length) : (chgL p vs X i)[i]'(by rw [chg_len]; exact h) = X[i] := by simp [chgL]
theorem chg_skip (p vs X) {i : Nat} (h : i < X.length) (hn : ¬ (i < vs.length ∧ p X[i] = true)) : chgL p vs X (i + 1) = chgL p vs X i := by
  apply List.ext_getElem
  · simp [chgL]
  · intro j h1 h2
    simp only [chgL, List.getElem_mapIdx]
    have : (j < i + 1 ∧ j < vs.length ∧ p (X[j]'(by simpa [chgL] using h1)) = true) ↔ (j < i ∧ j < vs.length ∧ p (X[j]'(by simpa [chgL] using h1)) = true) := by
      constructor
      · rintro ⟨a, b⟩
        refine ⟨?_, b⟩
        by_cases e : j = i
        · subst e; exact absurd b hn
        · omega
      · rintro ⟨a, b⟩; exact ⟨by omega, b⟩
    simp only [this]
theorem chg_step (p vs X) {i : Nat} (h : i < X.length) (hv : i < vs.length) (hp : p X[i] = true) : chgL p vs X (i + 1) = (chgL p vs X i).set i ⟨vs[i], X[i].s⟩ := by
  apply List.ext_getElem
  · simp [chgL]
  · intro j h1 h2
    rw [List.getElem_set]
    simp only [chgL, List.getElem_mapIdx]
    by_cases e : i = j
    · subst e; simp [hv, hp]
    · have : (j < i + 1) = (j < i) := by apply propext; omega
      simp only [if_neg e, this]
theorem chg_BE {P : BitVec 32 → Bool} (p vs) {X : List Cl} (i : Nat) (hp : ∀ c ∈ X, p c = true → P c.s = false) (h1 h2) : BE P ⟨X, h1⟩ ⟨chgL p vs X i, h2⟩ := by
  refine ⟨(chg_len p vs X i).symm, fun j => ?_⟩
  simp only [Bd.at, List.getD_eq_getElem?_getD]
  by_cases hj : j.toNat < X.length
  · rw [List.getElem?_eq_getElem hj, List.getElem?_eq_getElem (by rw [chg_len]; exact hj)]
    simp only [chgL, List.getElem_mapIdx, Option.getD_some]
    split
    · rename_i hc
      refine ⟨rfl, fun h => ?_⟩
      have := hp _ (List.getElem_mem hj) hc.2.2
      rw [this] at h; cases h
    · exact CE.refl _ _
  · rw [List.getElem?_eq_none (by omega), List.getElem?_eq_none (by rw [chg_len]; omega)]
    exact CE.refl _ _
theorem chg_I32 {p vs} {X : List Cl} (hX : ∀ c ∈ X, I32 c.v) (hv : ∀ v ∈ vs, I32 v) (i : Nat) : ∀ c ∈ chgL p vs X i, I32 c.v := by
  intro c hc
  obtain ⟨j, hj, rfl⟩ := List.mem_iff_getElem.1 hc
  simp only [chgL, List.getElem_mapIdx]
  split
  · rename_i h
    show I32 (vs.getD j 0)
    rw [List.getD_eq_getElem?_getD, List.getElem?_eq_getElem h.2.1]
    exact hv _ (List.getElem_mem _)
  · exact hX _ (List.getElem_mem _)
end Go.Proofs.Ythihgfkpdbgogaa.G
namespace Go.Proofs.Ythihgfkpdbgogaa.G
open Go
set_option linter.unusedSimpArgs false
set_option linter.unusedVariables false
set_option maxRecDepth 20000
set_option maxHeartbeats 1000000
theorem one_bit (p : Nat) (hp : p < 32) (i : Nat) : (oneM (p : Int)).getLsbD i = decide (i = p) := by
  rw [oneM, if_pos (by omega), Int.toNat_natCast, BitVec.getLsbD_shiftLeft, BitVec.getLsbD_one]
  rw [Bool.eq_iff_iff]; simp; omega
theorem has_bit (s : BitVec 32) (p : Nat) (hp : p < 32) : hasM s (p : Int) = s.getLsbD p := by
  unfold hasM
  cases h : s.getLsbD p with
  | true =>
    rw [bne_iff_ne]
    intro e
    have := congrArg (fun x => x.getLsbD p) e
    simp [BitVec.getLsbD_and, one_bit p hp, h] at this
  | false =>
    rw [bne_eq_false_iff_eq]
    apply BitVec.eq_of_getLsbD_eq
    intro i hi
    rw [BitVec.getLsbD_and, one_bit p hp]
    by_cases e : i = p
    · subst e; simp [h]
    · simp [e]
theorem all_bit (n : Nat) (hn : n ≤ 32) {p : Nat} (hp : p < n) : (allM (n : Int)).getLsbD p = true := by
  rw [allM, show (min (max (n : Int) 0) 32).toNat = n by omega, BitVec.getLsbD_ofNat, Nat.testBit_two_pow_sub_one]
  simp; omega
theorem PO_has (p n : Nat) (hp : p < n) (hn : n ≤ 32) : PO (fun s => hasM s (p : Int)) (allM (n : Int)) := by
  have h32 : p < 32 := by omega
  refine ⟨fun s h => ?_, fun a b h => ?_, ?_⟩
  · show hasM s (p : Int) = true
    rw [has_bit _ _ h32]
    have h2 := congrArg (fun x => x.getLsbD p) (show allM (n : Int) &&& ~~~s = 0#32 by simpa [within] using h)
    simp only [BitVec.getLsbD_and, BitVec.getLsbD_not, all_bit n hn hp, BitVec.getLsbD_zero, h32, decide_true, Bool.true_and, Bool.not_eq_false'] at h2
    exact h2
  · show hasM a (p : Int) = true ∧ hasM b (p : Int) = true
    have h' : hasM (a &&& b) (p : Int) = true := h
    rw [has_bit _ _ h32] at *
    rw [has_bit _ _ h32]
    rw [BitVec.getLsbD_and, Bool.and_eq_true] at h'
    exact h'
  · show hasM 0#32 (p : Int) = false
    rw [has_bit _ _ h32]; simp
theorem Join_has (p : Nat) (hp : p < 32) : Join' (fun s => hasM s (p : Int)) := by
  intro s t h
  have h' : hasM (s ||| t) (p : Int) = true := h
  show hasM s (p : Int) = true ∨ hasM t (p : Int) = true
  rw [has_bit _ _ hp] at *
  rw [has_bit _ _ hp]
  rw [BitVec.getLsbD_or, Bool.or_eq_true] at h'
  exact h'
theorem one_has (p : Nat) (hp : p < 32) (i : Int) (h : hasM (oneM i) (p : Int) = true) : i = p := by
  rw [has_bit _ _ hp] at h
  by_cases hi : 0 ≤ i ∧ i < 32
  · obtain ⟨k, rfl⟩ : ∃ k : Nat, i = k := ⟨i.toNat, by omega⟩
    rw [one_bit k (by omega)] at h
    simp at h; omega
  · rw [oneM, if_neg hi] at h; simp at h
theorem BE.view (p : Int) (b : Bd) : BE (fun s => hasM s p) b (b.view p) := by
  refine ⟨by simp [Bd.view, Bd.map], fun j => ?_⟩
  simp only [Bd.at, Bd.view, Bd.map, List.getD_eq_getElem?_getD, List.getElem?_map]
  cases h : b.l[j.toNat]? with
  | none => exact CE.refl _ _
  | some c =>
    show CE _ c (viewC p c)
    unfold viewC
    split
    · exact CE.refl _ _
    · rename_i hn; exact ⟨rfl, fun h => absurd h hn⟩
theorem BE.views {p : Int} {a b : Bd} (h : BE (fun s => hasM s p) a b) : a.view p = b.view p := by
  have e : (a.view p).l = (b.view p).l := by
    simp only [Bd.view, Bd.map]
    apply List.ext_getElem
    · simp [h.1]
    · intro i h1 h2
      have hc := h.2 (i : Int)
      simp only [List.length_map] at h1 h2
      have ea : a.at (i : Int) = a.l[i] := by simp [Bd.at, List.getD_eq_getElem?_getD, h1]
      have eb : b.at (i : Int) = b.l[i] := by simp [Bd.at, List.getD_eq_getElem?_getD, h2]
      rw [ea, eb] at hc
      simp only [List.getElem_map, viewC]
      obtain ⟨k1, k2⟩ := hc
      rw [← k1]
      split
      · rename_i hp
        have := k2 hp
        cases ha : a.l[i]; cases hb : b.l[i]
        simp_all
      · rfl
  revert e
  generalize a.view p = x
  generalize b.view p = y
  intro e
  cases x; cases y; cases e; rfl
variable {P : BitVec 32 → Bool} {E F : Me} {m n : Mc}
/-- What differs for the first time. -/
def Diff (P : BitVec 32 → Bool) (a b : List Sh) : Prop := ∃ (j : Nat) (s t : Sh), a[j]? = some s ∧ b[j]? = some t ∧ P s.to = true ∧ s.v ≠ t.v ∧ SE (a.take (j + 1)) (b.take (j + 1))
theorem Diff.ext {a b c d : List Sh} (h : Diff P a b) : Diff P (a ++ c) (b ++ d) := by
  obtain ⟨j, s, t, h1, h2, h3, h4, h5⟩ := h
  have l1 := (List.getElem?_eq_some_iff.1 h1).1
  have l2 := (List.getElem?_eq_some_iff.1 h2).1
  refine ⟨j, s, t, by rw [List.getElem?_append_left l1]; exact h1, by rw [List.getElem?_append_left l2]; exact h2, h3, h4, ?_⟩
  rw [List.take_append_of_le_length (by omega), List.take_append_of_le_length (by omega)]
  exact h5
theorem follow_22 (E : Me) (m : Mc) (x : Cd) (h : x.op = 22) : followF E m x = revealF E m.go x := by
  unfold followF reachF
  simp only [h]
theorem follow_told (hP : PO P E.all) (hE : EE P E F) (h : ME P m n) (x : Cd) (hb : x.b < 8) (h0 : Tell P m.shows n.shows) :
    Tell P (followF E m x).shows (followF F n x).shows ∨ Diff P (followF E m x).shows (followF F n x).shows := by
  by_cases ho : x.op = 22
  · have hg : ME P m.go n.go := ⟨h.bd, h.touched, h.shows, h.used, h.err, h.r, by show m.pc + 1 = n.pc + 1; rw [h.pc]⟩
    have hn := named_eq hP hE hg x hb
    rw [follow_22 E m x ho, follow_22 F n x ho]
    unfold revealF
    rw [← hn]
    by_cases hk : (named E m.go x).2.1 = false
    · rw [if_pos hk, if_pos hk]; exact .inl h0
    · rw [if_neg hk, if_neg hk]
      have hc := hg.bd.2 (named E m.go x).1
      have ho : Sh.one n.go x F.all (named E m.go x).1 = Sh.one m.go x E.all (named E m.go x).1 := by unfold Sh.one; rw [← hE.all, ← hc.1]
      rw [ho]
      by_cases hz : Sh.one m.go x E.all (named E m.go x).1 = 0#32
      · simp only [if_pos hz, List.append_nil]; exact .inl h0
      · simp only [if_neg hz]
        have hlen : m.shows.length = n.shows.length := by have := congrArg List.length h.shows; simpa using this
        by_cases hd : P (Sh.one m.go x E.all (named E m.go x).1) = true ∧ (m.go.bd.at (named E m.go x).1).v ≠ (n.go.bd.at (named E m.go x).1).v
        · refine .inr ⟨m.shows.length, ⟨(named E m.go x).1, Sh.one m.go x E.all (named E m.go x).1, (m.go.bd.at (named E m.go x).1).v⟩, ⟨(named E m.go x).1, Sh.one m.go x E.all (named E m.go x).1, (n.go.bd.at (named E m.go x).1).v⟩, by simp [Mc.go], by rw [hlen]; simp [Mc.go], hd.1, hd.2, ?_⟩
          rw [List.take_of_length_le (by simp [Mc.go]), List.take_of_length_le (by simp [Mc.go, hlen])]
          exact SE.app h.shows rfl
        · refine .inl fun i s t h1 h2 h3 => ?_
          by_cases hi : i < m.shows.length
          · rw [List.getElem?_append_left (show i < m.go.shows.length from hi)] at h1
            rw [List.getElem?_append_left (show i < n.go.shows.length from by show i < n.shows.length; omega)] at h2
            exact h0 i s t h1 h2 h3
          · have hi2 : i = m.shows.length := by
              have := (List.getElem?_eq_some_iff.1 h1).1
              simp [Mc.go] at this; omega
            subst hi2
            have e1 : s = ⟨(named E m.go x).1, Sh.one m.go x E.all (named E m.go x).1, (m.go.bd.at (named E m.go x).1).v⟩ := by
              simp [Mc.go] at h1; exact h1.symm
            have e2 : t = ⟨(named E m.go x).1, Sh.one m.go x E.all (named E m.go x).1, (n.go.bd.at (named E m.go x).1).v⟩ := by
              rw [hlen] at h2; simp [Mc.go] at h2; exact h2.symm
            subst e1; subst e2
            by_cases hv : (m.go.bd.at (named E m.go x).1).v = (n.go.bd.at (named E m.go x).1).v
            · exact hv
            · exact absurd ⟨h3, hv⟩ hd
  · rw [followF_none E m x ho, followF_none F n x ho]; exact .inl h0
theorem ME.loop2 (hP : PO P E.all) (hE : EE P E F) (l : List Cd) (ha : ∀ x ∈ l, x.a < 8 ∧ x.b < 8) (hj : Join' P) : ∀ (k : Nat) (m n : Mc), ME P m n → Tell P m.shows n.shows → Tell P (loopF E l k m).shows (loopF F l k n).shows ∨ Diff P (loopF E l k m).shows (loopF F l k n).shows
  | 0, m, n, h, ht => by
    have hc2 : (n.err = 0 ∧ n.pc < l.length) ↔ (m.err = 0 ∧ m.pc < l.length) := by rw [h.err, h.pc]
    rw [loopF, loopF]
    by_cases hc : m.err = 0 ∧ m.pc < l.length
    · rw [if_pos hc, if_pos (hc2.2 hc)]; exact .inl ht
    · rw [if_neg hc, if_neg (fun q => hc (hc2.1 q))]; exact .inl ht
  | k + 1, m, n, h, ht => by
    have hc2 : (n.err = 0 ∧ n.pc < l.length) ↔ (m.err = 0 ∧ m.pc < l.length) := by rw [h.err, h.pc]
    rw [loopF, loopF]
    by_cases hc : m.err = 0 ∧ m.pc < l.length
    · rw [if_pos hc, if_pos (hc2.2 hc)]
      have hm := List.getElem_mem hc.2
      have hx : l.getD m.pc ⟨0, 0, 0, 0, 0, 0⟩ = l[m.pc] := by simp [hc.2]
      have hy : l.getD n.pc ⟨0, 0, 0, 0, 0, 0⟩ = l[m.pc] := by rw [← h.pc, hx]
      rw [hx, hy]
      have hu : ME P { m with used := m.used + 1 } { n with used := n.used + 1 } := ⟨h.bd, h.touched, h.shows, by show m.used + 1 = n.used + 1; rw [h.used], h.err, h.r, h.pc⟩
      by_cases h0 : l[m.pc].op = 0
      · rw [if_pos h0, if_pos h0]; exact .inl ht
      · rw [if_neg h0, if_neg h0]
        rcases follow_told hP hE hu l[m.pc] (ha _ hm).2 ht with h1 | h1
        · exact ME.loop2 hP hE l ha hj k _ _ (hu.follow hP hE l[m.pc] (ha _ hm).1 (ha _ hm).2 (fun _ => hj) h1) h1
        · obtain ⟨c, hc1⟩ := loopF_shows E l k (followF E { m with used := m.used + 1 } l[m.pc])
          obtain ⟨d, hd1⟩ := loopF_shows F l k (followF F { n with used := n.used + 1 } l[m.pc])
          rw [hc1, hd1]
          exact .inr h1.ext
    · rw [if_neg hc, if_neg (fun q => hc (hc2.1 q))]; exact .inl ht
theorem runF_shows (E : Me) (l : List Cd) (b : Bd) (d : Int) (h : rightL l b.l.length E.moves.length = true) : (runF E l b d).shows = (loopF E l 400 (Go.Proofs.Ythihgfkpdbgogaa.G.start E b d)).shows := by
  unfold runF
  rw [if_neg (by rw [h]; decide)]
  split <;> rfl
theorem run_told (hP : PO P E.all) (hE : EE P E F) (hl : E.moves.length = F.moves.length) (l : List Cd) (hj : Join' P) {b c : Bd} (h : BE P b c) (d e : Int) : Tell P (runF E l b d).shows (runF F l c e).shows ∨ Diff P (runF E l b d).shows (runF F l c e).shows := by
  cases hR : rightL l b.l.length E.moves.length with
  | false =>
    left
    have e1 : (runF E l b d).shows = [] := by unfold runF; rw [if_pos hR]
    rw [e1]
    intro i s t h1; simp at h1
  | true =>
    rw [runF_shows E l b d hR, runF_shows F l c e (by rw [← hl, ← h.1]; exact hR)]
    have hall : ∀ x ∈ l, x.a < 8 ∧ x.b < 8 := fun x hx => by
      have h2 : l.length ≤ 96 ∧ ∀ x ∈ l, x.right l.length b.l.length E.moves.length = true := by simpa [rightL] using hR
      exact (right_ab (h2.2 x hx)).2
    exact ME.loop2 hP hE l hall hj 400 _ _ (ME.start hE h d e) (fun i s t h1 => by simp [Go.Proofs.Ythihgfkpdbgogaa.G.start] at h1)
/-- Cells of which one keeps what all may see. -/
def meetL (all : BitVec 32) (X : List Cl) (i : Nat) : List Cl := X.mapIdx fun j c => if j < i then ⟨c.v, c.s &&& all⟩ else c
theorem meet_len (all X i) : (meetL all X i).length = X.length := by simp [meetL]
theorem meet_0 (all X) : meetL all X 0 = X := by
  apply List.ext_getElem <;> simp [meetL]
theorem meet_at (all X) {i : Nat} (h : i < X.length) : (meetL all X i)[i]'(by rw [meet_len]; exact h) = X[i] := by simp [meetL]
theorem meet_step (all X) {i : Nat} (h : i < X.length) : meetL all X (i + 1) = (meetL all X i).set i ⟨X[i].v, X[i].s &&& all⟩ := by
  apply List.ext_getElem
  · simp [meetL]
  · intro j h1 h2
    rw [List.getElem_set]
    simp only [meetL, List.getElem_mapIdx]
    by_cases e : i = j
    · subst e; simp
    · have : (j < i + 1) = (j < i) := by apply propext; omega
      simp only [if_neg e, this]
theorem meet_I32 {all} {X : List Cl} (hX : ∀ c ∈ X, I32 c.v) (i : Nat) : ∀ c ∈ meetL all X i, I32 c.v := by
  intro c hc
  obtain ⟨j, hj, rfl⟩ := List.mem_iff_getElem.1 hc
  simp only [meetL, List.getElem_mapIdx]
  have hj' : j < X.length := by rw [meet_len] at hj; exact hj
  split
  · show I32 X[j].v
    exact hX X[j] (List.getElem_mem hj')
  · exact hX _ (List.getElem_mem _)
end Go.Proofs.Ythihgfkpdbgogaa.G
namespace Go.Proofs.Ythihgfkpdbgogaa.G
open Go
set_option linter.unusedSimpArgs false
set_option linter.unusedVariables false
set_option maxRecDepth 20000
set_option maxHeartbeats 2000000
theorem views_k0 (z c q tk pd z2 p : IV) (all : BitVec 32) (X : List Cl) (hX : X.length ≤ 48) (J : JH) (hm : RawC J c X) (b : L) (K : Out IV → JH → Prop)
    (hK : ∀ J', Fr J J' (blk c) → RawC J' c (meetL all X X.length) → WP (dn BI b [z, c, q, tk, pd, z2, p, m32 all] J') K) :
    WP (onJoinD 0 (iter (dn BI l_law09_VmViews_k0) 1 [z, c, q, tk, pd, z2, p, m32 all, nI X.length, nI 0] J) b) K := by
  refine WP_range (by decide) X.length (fun i vs J' => vs = [z, c, q, tk, pd, z2, p, m32 all, nI X.length, nI i] ∧ Fr J J' (blk c) ∧ RawC J' c (meetL all X i)) ?_ ⟨rfl, .refl _ _, by rw [meet_0]; exact hm⟩
  rintro i vs J1 ⟨rfl, hf, hr⟩ hi K1 g1 g2 g3
  unfold l_law09_VmViews_k0
  by_cases h : i < X.length
  · have hw1 := wrapS h (show X.length ≤ 9223372036854775807 by omega)
    obtain ⟨b, eb, hb⟩ := hr.get (i := i) (by rw [meet_len]; exact h)
    rw [meet_len] at eb
    subst eb
    have hM := meet_at all X h
    have hl : (clL (meetL all X i)).length = X.length * 2 := by rw [clL_len, meet_len]
    have hs : ((clL (meetL all X i)).drop (i * 2 + 1)).take 1 = [m32 X[i].s] := by rw [clL_s _ (by rw [meet_len]; exact h), hM]
    have hset : isplice (clL (meetL all X i)) (i * 2 + 1) [m32 (X[i].s &&& all)] = clL (meetL all X (i + 1)) := by
      rw [clL_sets _ (by rw [meet_len]; exact h), hM, meet_step _ _ h]
    have hin := inb hb
    have hme : pc BI F_mask_Mask_Meet [m32 X[i].s, .lst 1 true [m32 all]] = some (m32 (X[i].s &&& all)) := Meet_ok X[i].s (.lst 1 true [m32 all]) [all] .lst (by simp)
    simp -implicitDefEqProofs only [go_sem, dnW_ite, reduceIte, Nat.reduceAdd, Nat.reduceLeDiff, Nat.reduceMul, Nat.reduceEqDiff, Int.reduceLT, Int.reduceLE, Int.reduceToNat, Nat.reduceSub, Nat.reduceLT, Int.reduceEq, BitVec.reduceOfInt, BitVec.reduceOfNat, Int.reduceGT, Int.reduceGE, Int.reduceBEq, Int.reduceBNe, Nat.reduceGT, Nat.reduceBEq, Nat.reduceBNe, Int.reduceAdd, Int.reduceSub, Int.reduceNeg, show ((i : Int) < (X.length : Int)) by omega, h, hb, hl, hs, show i * 2 + 2 ≤ X.length * 2 by omega, hw1, hset, hin, ipureL, ipure, grp, mkE, List.headD, dcp hme rfl]
    refine g1 h _ _ ⟨rfl, hf.trans (Fr.set _ _ (S := [b]) (by simp)) (by simp [blk, blkOf]), .inr ⟨fun e => ?_, b, by rw [meet_len], set_get _ (lt_get hb)⟩⟩
    have e2 := congrArg List.length e; rw [meet_len] at e2; simp only [List.length_nil] at e2; omega
  · simp -implicitDefEqProofs only [go_sem, dnW_ite, reduceIte, Nat.reduceAdd, Nat.reduceLeDiff, Nat.reduceMul, Nat.reduceEqDiff, Int.reduceLT, Int.reduceLE, Int.reduceToNat, Nat.reduceSub, Nat.reduceLT, Int.reduceEq, BitVec.reduceOfInt, BitVec.reduceOfNat, Int.reduceGT, Int.reduceGE, Int.reduceBEq, Int.reduceBNe, Nat.reduceGT, Nat.reduceBEq, Nat.reduceBNe, Int.reduceAdd, Int.reduceSub, Int.reduceNeg, show ¬ ((i : Int) < (X.length : Int)) by omega]
    refine g2 _ _ (hK _ hf ?_)
    obtain rfl : i = X.length := by omega
    exact hr
theorem views_k2 (p : Int) (a b : Nat) (r1 r2 : Rs) (s1 s2 : IV) (J : JH) (ha : J[a]? = some (.cells 0 (resC r1 s1) false)) (hb : J[b]? = some (.cells 0 (resC r2 s2) false))
    (e1 : r1.err = r2.err) (e2 : r1.touched = r2.touched) (e3 : r2.bd.view p = r1.bd.view p) (K : Out IV → JH → Prop) (hT : ∀ J', K (.ret [.bool true]) J') :
    WP (dn BI l_law09_VmViews_k2 [.int .i64 p, .ptr a 0 0, .ptr b 0 0] J) K := by
  unfold l_law09_VmViews_k2
  have hm : BI.md F_board_Board_View = .pure := rfl
  simp -implicitDefEqProofs only [go_sem, dnW_ite, reduceIte, Nat.reduceAdd, Nat.reduceLeDiff, Nat.reduceMul, Nat.reduceEqDiff, Int.reduceLT, Int.reduceLE, Int.reduceToNat, Nat.reduceSub, Nat.reduceLT, Int.reduceEq, BitVec.reduceOfInt, BitVec.reduceOfNat, Int.reduceGT, Int.reduceGE, Int.reduceBEq, Int.reduceBNe, Nat.reduceGT, Nat.reduceBEq, Nat.reduceBNe, Int.reduceAdd, Int.reduceSub, Int.reduceNeg, ha, hb, e1, e2, castN, dcp (View_ok r1.bd p) (by simp [ipureL, ipure, bdc_pure]), dcp (View_ok r2.bd p) (by simp [ipureL, ipure, bdc_pure]), e3]
  exact hT _
theorem views_k1 (p : Int) (a b : Nat) (r1 r2 : Rs) (s1 s2 : IV) (hs : Ls 3 s1 (r1.shows.map Sh.e)) (hl : r1.shows.length ≤ 100000) (J : JH) (ha : J[a]? = some (.cells 0 (resC r1 s1) false)) (hb : J[b]? = some (.cells 0 (resC r2 s2) false))
    (K : Out IV → JH → Prop) (hT : ∀ J', K (.ret [.bool true]) J')
    (hk : (∀ s ∈ r1.shows, hasM s.to p = false) → r1.err = r2.err ∧ r1.touched = r2.touched ∧ r2.bd.view p = r1.bd.view p) :
    WP (onJoinD 2 (iter (dn BI l_law09_VmViews_k1) 3 [.int .i64 p, .ptr a 0 0, .ptr b 0 0, s1, nI r1.shows.length, nI 0] J) l_law09_VmViews_k2) K := by
  refine WP_range (by decide) r1.shows.length (fun i vs J' => vs = [.int .i64 p, .ptr a 0 0, .ptr b 0 0, s1, nI r1.shows.length, nI i] ∧ Fr J J' [] ∧ ∀ s ∈ r1.shows.take i, hasM s.to p = false) ?_ ⟨rfl, .refl _ _, by simp⟩
  rintro i vs J1 ⟨rfl, hf, hn⟩ hi K1 g1 g2 g3
  unfold l_law09_VmViews_k1
  by_cases h : i < r1.shows.length
  · have hat := fun J => hs.at (i := i) (by simpa using h) (J := J)
    simp only [List.getElem_map, Sh.e, Sh.c] at hat
    have hh := Has_ok r1.shows[i].to p
    cases hc : hasM r1.shows[i].to p with
    | true =>
      rw [hc] at hh
      simp -implicitDefEqProofs only [go_sem, dnW_ite, reduceIte, Nat.reduceAdd, Nat.reduceLeDiff, Nat.reduceMul, Nat.reduceEqDiff, Int.reduceLT, Int.reduceLE, Int.reduceToNat, Nat.reduceSub, Nat.reduceLT, Int.reduceEq, BitVec.reduceOfInt, BitVec.reduceOfNat, Int.reduceGT, Int.reduceGE, Int.reduceBEq, Int.reduceBNe, Nat.reduceGT, Nat.reduceBEq, Nat.reduceBNe, Int.reduceAdd, Int.reduceSub, Int.reduceNeg, show ((i : Int) < (r1.shows.length : Int)) by omega, hat, dcp hh rfl]
      exact g3 _ _ (hT _)
    | false =>
      rw [hc] at hh
      simp -implicitDefEqProofs only [go_sem, dnW_ite, reduceIte, Nat.reduceAdd, Nat.reduceLeDiff, Nat.reduceMul, Nat.reduceEqDiff, Int.reduceLT, Int.reduceLE, Int.reduceToNat, Nat.reduceSub, Nat.reduceLT, Int.reduceEq, BitVec.reduceOfInt, BitVec.reduceOfNat, Int.reduceGT, Int.reduceGE, Int.reduceBEq, Int.reduceBNe, Nat.reduceGT, Nat.reduceBEq, Nat.reduceBNe, Int.reduceAdd, Int.reduceSub, Int.reduceNeg, show ((i : Int) < (r1.shows.length : Int)) by omega, hat, dcp hh rfl, wrapS h (show r1.shows.length ≤ 9223372036854775807 by omega)]
      refine g1 h _ _ ⟨rfl, hf.trans (Fr.push _ _ []) (by simp), ?_⟩
      rw [List.take_succ_eq_append_getElem h]
      intro x hx
      rcases List.mem_append.1 hx with hx | hx
      · exact hn x hx
      · simp at hx; subst hx; exact hc
  · simp -implicitDefEqProofs only [go_sem, dnW_ite, reduceIte, Nat.reduceAdd, Nat.reduceLeDiff, Nat.reduceMul, Nat.reduceEqDiff, Int.reduceLT, Int.reduceLE, Int.reduceToNat, Nat.reduceSub, Nat.reduceLT, Int.reduceEq, BitVec.reduceOfInt, BitVec.reduceOfNat, Int.reduceGT, Int.reduceGE, Int.reduceBEq, Int.reduceBNe, Nat.reduceGT, Nat.reduceBEq, Nat.reduceBNe, Int.reduceAdd, Int.reduceSub, Int.reduceNeg, show ¬ ((i : Int) < (r1.shows.length : Int)) by omega]
    refine g2 _ _ ?_
    rw [List.take_of_length_le (by omega)] at hn
    obtain ⟨e1, e2, e3⟩ := hk hn
    exact views_k2 p a b r1 r2 s1 s2 J1 (by rw [hf.2 a (lt_get ha) (by simp)]; exact ha) (by rw [hf.2 b (lt_get hb) (by simp)]; exact hb) e1 e2 e3 K hT
end Go.Proofs.Ythihgfkpdbgogaa.G
namespace Go.Proofs.Ythihgfkpdbgogaa.G
open Go
set_option linter.unusedSimpArgs false
set_option linter.unusedVariables false
set_option maxRecDepth 20000
set_option maxHeartbeats 2000000
theorem NewX (y : IV) (X : List Cl) (hX : X.length ≤ 48) (hy : Ls 2 y (X.map Cl.e)) : pc BI F_board_New [y] = some (.tup [.agg (bdc ⟨X, hX⟩), .int .i64 0]) := by
  have := New_ok y X hy (by omega)
  rw [if_pos hX, show Bd.new X = ⟨X, hX⟩ from dif_pos hX] at this
  exact this
theorem push_setM {α : Type} (J : Array α) (A B C Y : α) : (((J.push A).push B).push C).setIfInBounds (J.size + 1) Y = ((J.push A).push Y).push C := by
  rcases J with ⟨l⟩
  simp
theorem labels_k0 (z c x mv p0 p1 : IV) (all : BitVec 32) (vals : List Int) (hx : Ls 1 x (vals.map (IV.int .i32))) (X : List Cl) (hX : X.length ≤ 48) (m : IV) (J : JH) (hm : RawC J m X) (b : L) (K : Out IV → JH → Prop)
    (hK : ∀ J', Fr J J' (blk m) → RawC J' m (chgL (fun c => !within all c.s) vals X X.length) → WP (dn BI b [z, c, mv, p0, p1, m32 all, m] J') K) :
    WP (onJoinD 0 (iter (dn BI l_law09_VmLabels_k0) 1 [z, c, x, mv, p0, p1, m32 all, m, nI X.length, nI 0] J) b) K := by
  refine WP_range (by decide) X.length (fun i vs J' => vs = [z, c, x, mv, p0, p1, m32 all, m, nI X.length, nI i] ∧ Fr J J' (blk m) ∧ RawC J' m (chgL (fun c => !within all c.s) vals X i)) ?_ ⟨rfl, .refl _ _, by rw [chg_0]; exact hm⟩
  rintro i vs J1 ⟨rfl, hf, hr⟩ hi K1 g1 g2 g3
  unfold l_law09_VmLabels_k0
  by_cases h : i < X.length
  · have hw1 := wrapS h (show X.length ≤ 9223372036854775807 by omega)
    by_cases hv : i < vals.length
    · have hat := fun J => hx.at (i := i) (by simpa using hv) (J := J)
      simp only [List.getElem_map] at hat
      obtain ⟨b, eb, hb⟩ := hr.get (i := i) (by rw [chg_len]; exact h)
      rw [chg_len] at eb
      subst eb
      have hM := chg_at (fun c => !within all c.s) vals X h
      have hl : (clL (chgL (fun c => !within all c.s) vals X i)).length = X.length * 2 := by rw [clL_len, chg_len]
      have hs : ((clL (chgL (fun c => !within all c.s) vals X i)).drop (i * 2 + 1)).take 1 = [m32 X[i].s] := by rw [clL_s _ (by rw [chg_len]; exact h), hM]
      cases hw : within all X[i].s with
      | true =>
        simp -implicitDefEqProofs only [go_sem, dnW_ite, reduceIte, Nat.reduceAdd, Nat.reduceLeDiff, Nat.reduceMul, Nat.reduceEqDiff, Int.reduceLT, Int.reduceLE, Int.reduceToNat, Nat.reduceSub, Nat.reduceLT, Int.reduceEq, BitVec.reduceOfInt, BitVec.reduceOfNat, Int.reduceGT, Int.reduceGE, Int.reduceBEq, Int.reduceBNe, Nat.reduceGT, Nat.reduceBEq, Nat.reduceBNe, Int.reduceAdd, Int.reduceSub, Int.reduceNeg, show ((i : Int) < (X.length : Int)) by omega, show ((i : Int) < (vals.length : Int)) by omega, hx.lenF, List.length_map, h, hb, hl, hs, hat, show i * 2 + 2 ≤ X.length * 2 by omega, dcp (Within_ok all X[i].s) rfl, hw, hw1]
        refine g1 h _ _ ⟨rfl, hf, ?_⟩
        rw [chg_skip _ _ _ h (by simp [hw])]; exact hr
      | false =>
        have hset : isplice (clL (chgL (fun c => !within all c.s) vals X i)) (i * 2) [.int .i32 vals[i]] = clL (chgL (fun c => !within all c.s) vals X (i + 1)) := by
          rw [clL_setv _ (by rw [chg_len]; exact h), hM, chg_step _ _ _ h hv (by simp [hw])]
        have hin := inb hb
        simp -implicitDefEqProofs only [go_sem, dnW_ite, reduceIte, Nat.reduceAdd, Nat.reduceLeDiff, Nat.reduceMul, Nat.reduceEqDiff, Int.reduceLT, Int.reduceLE, Int.reduceToNat, Nat.reduceSub, Nat.reduceLT, Int.reduceEq, BitVec.reduceOfInt, BitVec.reduceOfNat, Int.reduceGT, Int.reduceGE, Int.reduceBEq, Int.reduceBNe, Nat.reduceGT, Nat.reduceBEq, Nat.reduceBNe, Int.reduceAdd, Int.reduceSub, Int.reduceNeg, show ((i : Int) < (X.length : Int)) by omega, show ((i : Int) < (vals.length : Int)) by omega, hx.lenF, List.length_map, h, hb, hl, hs, hat, show i * 2 + 2 ≤ X.length * 2 by omega, show i * 2 + 1 ≤ X.length * 2 by omega, dcp (Within_ok all X[i].s) rfl, hw, hw1, hset, hin]
        refine g1 h _ _ ⟨rfl, hf.trans (Fr.set _ _ (S := [b]) (by simp)) (by simp [blk, blkOf]), .inr ⟨fun e => ?_, b, by rw [chg_len], set_get _ (lt_get hb)⟩⟩
        have e2 := congrArg List.length e; rw [chg_len] at e2; simp only [List.length_nil] at e2; omega
    · simp -implicitDefEqProofs only [go_sem, dnW_ite, reduceIte, Nat.reduceAdd, Nat.reduceLeDiff, Nat.reduceMul, Nat.reduceEqDiff, Int.reduceLT, Int.reduceLE, Int.reduceToNat, Nat.reduceSub, Nat.reduceLT, Int.reduceEq, BitVec.reduceOfInt, BitVec.reduceOfNat, Int.reduceGT, Int.reduceGE, Int.reduceBEq, Int.reduceBNe, Nat.reduceGT, Nat.reduceBEq, Nat.reduceBNe, Int.reduceAdd, Int.reduceSub, Int.reduceNeg, show ((i : Int) < (X.length : Int)) by omega, show ¬ ((i : Int) < (vals.length : Int)) by omega, hx.lenF, List.length_map, hw1]
      refine g1 h _ _ ⟨rfl, hf, ?_⟩
      rw [chg_skip _ _ _ h (fun e => hv e.1)]; exact hr
  · simp -implicitDefEqProofs only [go_sem, dnW_ite, reduceIte, Nat.reduceAdd, Nat.reduceLeDiff, Nat.reduceMul, Nat.reduceEqDiff, Int.reduceLT, Int.reduceLE, Int.reduceToNat, Nat.reduceSub, Nat.reduceLT, Int.reduceEq, BitVec.reduceOfInt, BitVec.reduceOfNat, Int.reduceGT, Int.reduceGE, Int.reduceBEq, Int.reduceBNe, Nat.reduceGT, Nat.reduceBEq, Nat.reduceBNe, Int.reduceAdd, Int.reduceSub, Int.reduceNeg, show ¬ ((i : Int) < (X.length : Int)) by omega]
    refine g2 _ _ (hK _ hf ?_)
    obtain rfl : i = X.length := by omega
    exact hr
theorem labels_k3 (z c mv p0 p1 al m : IV) (L : List Cd) (hz : Ls 6 z (L.map Cd.e)) (hl : L.length ≤ 96) (J : JH) (K : Out IV → JH → Prop)
    (hT : ∀ J', K (.ret [.bool true]) J')
    (hK : (∀ x ∈ L, x.op ≠ 22) → ∀ J', Fr J J' [] → WP (dn BI l_law09_VmLabels_k2 [z, c, mv, p0, p1, al, m] J') K) :
    WP (dn BI l_law09_VmLabels_k3 [z, c, mv, p0, p1, al, m] J) K := by
  unfold l_law09_VmLabels_k3
  simp -implicitDefEqProofs only [go_sem, dnW_ite, reduceIte, Nat.reduceAdd, Nat.reduceLeDiff, Nat.reduceMul, Nat.reduceEqDiff, Int.reduceLT, Int.reduceLE, Int.reduceToNat, Nat.reduceSub, Nat.reduceLT, Int.reduceEq, BitVec.reduceOfInt, BitVec.reduceOfNat, Int.reduceGT, Int.reduceGE, Int.reduceBEq, Int.reduceBNe, Nat.reduceGT, Nat.reduceBEq, Nat.reduceBNe, Int.reduceAdd, Int.reduceSub, Int.reduceNeg, hz.lenF, List.length_map, dn_loop]
  refine WP_range (by decide) L.length (fun i vs J' => vs = [z, c, mv, p0, p1, al, m, z, nI L.length, nI i] ∧ Fr J J' [] ∧ ∀ x ∈ L.take i, x.op ≠ 22) ?_ ⟨rfl, .refl _ _, by simp⟩
  rintro i vs J1 ⟨rfl, hf, hn⟩ hi K1 g1 g2 g3
  unfold l_law09_VmLabels_k1
  by_cases h : i < L.length
  · have hat := fun J => hz.at (i := i) (by simpa using h) (J := J)
    simp only [List.getElem_map, Cd.e, Cd.cs] at hat
    by_cases o : L[i].op = 22
    · simp -implicitDefEqProofs only [go_sem, dnW_ite, reduceIte, Nat.reduceAdd, Nat.reduceLeDiff, Nat.reduceMul, Nat.reduceEqDiff, Int.reduceLT, Int.reduceLE, Int.reduceToNat, Nat.reduceSub, Nat.reduceLT, Int.reduceEq, BitVec.reduceOfInt, BitVec.reduceOfNat, Int.reduceGT, Int.reduceGE, Int.reduceBEq, Int.reduceBNe, Nat.reduceGT, Nat.reduceBEq, Nat.reduceBNe, Int.reduceAdd, Int.reduceSub, Int.reduceNeg, show ((i : Int) < (L.length : Int)) by omega, hat, natBeqc, natBeqD, o]
      exact g3 _ _ (hT _)
    · simp -implicitDefEqProofs only [go_sem, dnW_ite, reduceIte, Nat.reduceAdd, Nat.reduceLeDiff, Nat.reduceMul, Nat.reduceEqDiff, Int.reduceLT, Int.reduceLE, Int.reduceToNat, Nat.reduceSub, Nat.reduceLT, Int.reduceEq, BitVec.reduceOfInt, BitVec.reduceOfNat, Int.reduceGT, Int.reduceGE, Int.reduceBEq, Int.reduceBNe, Nat.reduceGT, Nat.reduceBEq, Nat.reduceBNe, Int.reduceAdd, Int.reduceSub, Int.reduceNeg, show ((i : Int) < (L.length : Int)) by omega, hat, wrapS h (show L.length ≤ 9223372036854775807 by omega), natBeqc, natBeqD, o]
      refine g1 h _ _ ⟨rfl, hf.trans (Fr.push _ _ []) (by simp), ?_⟩
      rw [List.take_succ_eq_append_getElem h]
      intro x hx
      rcases List.mem_append.1 hx with hx | hx
      · exact hn x hx
      · simp at hx; subst hx; exact o
  · simp -implicitDefEqProofs only [go_sem, dnW_ite, reduceIte, Nat.reduceAdd, Nat.reduceLeDiff, Nat.reduceMul, Nat.reduceEqDiff, Int.reduceLT, Int.reduceLE, Int.reduceToNat, Nat.reduceSub, Nat.reduceLT, Int.reduceEq, BitVec.reduceOfInt, BitVec.reduceOfNat, Int.reduceGT, Int.reduceGE, Int.reduceBEq, Int.reduceBNe, Nat.reduceGT, Nat.reduceBEq, Nat.reduceBNe, Int.reduceAdd, Int.reduceSub, Int.reduceNeg, show ¬ ((i : Int) < (L.length : Int)) by omega]
    refine g2 _ _ (hK ?_ _ hf)
    rw [List.take_of_length_le (by omega)] at hn
    exact hn
theorem labels_k2 (z c mv m : IV) (X Y : List Cl) (hX : X.length ≤ 48) (hY : Y.length ≤ 48) (d e : Int) (al : BitVec 32) (r1 r2 : Rs) (s1 s2 : IV) (J : JH) (hc : RawC J c X) (hm : RawC J m Y)
    (h0 : J[0]? = some (.cells 0 [.int .u64 d] false)) (h1 : J[1]? = some (.cells 0 [.int .u64 e] false)) (hcl : ∀ d ∈ blk c, 2 ≤ d) (hml : ∀ d ∈ blk m, 2 ≤ d)
    (hcm : ∀ d ∈ blk m, d ∉ blk c)
    (hz : ipure z = true) (hmv : ipure mv = true)
    (hr1 : pc BI F_vm_Run [z, .agg (bdc ⟨X, hX⟩), .agg [.int .u64 d], mv, .int .u32 2, m32 al] = some (.agg (resC r1 s1))) (o1 : ione s1 = true)
    (hr2 : pc BI F_vm_Run [z, .agg (bdc ⟨Y, hY⟩), .agg [.int .u64 e], mv, .int .u32 2, m32 al] = some (.agg (resC r2 s2))) (o2 : ione s2 = true)
    (e1 : r1.err = r2.err) (e2 : r1.touched = r2.touched) (e3 : r1.used = r2.used) (e4 : sumB false r1.bd = sumB false r2.bd)
    (K : Out IV → JH → Prop) (hT : ∀ J', K (.ret [.bool true]) J') :
    WP (dn BI l_law09_VmLabels_k2 [z, c, mv, .ptr 0 0 0, .ptr 1 0 0, m32 al, m] J) K := by
  unfold l_law09_VmLabels_k2
  obtain ⟨u, hu, hul⟩ := hc.frz
  simp -implicitDefEqProofs only [go_sem, dnW_ite, reduceIte, Nat.reduceAdd, Nat.reduceLeDiff, Nat.reduceMul, Nat.reduceEqDiff, Int.reduceLT, Int.reduceLE, Int.reduceToNat, Nat.reduceSub, Nat.reduceLT, Int.reduceEq, BitVec.reduceOfInt, BitVec.reduceOfNat, Int.reduceGT, Int.reduceGE, Int.reduceBEq, Int.reduceBNe, Nat.reduceGT, Nat.reduceBEq, Nat.reduceBNe, Int.reduceAdd, Int.reduceSub, Int.reduceNeg]
  have hu' : frz J DEP c = some u := hu 11
  refine WP_callF (blk c) (as := [u]) (by rw [List.mapM_cons, hu']; rfl) (NewX u X hX hul) (by simpa using hc.shows) fun J1 f1 z1 => ?_
  have hm1 := hm.fr f1 hcm
  have h01 : J1[0]? = some (.cells 0 [.int .u64 d] false) := by rw [f1.2 0 (lt_get h0) (fun h => by have := hcl _ h; omega)]; exact h0
  have h11 : J1[1]? = some (.cells 0 [.int .u64 e] false) := by rw [f1.2 1 (lt_get h1) (fun h => by have := hcl _ h; omega)]; exact h1
  simp -implicitDefEqProofs only [go_sem, dnW_ite, reduceIte, Nat.reduceAdd, Nat.reduceLeDiff, Nat.reduceMul, Nat.reduceEqDiff, Int.reduceLT, Int.reduceLE, Int.reduceToNat, Nat.reduceSub, Nat.reduceLT, Int.reduceEq, BitVec.reduceOfInt, BitVec.reduceOfNat, Int.reduceGT, Int.reduceGE, Int.reduceBEq, Int.reduceBNe, Nat.reduceGT, Nat.reduceBEq, Nat.reduceBNe, Int.reduceAdd, Int.reduceSub, Int.reduceNeg]
  obtain ⟨w, hw, hwl⟩ := (hm1.fr (.push J1 (.cells 0 (bdc ⟨X, hX⟩) false) []) (by simp)).frz
  have hw' : frz (J1.push (.cells 0 (bdc ⟨X, hX⟩) false)) DEP m = some w := hw 11
  refine WP_callF (blk m) (as := [w]) (by rw [List.mapM_cons, hw']; rfl) (NewX w Y hY hwl) (by simpa using (hm1.fr (.push J1 (.cells 0 (bdc ⟨X, hX⟩) false) []) (by simp)).shows) fun J2 f2 z2 => ?_
  have hp : (J1.push (.cells 0 (bdc ⟨X, hX⟩) false))[J1.size]? = some (.cells 0 (bdc ⟨X, hX⟩) false) := push_get _ _
  have hp2 : J2[J1.size]? = some (.cells 0 (bdc ⟨X, hX⟩) false) := by rw [f2.2 _ (lt_get hp) (fun h => by have := hm1.low _ h; omega)]; exact hp
  have hl0 := lt_get h01
  have hl1 := lt_get h11
  have h02 : J2[0]? = some (.cells 0 [.int .u64 d] false) := by rw [f2.2 0 (by simp) (fun h => by have := hml _ h; omega), Array.getElem?_push, if_neg (by omega)]; exact h01
  have h12 : J2[1]? = some (.cells 0 [.int .u64 e] false) := by rw [f2.2 1 (by simp; omega) (fun h => by have := hml _ h; omega), Array.getElem?_push, if_neg (by omega)]; exact h11
  rw [Array.size_push] at z2
  clear hu hw hu' hw' f1 f2 hm1 hm hc h01 h11 h0 h1 hp
  simp -implicitDefEqProofs only [go_sem, dnW_ite, reduceIte, Nat.reduceAdd, Nat.reduceLeDiff, Nat.reduceMul, Nat.reduceEqDiff, Int.reduceLT, Int.reduceLE, Int.reduceToNat, Nat.reduceSub, Nat.reduceLT, Int.reduceEq, BitVec.reduceOfInt, BitVec.reduceOfNat, Int.reduceGT, Int.reduceGE, Int.reduceBEq, Int.reduceBNe, Nat.reduceGT, Nat.reduceBEq, Nat.reduceBNe, Int.reduceAdd, Int.reduceSub, Int.reduceNeg, Array.getElem?_push, h02, h12, hp2, show ¬ (J2.size = 0) by omega, show ¬ (J2.size = 1) by omega, show ¬ (0 = J2.size) by omega, show ¬ (1 = J2.size) by omega, show ¬ (J1.size = J2.size) by omega, push_setM, dcp hr1 (by simp [ipureL, ipure, hz, hmv, bdc_pure]), dcp hr2 (by simp [ipureL, ipure, hz, hmv, bdc_pure]), rs_one _ _ o1, rs_one _ _ o2, e1, e2, e3, castN, dcp (Labels_ok r1.bd) (by simp [ipureL, ipure, bdc_pure]), dcp (Labels_ok r2.bd) (by simp [ipureL, ipure, bdc_pure]), e4]
  exact hT _
theorem PO_all (all : BitVec 32) (h0 : all ≠ 0#32) : PO (within all) all := by
  refine ⟨fun s h => h, fun a b h => ?_, ?_⟩
  · simp only [within, beq_iff_eq] at *
    constructor
    · apply BitVec.eq_of_getLsbD_eq; intro i hi
      have := congrArg (fun x => x.getLsbD i) h
      simp only [BitVec.getLsbD_and, BitVec.getLsbD_not, BitVec.getLsbD_zero] at this ⊢
      revert this; cases all.getLsbD i <;> cases a.getLsbD i <;> cases b.getLsbD i <;> simp
    · apply BitVec.eq_of_getLsbD_eq; intro i hi
      have := congrArg (fun x => x.getLsbD i) h
      simp only [BitVec.getLsbD_and, BitVec.getLsbD_not, BitVec.getLsbD_zero] at this ⊢
      revert this; cases all.getLsbD i <;> cases a.getLsbD i <;> cases b.getLsbD i <;> simp
  · show (all &&& ~~~(0#32) == 0#32) = false
    rw [show (~~~(0#32) : BitVec 32) = BitVec.allOnes 32 from rfl, BitVec.and_allOnes]
    simpa using h0
theorem VmLabels_ok (x c vv mv : IV) (l : List Cd) (cl : List Cl) (vals : List Int) (d e : Int) (ms : List Int) (hx : Ls 6 x (l.map Cd.e)) (hc : Ls 2 c (cl.map Cl.e)) (hvv : Ls 1 vv (vals.map (IV.int .i32))) (hm : Ls 1 mv (ms.map (IV.int .i32))) (hw : ∀ q ∈ l, q.wf) (hv : ∀ q ∈ cl, I32 q.v) (hvr : ∀ v ∈ vals, I32 v) (hmr : ∀ v ∈ ms, I32 v) (hb : l.length ≤ 9223372036854775807) (hb2 : cl.length ≤ 9223372036854775807) (hb3 : ms.length ≤ 9223372036854775807) (hb4 : vals.length ≤ 9223372036854775807) :
    pc BI F_law09_VmLabels [x, c, vv, .agg [.int .u64 d], .agg [.int .u64 e], mv] = some (.bool true) := by
  refine pcE fn_law09_VmLabels rfl fun K hK => ?_
  obtain ⟨q, hq, hql⟩ := players_ok mv ms hm hb3
  obtain ⟨_, hz, z1, z2, rfl, hz1, hz2⟩ := codes_ok x l hx hb
  have hw' : ∀ q ∈ l.take 96, q.wf := fun q hq => hw q (List.mem_of_mem_take hq)
  have hl96 : (l.take 96).length ≤ 96 := by simp; omega
  generalize l.take 96 = L at *
  have ha : pc BI F_mask_All [.int .i64 8] = some (m32 (allM 8)) := All_ok 8
  unfold l_law09_VmLabels
  have hT : ∀ J', K (.ret [.bool true]) J' := fun J' => hK _ _ (frzE rfl rfl)
  simp -implicitDefEqProofs only [go_sem, dnW_ite, reduceIte, Nat.reduceAdd, Nat.reduceLeDiff, Nat.reduceMul, Nat.reduceEqDiff, Int.reduceLT, Int.reduceLE, Int.reduceToNat, Nat.reduceSub, Nat.reduceLT, Int.reduceEq, BitVec.reduceOfInt, BitVec.reduceOfNat, Int.reduceGT, Int.reduceGE, Int.reduceBEq, Int.reduceBNe, Nat.reduceGT, Nat.reduceBEq, Nat.reduceBNe, Int.reduceAdd, Int.reduceSub, Int.reduceNeg, dcp awake09 rfl, ipureL, ipure, grp, mkE]
  refine WP_call (few_raw c cl hc hb2 _) fun s1 J1 k1 => ?_
  have hX : (cl.take 48).length ≤ 48 := by simp; omega
  have hXv : ∀ c ∈ cl.take 48, I32 c.v := fun q hq => hv q (List.mem_of_mem_take hq)
  generalize cl.take 48 = X at *
  have f1 := k1.fr
  have n1 := k1.new
  have r1 := k1.raw
  simp -implicitDefEqProofs only [go_sem, dnW_ite, reduceIte, Nat.reduceAdd, Nat.reduceLeDiff, Nat.reduceMul, Nat.reduceEqDiff, Int.reduceLT, Int.reduceLE, Int.reduceToNat, Nat.reduceSub, Nat.reduceLT, Int.reduceEq, BitVec.reduceOfInt, BitVec.reduceOfNat, Int.reduceGT, Int.reduceGE, Int.reduceBEq, Int.reduceBNe, Nat.reduceGT, Nat.reduceBEq, Nat.reduceBNe, Int.reduceAdd, Int.reduceSub, Int.reduceNeg, dcp hq (by simp [ipureL, hm.pure]), dcp hz (by simp [ipureL, hx.pure]), dcp ha rfl]
  refine WP_call (few_raw2 r1 hX) fun s2 J2 k2 => ?_
  have f2 := k2.fr
  have n2 := k2.new
  have r2 := k2.raw
  have r1' := r1.fr f2 (by simp)
  simp -implicitDefEqProofs only [go_sem, dnW_ite, reduceIte, Nat.reduceAdd, Nat.reduceLeDiff, Nat.reduceMul, Nat.reduceEqDiff, Int.reduceLT, Int.reduceLE, Int.reduceToNat, Nat.reduceSub, Nat.reduceLT, Int.reduceEq, BitVec.reduceOfInt, BitVec.reduceOfNat, Int.reduceGT, Int.reduceGE, Int.reduceBEq, Int.reduceBNe, Nat.reduceGT, Nat.reduceBEq, Nat.reduceBNe, Int.reduceAdd, Int.reduceSub, Int.reduceNeg, dn_loop, r2.lenF]
  refine labels_k0 z1 s1 vv q (.ptr 0 0 0) (.ptr 1 0 0) (allM 8) vals hvv X hX s2 J2 r2 _ K fun J3 f3 r3 => ?_
  refine labels_k3 z1 s1 q (.ptr 0 0 0) (.ptr 1 0 0) (m32 (allM 8)) s2 L hz1 hl96 J3 K hT fun hop J4 f4 => ?_
  have hY : (chgL (fun c => !within (allM 8) c.s) vals X X.length).length ≤ 48 := by rw [chg_len]; exact hX
  have hE : (⟨q, playersF ms, 2, allM 8⟩ : Me).ok := ⟨hql, playersF_rng hmr, by have := playersF_len ms; show (playersF ms).length ≤ _; omega⟩
  obtain ⟨_, hr1, u1, hu1, rfl⟩ := Run_ok z1 L hz1 hw' (by omega) ⟨X, hX⟩ (ok_of hXv) d ⟨q, playersF ms, 2, allM 8⟩ hE
  obtain ⟨_, hr2, u2, hu2, rfl⟩ := Run_ok z1 L hz1 hw' (by omega) ⟨_, hY⟩ (ok_of (chg_I32 hXv hvr _)) e ⟨q, playersF ms, 2, allM 8⟩ hE
  have hRE := RE.run (P := within (allM 8)) (E := ⟨q, playersF ms, 2, allM 8⟩) (F := ⟨q, playersF ms, 2, allM 8⟩) (PO_all _ (by decide)) ⟨rfl, rfl, fun _ _ => rfl⟩ rfl L (fun ⟨x, hx, ho⟩ => absurd ho (hop x hx)) (chg_BE (fun c => !within (allM 8) c.s) vals X.length (fun c _ h => by simpa using h) hX hY) d e (by
    rw [runF_none _ _ hop, runF_none _ _ hop]
    intro i s t h; simp at h)
  have b1 : ∀ k ∈ blk s1, 2 ≤ k := fun k hk => by have := n1 k hk; simpa using this
  have z1' := f1.1
  have b2 : ∀ k ∈ blk s2, J1.size ≤ k := n2
  have lo1 := r1.low
  have z2' : 2 ≤ J1.size := by simpa using z1'
  have hcm : ∀ d ∈ blk s2, d ∉ blk s1 := fun k h2 h1 => by have := b2 k h2; have := lo1 k h1; omega
  have hcm' : ∀ d ∈ blk s1, d ∉ blk s2 := fun k h1 h2 => hcm k h2 h1
  have g34 : Fr J2 J4 (blk s2) := f3.trans f4 (by simp)
  have keep : ∀ (k : Nat) (Z : IB), k < 2 → J1[k]? = some Z → J4[k]? = some Z := fun k Z hk h => by
    have h2 : J2[k]? = some Z := by rw [f2.2 k (lt_get h) (by simp)]; exact h
    rw [g34.2 k (lt_get h2) (fun hm => by have := b2 k hm; omega)]; exact h2
  refine labels_k2 z1 s1 q s2 X _ hX hY d e (allM 8) _ _ u1 u2 J4 (r1'.fr g34 hcm') (r3.fr f4 (by simp)) (keep 0 _ (by decide) ?_) (keep 1 _ (by decide) ?_) b1 (fun k hk => by have := b2 k hk; omega) hcm hz1.pure hql.pure hr1 hu1.one hr2 hu2.one hRE.err hRE.touched hRE.used hRE.bd.labels K hT
  · rw [f1.2 0 (by simp) (by simp)]; rfl
  · rw [f1.2 1 (by simp) (by simp)]; rfl
end Go.Proofs.Ythihgfkpdbgogaa.G
namespace Go.Proofs.Ythihgfkpdbgogaa.G
open Go
set_option linter.unusedSimpArgs false
set_option linter.unusedVariables false
set_option maxRecDepth 20000
set_option maxHeartbeats 2000000
def mineF (ms : List Int) (p : Nat) : List Int := (List.replicate ms.length 0).set p (ms.getD p 0)
/-- A list of numbers of one's own. -/
def RawI (J : JH) (s : IV) (l : List Int) : Prop := ∃ b c, s = .sl b 0 0 l.length c 1 ∧ J[b]? = some (.cells 0 (l.map (IV.int .i32)) false)
theorem RawI.frz {J : JH} {s : IV} {l : List Int} (h : RawI J s l) : ∃ u, (∀ k, Go.Proofs.Ythihgfkpdbgogaa.G.frz J (k + 1) s = some u) ∧ Ls 1 u (l.map (IV.int .i32)) := by
  obtain ⟨b, c, rfl, hb⟩ := h
  have hr : ird J b 0 0 (l.length * 1) = some (l.map (IV.int .i32)) := by
    simp only [ird, hb, true_and, Nat.zero_add, List.drop_zero, Nat.mul_one]
    rw [if_pos (by simp), List.take_of_length_le (by simp)]
  refine ⟨_, fun k => frz_sl (by decide) hr ints_pure ints_ione, ?_⟩
  have := grp_flat (sz := 1) (i1_1 l)
  rw [i1_flat, i1_mk] at this
  rw [show l.length = (i1 l).length by simp [i1], this]; exact .lst
theorem RawI.shows {J : JH} {s : IV} {l : List Int} (h : RawI J s l) : ∀ d ∈ Go.Proofs.Ythihgfkpdbgogaa.G.shows J DEP s, d ∈ blk s := by
  obtain ⟨b, c, rfl, hb⟩ := h
  intro d hd
  have hr : ird J b 0 0 (l.length * 1) = some (l.map (IV.int .i32)) := by
    simp only [ird, hb, true_and, Nat.zero_add, List.drop_zero, Nat.mul_one]
    rw [if_pos (by simp), List.take_of_length_le (by simp)]
  rw [frz12, shows_sl hr ints_pure] at hd
  exact hd
theorem views_k3 (z q mine : IV) (tk : Int) (p : Int) (all : BitVec 32) (b1 : Bd) (d : Int) (r1 : Rs) (s1 : IV) (ml : List Int) (pb : Nat) (J : JH)
    (h0 : J[0]? = some (.cells 0 [.int .u64 d] false)) (hb : J[pb]? = some (.cells 0 (bdc b1) false)) (hmi : RawI J mine ml) (hml : ∀ d ∈ blk mine, d < J.size)
    (hz : ipure z = true) (hq : ipure q = true)
    (hr1 : pc BI F_vm_Run [z, .agg (bdc b1), .agg [.int .u64 d], q, .int .u32 tk, m32 all] = some (.agg (resC r1 s1))) (hs1 : Ls 3 s1 (r1.shows.map Sh.e)) (hl : r1.shows.length ≤ 100000)
    (hr2 : ∀ u, Ls 1 u (ml.map (IV.int .i32)) → ∃ r2 s2, pc BI F_vm_Run [z, .agg (bdc (b1.view p)), .agg [.int .u64 0], u, .int .u32 tk, m32 all] = some (.agg (resC r2 s2)) ∧ ione s2 = true ∧ ((∀ s ∈ r1.shows, hasM s.to p = false) → r1.err = r2.err ∧ r1.touched = r2.touched ∧ r2.bd.view p = r1.bd.view p))
    (K : Out IV → JH → Prop) (hT : ∀ J', K (.ret [.bool true]) J') :
    WP (dn BI l_law09_VmViews_k3 [z, q, .int .u32 tk, .ptr 0 0 0, .int .i64 p, m32 all, .ptr pb 0 0, mine] J) K := by
  unfold l_law09_VmViews_k3
  have hm : BI.md F_board_Board_View = .pure := rfl
  have hl0 := lt_get h0
  have hlb := lt_get hb
  simp -implicitDefEqProofs only [go_sem, dnW_ite, reduceIte, Nat.reduceAdd, Nat.reduceLeDiff, Nat.reduceMul, Nat.reduceEqDiff, Int.reduceLT, Int.reduceLE, Int.reduceToNat, Nat.reduceSub, Nat.reduceLT, Int.reduceEq, BitVec.reduceOfInt, BitVec.reduceOfNat, Int.reduceGT, Int.reduceGE, Int.reduceBEq, Int.reduceBNe, Nat.reduceGT, Nat.reduceBEq, Nat.reduceBNe, Int.reduceAdd, Int.reduceSub, Int.reduceNeg, hm, Array.getElem?_push, h0, hb, dcp hr1 (by simp [ipureL, ipure, hz, hq, bdc_pure]), rs_one _ _ hs1.one, show ¬ (pb = J.size) by omega, show ¬ (0 = J.size) by omega, show ¬ (J.size = 0) by omega, dcp (View_ok b1 p) (by simp [ipureL, ipure, bdc_pure])]
  have hf : Fr J (J.push (IB.cells 0 (resC r1 s1) false)) [] := .push _ _ _
  have hmi1 : RawI (J.push (IB.cells 0 (resC r1 s1) false)) mine ml := by
    obtain ⟨b, c, e, hb'⟩ := hmi
    exact ⟨b, c, e, by rw [hf.2 b (lt_get hb') (by simp)]; exact hb'⟩
  obtain ⟨u, hu, hul⟩ := hmi1.frz
  have hu' : frz (J.push (IB.cells 0 (resC r1 s1) false)) DEP mine = some u := hu 11
  have f1 : ∀ {v : IV}, ipure v = true → frz (J.push (IB.cells 0 (resC r1 s1) false)) DEP v = some v := fun h => frzP h
  have pb1 : ipure (.agg (bdc (b1.view p))) = true := by simp [ipure, bdc_pure]
  have ha : [z, IV.agg (bdc (b1.view p)), IV.agg [IV.sc (Value.int IntKind.u64 0)], mine, IV.int IntKind.u32 tk, m32 all].mapM (frz (J.push (IB.cells 0 (resC r1 s1) false)) DEP) = some [z, IV.agg (bdc (b1.view p)), IV.agg [IV.sc (Value.int IntKind.u64 0)], u, IV.int IntKind.u32 tk, m32 all] := by
    rw [List.mapM_cons, List.mapM_cons, List.mapM_cons, List.mapM_cons, List.mapM_cons, List.mapM_cons, f1 hz, f1 pb1, f1 (v := IV.agg [IV.sc (Value.int IntKind.u64 0)]) rfl, hu', f1 (v := IV.int IntKind.u32 tk) rfl, f1 (v := m32 all) rfl]; rfl
  have s0 : ∀ {v : IV}, ipure v = true → Go.Proofs.Ythihgfkpdbgogaa.G.shows (J.push (IB.cells 0 (resC r1 s1) false)) DEP v = [] := fun h => shows_pure _ _ h
  obtain ⟨r2, s2, hr2', o2, hk⟩ := hr2 u hul
  refine WP_callF (blk mine) ha hr2' ?_ fun J2 g1 g2 => ?_
  · intro d hd
    simp only [List.flatMap_cons, List.flatMap_nil, s0 hz, s0 pb1, s0 (v := IV.agg [IV.sc (Value.int IntKind.u64 0)]) rfl, s0 (v := IV.int IntKind.u32 tk) rfl, s0 (v := m32 all) rfl, List.nil_append, List.append_nil] at hd
    exact hmi1.shows d hd
  have hp := push_get J (IB.cells 0 (resC r1 s1) false)
  have hp2 : J2[J.size]? = some (IB.cells 0 (resC r1 s1) false) := by rw [g1.2 _ (lt_get hp) (fun h => by have := hml _ h; omega)]; exact hp
  have hlt := lt_get hp2
  simp -implicitDefEqProofs only [go_sem, dnW_ite, reduceIte, Nat.reduceAdd, Nat.reduceLeDiff, Nat.reduceMul, Nat.reduceEqDiff, Int.reduceLT, Int.reduceLE, Int.reduceToNat, Nat.reduceSub, Nat.reduceLT, Int.reduceEq, BitVec.reduceOfInt, BitVec.reduceOfNat, Int.reduceGT, Int.reduceGE, Int.reduceBEq, Int.reduceBNe, Nat.reduceGT, Nat.reduceBEq, Nat.reduceBNe, Int.reduceAdd, Int.reduceSub, Int.reduceNeg, Array.getElem?_push, hp2, rs_one _ _ o2, show ¬ (J.size = J2.size) by omega, hs1.lenF, List.length_map, dn_loop]
  refine views_k1 p J.size J2.size r1 r2 s1 s2 hs1 hl _ ?_ ?_ K hT hk
  · rw [Array.getElem?_push, if_neg (by omega)]; exact hp2
  · exact push_get _ _
theorem views_k4 (z z2 q c : IV) (tk : Int) (p : Nat) (n : Nat) (X : List Cl) (hX : X.length ≤ 48) (L : List Cd) (hz : Ls 6 z (L.map Cd.e)) (hz2 : Ls 6 z2 (L.map Cd.e)) (hl96 : L.length ≤ 96) (hw : ∀ x ∈ L, x.wf) (ms : List Int) (hq : Ls 1 q (ms.map (IV.int .i32))) (hml : ms.length ≤ 8) (d : Int) (J : JH)
    (h0 : J[0]? = some (.cells 0 [.int .u64 d] false)) (hc : RawC J c X) (hcl : ∀ d ∈ blk c, 1 ≤ d) (K : Out IV → JH → Prop) (hT : ∀ J', K (.ret [.bool true]) J')
    (hk : ∀ J' pb mine, J'[0]? = some (.cells 0 [.int .u64 d] false) → J'[pb]? = some (.cells 0 (bdc ⟨X, hX⟩) false) → RawI J' mine (mineF ms p) → (∀ d ∈ blk mine, d < J'.size) → WP (dn BI l_law09_VmViews_k3 [z, q, .int .u32 tk, .ptr 0 0 0, .int .i64 (p : Int), m32 (allM n), .ptr pb 0 0, mine] J') K) :
    WP (dn BI l_law09_VmViews_k4 [z, c, q, .int .u32 tk, .ptr 0 0 0, z2, .int .i64 (p : Int), m32 (allM n)] J) K := by
  unfold l_law09_VmViews_k4
  obtain ⟨k, hk1, hkr⟩ := rCheck_ok z2 L hz2 hw X.length ms.length (by omega) (by omega)
  by_cases hk0 : k ≥ 0
  · simp -implicitDefEqProofs only [go_sem, dnW_ite, reduceIte, Nat.reduceAdd, Nat.reduceLeDiff, Nat.reduceMul, Nat.reduceEqDiff, Int.reduceLT, Int.reduceLE, Int.reduceToNat, Nat.reduceSub, Nat.reduceLT, Int.reduceEq, BitVec.reduceOfInt, BitVec.reduceOfNat, Int.reduceGT, Int.reduceGE, Int.reduceBEq, Int.reduceBNe, Nat.reduceGT, Nat.reduceBEq, Nat.reduceBNe, Int.reduceAdd, Int.reduceSub, Int.reduceNeg, hc.lenF, hq.lenF, List.length_map, dcp hk1 (by simp [ipureL, ipure, hz2.pure]), hk0]
    exact hT _
  · simp -implicitDefEqProofs only [go_sem, dnW_ite, reduceIte, Nat.reduceAdd, Nat.reduceLeDiff, Nat.reduceMul, Nat.reduceEqDiff, Int.reduceLT, Int.reduceLE, Int.reduceToNat, Nat.reduceSub, Nat.reduceLT, Int.reduceEq, BitVec.reduceOfInt, BitVec.reduceOfNat, Int.reduceGT, Int.reduceGE, Int.reduceBEq, Int.reduceBNe, Nat.reduceGT, Nat.reduceBEq, Nat.reduceBNe, Int.reduceAdd, Int.reduceSub, Int.reduceNeg, hc.lenF, hq.lenF, List.length_map, dcp hk1 (by simp [ipureL, ipure, hz2.pure]), hk0]
    obtain ⟨u, hu, hul⟩ := hc.frz
    have hu' : frz J DEP c = some u := hu 11
    refine WP_callF (blk c) (as := [u]) (by rw [List.mapM_cons, hu']; rfl) (NewX u X hX hul) (by simpa using hc.shows) fun J1 f1 z1 => ?_
    have h01 : J1[0]? = some (.cells 0 [.int .u64 d] false) := by rw [f1.2 0 (lt_get h0) (fun h => by have := hcl _ h; omega)]; exact h0
    have hl0 := lt_get h01
    have hrep : (List.replicate ms.length [IV.sc (Value.int IntKind.i32 0)]).flatten = (List.replicate ms.length (0 : Int)).map (IV.int .i32) := by
      rw [List.map_replicate]
      generalize ms.length = k
      induction k with
      | zero => rfl
      | succ k ih => rw [List.replicate_succ, List.flatten_cons, ih, List.replicate_succ]; rfl
    have hone : ((List.replicate ms.length (0 : Int)).map (IV.int .i32)).all ione = true := ints_ione
    have hfit : fits ms.length 4 = true := fits4' (by omega)
    have hfr : Fr J1 ((J1.push (.cells 0 (bdc ⟨X, hX⟩) false)).push (.cells 0 ((List.replicate ms.length (0 : Int)).map (IV.int .i32)) false)) [] := (Fr.push _ _ []).trans (.push _ _ []) (by simp)
    have fin : ∀ (l : List Int), l = mineF ms p → WP (dn BI l_law09_VmViews_k3 [z, q, .int .u32 tk, .ptr 0 0 0, .int .i64 (p : Int), m32 (allM n), .ptr J1.size 0 0, .sl (J1.size + 1) 0 0 ms.length ms.length 1] ((J1.push (.cells 0 (bdc ⟨X, hX⟩) false)).push (.cells 0 (l.map (IV.int .i32)) false))) K := fun l e => by
      have hf : Fr J1 ((J1.push (.cells 0 (bdc ⟨X, hX⟩) false)).push (.cells 0 (l.map (IV.int .i32)) false)) [] := (Fr.push _ _ []).trans (.push _ _ []) (by simp)
      refine hk _ J1.size _ (by rw [hf.2 0 hl0 (by simp)]; exact h01) (by rw [Array.getElem?_push, Array.size_push, if_neg (by omega), push_get]) ⟨J1.size + 1, ms.length, by rw [show (mineF ms p).length = ms.length by simp [mineF]], ?_⟩ (by simp [blk, blkOf])
      rw [← e]
      have := push_get (J1.push (.cells 0 (bdc ⟨X, hX⟩) false)) (.cells 0 (l.map (IV.int .i32)) false)
      rw [Array.size_push] at this
      exact this
    by_cases hp : p < ms.length
    · have hat := fun J => hq.at (i := p) (by simpa using hp) (J := J)
      simp only [List.getElem_map] at hat
      have hg : ((J1.push (.cells 0 (bdc ⟨X, hX⟩) false)).push (.cells 0 ((List.replicate ms.length (0 : Int)).map (IV.int .i32)) false))[J1.size + 1]? = some (.cells 0 ((List.replicate ms.length (0 : Int)).map (IV.int .i32)) false) := by
        have := push_get (J1.push (.cells 0 (bdc ⟨X, hX⟩) false)) (.cells 0 ((List.replicate ms.length (0 : Int)).map (IV.int .i32)) false)
        rw [Array.size_push] at this
        exact this
      have hsp : isplice ((List.replicate ms.length (0 : Int)).map (IV.int .i32)) p [IV.int .i32 ms[p]] = (mineF ms p).map (IV.int .i32) := by
        rw [isplice_ints (by simpa using hp), mineF, List.getD_eq_getElem?_getD, List.getElem?_eq_getElem hp]; rfl
      simp -implicitDefEqProofs only [go_sem, dnW_ite, reduceIte, Nat.reduceAdd, Nat.reduceLeDiff, Nat.reduceMul, Nat.reduceEqDiff, Int.reduceLT, Int.reduceLE, Int.reduceToNat, Nat.reduceSub, Nat.reduceLT, Int.reduceEq, BitVec.reduceOfInt, BitVec.reduceOfNat, Int.reduceGT, Int.reduceGE, Int.reduceBEq, Int.reduceBNe, Nat.reduceGT, Nat.reduceBEq, Nat.reduceBNe, Int.reduceAdd, Int.reduceSub, Int.reduceNeg, hq.lenF, List.length_map, show ((p : Int) < (ms.length : Int)) by omega, hp, hat, ↓hrep, hone, hfit, hg, List.length_replicate, show p + 1 ≤ ms.length by omega, hsp]
      exact fin _ rfl
    · simp -implicitDefEqProofs only [go_sem, dnW_ite, reduceIte, Nat.reduceAdd, Nat.reduceLeDiff, Nat.reduceMul, Nat.reduceEqDiff, Int.reduceLT, Int.reduceLE, Int.reduceToNat, Nat.reduceSub, Nat.reduceLT, Int.reduceEq, BitVec.reduceOfInt, BitVec.reduceOfNat, Int.reduceGT, Int.reduceGE, Int.reduceBEq, Int.reduceBNe, Nat.reduceGT, Nat.reduceBEq, Nat.reduceBNe, Int.reduceAdd, Int.reduceSub, Int.reduceNeg, hq.lenF, List.length_map, show ¬ ((p : Int) < (ms.length : Int)) by omega, ↓hrep, hone, hfit]
      refine fin _ ?_
      rw [mineF, List.set_eq_of_length_le (by simp; omega)]
end Go.Proofs.Ythihgfkpdbgogaa.G
namespace Go.Proofs.Ythihgfkpdbgogaa.G
open Go
set_option linter.unusedSimpArgs false
set_option linter.unusedVariables false
set_option maxRecDepth 20000
set_option maxHeartbeats 2000000
theorem quo64 (o : Nat) : IntKind.u8.wrap (Int.tdiv (o : Int) 64) = ((o / 64 % 256 : Nat) : Int) := by
  simp only [IntKind.wrap, IntKind.bits, IntKind.signed]
  have : Int.tdiv (o : Int) 64 = ((o / 64 : Nat) : Int) := rfl
  rw [this]; simp
theorem tmodN (o n : Nat) : Int.tmod (o : Int) (n : Int) = ((o % n : Nat) : Int) := rfl
theorem playersF_pos (l : List Int) : 0 < (playersF l).length := by
  unfold playersF; split
  · simp
  · simp; omega
theorem followF_sh1 (E : Me) (m : Mc) (x : Cd) : (followF E m x).shows.length ≤ m.shows.length + 1 := by
  by_cases h : x.op = 22
  · rw [follow_22 E m x h]
    unfold revealF
    split
    · exact Nat.le_succ _
    · show (m.shows ++ _).length ≤ _
      rw [List.length_append]
      split <;> simp
  · rw [followF_none E m x h]; exact Nat.le_succ _
theorem loopF_sh (E : Me) (l : List Cd) : ∀ (k : Nat) (m : Mc), (loopF E l k m).shows.length ≤ m.shows.length + k
  | 0, m => by rw [loopF]; split <;> exact Nat.le_refl _
  | k + 1, m => by
    rw [loopF]
    split
    · split
      · show m.shows.length ≤ _; omega
      · have h1 := loopF_sh E l k (followF E { m with used := m.used + 1 } (l.getD m.pc ⟨0, 0, 0, 0, 0, 0⟩))
        have h2 := followF_sh1 E { m with used := m.used + 1 } (l.getD m.pc ⟨0, 0, 0, 0, 0, 0⟩)
        have h3 : ({ m with used := m.used + 1 } : Mc).shows.length = m.shows.length := rfl
        omega
    · omega
theorem runF_few (E : Me) (l : List Cd) (b : Bd) (d : Int) : (runF E l b d).shows.length ≤ 100000 := by
  have h := loopF_sh E l 400 (Go.Proofs.Ythihgfkpdbgogaa.G.start E b d)
  have h0 : (Go.Proofs.Ythihgfkpdbgogaa.G.start E b d).shows.length = 0 := rfl
  unfold runF
  split
  · show 0 ≤ _; omega
  · split
    · show (loopF E l 400 (Go.Proofs.Ythihgfkpdbgogaa.G.start E b d)).shows.length ≤ _; omega
    · show (loopF E l 400 (Go.Proofs.Ythihgfkpdbgogaa.G.start E b d)).shows.length ≤ _; omega
theorem view_ok {b : Bd} (h : b.ok) (p : Int) : (b.view p).ok := by
  intro c hc
  simp only [Bd.view, Bd.map, List.mem_map] at hc
  obtain ⟨e, he, rfl⟩ := hc
  unfold viewC
  split
  · exact h e he
  · exact I32_0
theorem VmViews_ok (x c mv : IV) (l : List Cd) (cl : List Cl) (d : Int) (ms : List Int) (tk : Int) (o : Nat) (ho : o < 256) (hx : Ls 6 x (l.map Cd.e)) (hc : Ls 2 c (cl.map Cl.e)) (hm : Ls 1 mv (ms.map (IV.int .i32))) (hw : ∀ q ∈ l, q.wf) (hv : ∀ q ∈ cl, I32 q.v) (hmr : ∀ v ∈ ms, I32 v) (hb : l.length ≤ 9223372036854775807) (hb2 : cl.length ≤ 9223372036854775807) (hb3 : ms.length ≤ 9223372036854775807) (ht0 : 0 ≤ tk) (ht1 : tk < 4294967296) :
    pc BI F_law09_VmViews [x, c, .agg [.int .u64 d], mv, .int .u32 tk, .int .u8 o] = some (.bool true) := by
  refine pcE fn_law09_VmViews rfl fun K hK => ?_
  obtain ⟨q, hq, hql⟩ := players_ok mv ms hm hb3
  obtain ⟨_, hz, z1, z2, rfl, hz1, hz2⟩ := codes_ok x l hx hb
  have hw' : ∀ q ∈ l.take 96, q.wf := fun q hq => hw q (List.mem_of_mem_take hq)
  have hl96 : (l.take 96).length ≤ 96 := by simp; omega
  generalize l.take 96 = L at *
  have hp6 := playersF_len ms
  have hp1 := playersF_pos ms
  have hpr := playersF_rng hmr
  have ha : pc BI F_mask_All [nI ((playersF ms).length + o / 64)] = some (m32 (allM ((playersF ms).length + o / 64 : Nat))) := All_ok _
  generalize playersF ms = M at *
  have hn : 0 < M.length + o / 64 := by omega
  have hpn : o % (M.length + o / 64) < M.length + o / 64 := Nat.mod_lt _ hn
  have hn32 : M.length + o / 64 ≤ 32 := by omega
  have w1 : IntKind.i64.wrap ((o / 64 % 256 : Nat) : Int) = ((o / 64 : Nat) : Int) := by rw [show o / 64 % 256 = o / 64 by omega]; exact wrap_i64 (by omega) (by omega)
  have w2 : IntKind.i64.wrap ((M.length : Int) + ((o / 64 : Nat) : Int)) = ((M.length + o / 64 : Nat) : Int) := by rw [← Int.natCast_add]; exact wrap_i64 (by omega) (by omega)
  have w3 : IntKind.i64.wrap (o : Int) = (o : Int) := wrap_i64 (by omega) (by omega)
  have w4 : ¬ (((M.length + o / 64 : Nat) : Int) = 0) := by omega
  unfold l_law09_VmViews
  have hT : ∀ J', K (.ret [.bool true]) J' := fun J' => hK _ _ (frzE rfl rfl)
  simp -implicitDefEqProofs only [go_sem, dnW_ite, reduceIte, Nat.reduceAdd, Nat.reduceLeDiff, Nat.reduceMul, Nat.reduceEqDiff, Int.reduceLT, Int.reduceLE, Int.reduceToNat, Nat.reduceSub, Nat.reduceLT, Int.reduceEq, BitVec.reduceOfInt, BitVec.reduceOfNat, Int.reduceGT, Int.reduceGE, Int.reduceBEq, Int.reduceBNe, Nat.reduceGT, Nat.reduceBEq, Nat.reduceBNe, Int.reduceAdd, Int.reduceSub, Int.reduceNeg, dcp awake09 rfl, ipureL, ipure, grp, mkE]
  refine WP_call (few_raw c cl hc hb2 _) fun s1 J1 k1 => ?_
  have hX : (cl.take 48).length ≤ 48 := by simp; omega
  have hXv : ∀ c ∈ cl.take 48, I32 c.v := fun q hq => hv q (List.mem_of_mem_take hq)
  generalize cl.take 48 = X at *
  have f1 := k1.fr
  have n1 := k1.new
  have r1 := k1.raw
  simp -implicitDefEqProofs only [go_sem, dnW_ite, reduceIte, Nat.reduceAdd, Nat.reduceLeDiff, Nat.reduceMul, Nat.reduceEqDiff, Int.reduceLT, Int.reduceLE, Int.reduceToNat, Nat.reduceSub, Nat.reduceLT, Int.reduceEq, BitVec.reduceOfInt, BitVec.reduceOfNat, Int.reduceGT, Int.reduceGE, Int.reduceBEq, Int.reduceBNe, Nat.reduceGT, Nat.reduceBEq, Nat.reduceBNe, Int.reduceAdd, Int.reduceSub, Int.reduceNeg, dcp hq (by simp [ipureL, hm.pure]), dcp hz (by simp [ipureL, hx.pure]), hql.lenF, List.length_map, quo64, tmodN, w1, w2, w3, w4, dcp ha rfl, r1.lenF, dn_loop]
  refine views_k0 z1 s1 q (.int .u32 tk) (.ptr 0 0 0) z2 _ (allM (M.length + o / 64 : Nat)) X hX J1 r1 _ K fun J2 f2 r2 => ?_
  have hY : (meetL (allM (M.length + o / 64 : Nat)) X X.length).length ≤ 48 := by rw [meet_len]; exact hX
  have hYv := meet_I32 (all := allM (M.length + o / 64 : Nat)) hXv X.length
  generalize meetL (allM (M.length + o / 64 : Nat)) X X.length = Y at *
  generalize hp : o % (M.length + o / 64) = p at *
  generalize hN : M.length + o / 64 = N at *
  have b1 : ∀ k ∈ blk s1, 1 ≤ k := fun k hk => by have := n1 k hk; simpa using this
  have h0 : J2[0]? = some (.cells 0 [.int .u64 d] false) := by
    have h : J1[0]? = some (.cells 0 [.int .u64 d] false) := by rw [f1.2 0 (by simp) (by simp)]; rfl
    rw [f2.2 0 (lt_get h) (fun hm => by have := b1 _ hm; omega)]; exact h
  refine views_k4 z1 z2 q s1 tk p N Y hY L hz1 hz2 hl96 hw' M hql (by omega) d J2 h0 r2 b1 K hT fun J3 pb mine g0 gb gm gl => ?_
  have hE : (⟨q, M, tk, allM N⟩ : Me).ok := ⟨hql, hpr, by show M.length ≤ _; omega⟩
  obtain ⟨_, hr1, u1, hu1, rfl⟩ := Run_ok z1 L hz1 hw' (by omega) ⟨Y, hY⟩ (ok_of hYv) d ⟨q, M, tk, allM N⟩ hE
  refine views_k3 z1 q mine tk p (allM N) ⟨Y, hY⟩ d _ u1 (mineF M p) pb J3 g0 gb gm gl hz1.pure hql.pure hr1 hu1 ?_ (fun u hu => ?_) K hT
  · exact runF_few _ _ _ _
  · have hF : (⟨u, mineF M p, tk, allM N⟩ : Me).ok := ⟨hu, ?_, by show (mineF M p).length ≤ _; rw [mineF, List.length_set, List.length_replicate]; omega⟩
    · obtain ⟨_, hr2, u2, hu2, rfl⟩ := Run_ok z1 L hz1 hw' (by omega) ((⟨Y, hY⟩ : Bd).view p) (view_ok (ok_of hYv) p) 0 ⟨u, mineF M p, tk, allM N⟩ hF
      refine ⟨_, u2, hr2, hu2.one, fun hs => ?_⟩
      have hRE := RE.run (P := fun s => hasM s (p : Int)) (E := ⟨q, M, tk, allM N⟩) (F := ⟨u, mineF M p, tk, allM N⟩) (PO_has p N hpn hn32) ⟨rfl, rfl, fun i hi => ?_⟩ (by show M.length = (mineF M p).length; simp [mineF]) L (fun _ => Join_has p (by omega)) (BE.view p ⟨Y, hY⟩) d 0 (fun i s t h1 h2 h3 => by
        have := hs s (List.mem_of_getElem? h1)
        exact absurd h3 (by show ¬ hasM s.to (p : Int) = true; rw [this]; decide))
      · exact ⟨hRE.err, hRE.touched, hRE.bd.views.symm⟩
      · have := one_has p (by omega) i hi
        subst this
        show M.getD _ 0 = (mineF M p).getD _ 0
        rw [Int.toNat_natCast, mineF, List.getD_eq_getElem?_getD, List.getD_eq_getElem?_getD]
        by_cases hp : p < M.length
        · rw [List.getElem?_set_self (by simpa using hp), List.getElem?_eq_getElem hp]; rfl
        · rw [List.getElem?_eq_none (by omega), List.getElem?_eq_none (by simp; omega)]
    · intro v hv
      rw [mineF] at hv
      rcases List.mem_or_eq_of_mem_set hv with hv | hv
      · rw [List.mem_replicate] at hv; rw [hv.2]; exact I32_0
      · subst hv
        rw [List.getD_eq_getElem?_getD]
        by_cases hp : p < M.length
        · rw [List.getElem?_eq_getElem hp]; exact hpr _ (List.getElem_mem hp)
        · rw [List.getElem?_eq_none (by omega)]; exact I32_0
end Go.Proofs.Ythihgfkpdbgogaa.G
namespace Go.Proofs.Ythihgfkpdbgogaa.G
open Go
set_option linter.unusedSimpArgs false
set_option linter.unusedVariables false
set_option maxRecDepth 20000
set_option maxHeartbeats 2000000
theorem hides_k0 (z c vv q oth tk pd pe z2 p : IV) (all : BitVec 32) (X : List Cl) (hX : X.length ≤ 48) (J : JH) (hm : RawC J c X) (b : L) (K : Out IV → JH → Prop)
    (hK : ∀ J', Fr J J' (blk c) → RawC J' c (meetL all X X.length) → WP (dn BI b [z, c, vv, q, oth, tk, pd, pe, z2, p, m32 all] J') K) :
    WP (onJoinD 0 (iter (dn BI l_law09_VmHides_k0) 1 [z, c, vv, q, oth, tk, pd, pe, z2, p, m32 all, nI X.length, nI 0] J) b) K := by
  refine WP_range (by decide) X.length (fun i vs J' => vs = [z, c, vv, q, oth, tk, pd, pe, z2, p, m32 all, nI X.length, nI i] ∧ Fr J J' (blk c) ∧ RawC J' c (meetL all X i)) ?_ ⟨rfl, .refl _ _, by rw [meet_0]; exact hm⟩
  rintro i vs J1 ⟨rfl, hf, hr⟩ hi K1 g1 g2 g3
  unfold l_law09_VmHides_k0
  by_cases h : i < X.length
  · have hw1 := wrapS h (show X.length ≤ 9223372036854775807 by omega)
    obtain ⟨b, eb, hb⟩ := hr.get (i := i) (by rw [meet_len]; exact h)
    rw [meet_len] at eb
    subst eb
    have hM := meet_at all X h
    have hl : (clL (meetL all X i)).length = X.length * 2 := by rw [clL_len, meet_len]
    have hs : ((clL (meetL all X i)).drop (i * 2 + 1)).take 1 = [m32 X[i].s] := by rw [clL_s _ (by rw [meet_len]; exact h), hM]
    have hset : isplice (clL (meetL all X i)) (i * 2 + 1) [m32 (X[i].s &&& all)] = clL (meetL all X (i + 1)) := by
      rw [clL_sets _ (by rw [meet_len]; exact h), hM, meet_step _ _ h]
    have hin := inb hb
    have hme : pc BI F_mask_Mask_Meet [m32 X[i].s, .lst 1 true [m32 all]] = some (m32 (X[i].s &&& all)) := Meet_ok X[i].s (.lst 1 true [m32 all]) [all] .lst (by simp)
    simp -implicitDefEqProofs only [go_sem, dnW_ite, reduceIte, Nat.reduceAdd, Nat.reduceLeDiff, Nat.reduceMul, Nat.reduceEqDiff, Int.reduceLT, Int.reduceLE, Int.reduceToNat, Nat.reduceSub, Nat.reduceLT, Int.reduceEq, BitVec.reduceOfInt, BitVec.reduceOfNat, Int.reduceGT, Int.reduceGE, Int.reduceBEq, Int.reduceBNe, Nat.reduceGT, Nat.reduceBEq, Nat.reduceBNe, Int.reduceAdd, Int.reduceSub, Int.reduceNeg, show ((i : Int) < (X.length : Int)) by omega, h, hb, hl, hs, show i * 2 + 2 ≤ X.length * 2 by omega, hw1, hset, hin, ipureL, ipure, grp, mkE, List.headD, dcp hme rfl]
    refine g1 h _ _ ⟨rfl, hf.trans (Fr.set _ _ (S := [b]) (by simp)) (by simp [blk, blkOf]), .inr ⟨fun e => ?_, b, by rw [meet_len], set_get _ (lt_get hb)⟩⟩
    have e2 := congrArg List.length e; rw [meet_len] at e2; simp only [List.length_nil] at e2; omega
  · simp -implicitDefEqProofs only [go_sem, dnW_ite, reduceIte, Nat.reduceAdd, Nat.reduceLeDiff, Nat.reduceMul, Nat.reduceEqDiff, Int.reduceLT, Int.reduceLE, Int.reduceToNat, Nat.reduceSub, Nat.reduceLT, Int.reduceEq, BitVec.reduceOfInt, BitVec.reduceOfNat, Int.reduceGT, Int.reduceGE, Int.reduceBEq, Int.reduceBNe, Nat.reduceGT, Nat.reduceBEq, Nat.reduceBNe, Int.reduceAdd, Int.reduceSub, Int.reduceNeg, show ¬ ((i : Int) < (X.length : Int)) by omega]
    refine g2 _ _ (hK _ hf ?_)
    obtain rfl : i = X.length := by omega
    exact hr
theorem hides_k1 (z c x q oth tk pd pe : IV) (p : Int) (al : IV) (vals : List Int) (hx : Ls 1 x (vals.map (IV.int .i32))) (X : List Cl) (hX : X.length ≤ 48) (m : IV) (J : JH) (hm : RawC J m X) (b : L) (K : Out IV → JH → Prop)
    (hK : ∀ J', Fr J J' (blk m) → RawC J' m (chgL (fun c => !hasM c.s p) vals X X.length) → WP (dn BI b [z, c, q, oth, tk, pd, pe, .int .i64 p, al, m] J') K) :
    WP (onJoinD 1 (iter (dn BI l_law09_VmHides_k1) 2 [z, c, x, q, oth, tk, pd, pe, .int .i64 p, al, m, nI X.length, nI 0] J) b) K := by
  refine WP_range (by decide) X.length (fun i vs J' => vs = [z, c, x, q, oth, tk, pd, pe, .int .i64 p, al, m, nI X.length, nI i] ∧ Fr J J' (blk m) ∧ RawC J' m (chgL (fun c => !hasM c.s p) vals X i)) ?_ ⟨rfl, .refl _ _, by rw [chg_0]; exact hm⟩
  rintro i vs J1 ⟨rfl, hf, hr⟩ hi K1 g1 g2 g3
  unfold l_law09_VmHides_k1
  by_cases h : i < X.length
  · have hw1 := wrapS h (show X.length ≤ 9223372036854775807 by omega)
    by_cases hv : i < vals.length
    · have hat := fun J => hx.at (i := i) (by simpa using hv) (J := J)
      simp only [List.getElem_map] at hat
      obtain ⟨b, eb, hb⟩ := hr.get (i := i) (by rw [chg_len]; exact h)
      rw [chg_len] at eb
      subst eb
      have hM := chg_at (fun c => !hasM c.s p) vals X h
      have hl : (clL (chgL (fun c => !hasM c.s p) vals X i)).length = X.length * 2 := by rw [clL_len, chg_len]
      have hs : ((clL (chgL (fun c => !hasM c.s p) vals X i)).drop (i * 2 + 1)).take 1 = [m32 X[i].s] := by rw [clL_s _ (by rw [chg_len]; exact h), hM]
      have hh := Has_ok X[i].s p
      cases hw : hasM X[i].s p with
      | true =>
        rw [hw] at hh
        simp -implicitDefEqProofs only [go_sem, dnW_ite, reduceIte, Nat.reduceAdd, Nat.reduceLeDiff, Nat.reduceMul, Nat.reduceEqDiff, Int.reduceLT, Int.reduceLE, Int.reduceToNat, Nat.reduceSub, Nat.reduceLT, Int.reduceEq, BitVec.reduceOfInt, BitVec.reduceOfNat, Int.reduceGT, Int.reduceGE, Int.reduceBEq, Int.reduceBNe, Nat.reduceGT, Nat.reduceBEq, Nat.reduceBNe, Int.reduceAdd, Int.reduceSub, Int.reduceNeg, show ((i : Int) < (X.length : Int)) by omega, show ((i : Int) < (vals.length : Int)) by omega, hx.lenF, List.length_map, h, hb, hl, hs, hat, show i * 2 + 2 ≤ X.length * 2 by omega, dcp hh rfl, hw1]
        refine g1 h _ _ ⟨rfl, hf, ?_⟩
        rw [chg_skip _ _ _ h (by simp [hw])]; exact hr
      | false =>
        rw [hw] at hh
        have hset : isplice (clL (chgL (fun c => !hasM c.s p) vals X i)) (i * 2) [.int .i32 vals[i]] = clL (chgL (fun c => !hasM c.s p) vals X (i + 1)) := by
          rw [clL_setv _ (by rw [chg_len]; exact h), hM, chg_step _ _ _ h hv (by simp [hw])]
        have hin := inb hb
        simp -implicitDefEqProofs only [go_sem, dnW_ite, reduceIte, Nat.reduceAdd, Nat.reduceLeDiff, Nat.reduceMul, Nat.reduceEqDiff, Int.reduceLT, Int.reduceLE, Int.reduceToNat, Nat.reduceSub, Nat.reduceLT, Int.reduceEq, BitVec.reduceOfInt, BitVec.reduceOfNat, Int.reduceGT, Int.reduceGE, Int.reduceBEq, Int.reduceBNe, Nat.reduceGT, Nat.reduceBEq, Nat.reduceBNe, Int.reduceAdd, Int.reduceSub, Int.reduceNeg, show ((i : Int) < (X.length : Int)) by omega, show ((i : Int) < (vals.length : Int)) by omega, hx.lenF, List.length_map, h, hb, hl, hs, hat, show i * 2 + 2 ≤ X.length * 2 by omega, show i * 2 + 1 ≤ X.length * 2 by omega, dcp hh rfl, hw1, hset, hin]
        refine g1 h _ _ ⟨rfl, hf.trans (Fr.set _ _ (S := [b]) (by simp)) (by simp [blk, blkOf]), .inr ⟨fun e => ?_, b, by rw [chg_len], set_get _ (lt_get hb)⟩⟩
        have e2 := congrArg List.length e; rw [chg_len] at e2; simp only [List.length_nil] at e2; omega
    · simp -implicitDefEqProofs only [go_sem, dnW_ite, reduceIte, Nat.reduceAdd, Nat.reduceLeDiff, Nat.reduceMul, Nat.reduceEqDiff, Int.reduceLT, Int.reduceLE, Int.reduceToNat, Nat.reduceSub, Nat.reduceLT, Int.reduceEq, BitVec.reduceOfInt, BitVec.reduceOfNat, Int.reduceGT, Int.reduceGE, Int.reduceBEq, Int.reduceBNe, Nat.reduceGT, Nat.reduceBEq, Nat.reduceBNe, Int.reduceAdd, Int.reduceSub, Int.reduceNeg, show ((i : Int) < (X.length : Int)) by omega, show ¬ ((i : Int) < (vals.length : Int)) by omega, hx.lenF, List.length_map, hw1]
      refine g1 h _ _ ⟨rfl, hf, ?_⟩
      rw [chg_skip _ _ _ h (fun e => hv e.1)]; exact hr
  · simp -implicitDefEqProofs only [go_sem, dnW_ite, reduceIte, Nat.reduceAdd, Nat.reduceLeDiff, Nat.reduceMul, Nat.reduceEqDiff, Int.reduceLT, Int.reduceLE, Int.reduceToNat, Nat.reduceSub, Nat.reduceLT, Int.reduceEq, BitVec.reduceOfInt, BitVec.reduceOfNat, Int.reduceGT, Int.reduceGE, Int.reduceBEq, Int.reduceBNe, Nat.reduceGT, Nat.reduceBEq, Nat.reduceBNe, Int.reduceAdd, Int.reduceSub, Int.reduceNeg, show ¬ ((i : Int) < (X.length : Int)) by omega]
    refine g2 _ _ (hK _ hf ?_)
    obtain rfl : i = X.length := by omega
    exact hr
/-- Other moves of others. -/
def othL (p : Nat) (o M : List Int) (i : Nat) : List Int := M.mapIdx fun j v => if j < i ∧ j ≠ p ∧ j < o.length then o.getD j 0 else v
theorem oth_len (p o M i) : (othL p o M i).length = M.length := by simp [othL]
theorem oth_0 (p o M) : othL p o M 0 = M := by
  apply List.ext_getElem <;> simp [othL]
theorem oth_skip (p o M) {i : Nat} (h : i < M.length) (hn : ¬ (i ≠ p ∧ i < o.length)) : othL p o M (i + 1) = othL p o M i := by
  apply List.ext_getElem
  · simp [othL]
  · intro j h1 h2
    simp only [othL, List.getElem_mapIdx]
    have : (j < i + 1 ∧ j ≠ p ∧ j < o.length) ↔ (j < i ∧ j ≠ p ∧ j < o.length) := by
      constructor
      · rintro ⟨a, b⟩
        refine ⟨?_, b⟩
        by_cases e : j = i
        · subst e; exact absurd b hn
        · omega
      · rintro ⟨a, b⟩; exact ⟨by omega, b⟩
    simp only [this]
theorem oth_step (p o M) {i : Nat} (h : i < M.length) (h1 : i ≠ p) (hv : i < o.length) : othL p o M (i + 1) = (othL p o M i).set i o[i] := by
  apply List.ext_getElem
  · simp [othL]
  · intro j h1 h2
    rw [List.getElem_set]
    simp only [othL, List.getElem_mapIdx]
    by_cases e : i = j
    · subst e; simp [hv]; intro h3; omega
    · have : (j < i + 1) = (j < i) := by apply propext; omega
      simp only [if_neg e, this]
theorem oth_p (p : Nat) (o M : List Int) (i : Nat) : (othL p o M i).getD p 0 = M.getD p 0 := by
  rw [List.getD_eq_getElem?_getD, List.getD_eq_getElem?_getD]
  by_cases h : p < M.length
  · rw [List.getElem?_eq_getElem h, List.getElem?_eq_getElem (by rw [oth_len]; exact h)]
    simp [othL]
  · rw [List.getElem?_eq_none (by rw [oth_len]; omega), List.getElem?_eq_none (by omega)]
theorem oth_I32 {p o} {M : List Int} (hM : ∀ v ∈ M, I32 v) (ho : ∀ v ∈ o, I32 v) (i : Nat) : ∀ v ∈ othL p o M i, I32 v := by
  intro v hv
  obtain ⟨j, hj, rfl⟩ := List.mem_iff_getElem.1 hv
  have hj' : j < M.length := by rw [oth_len] at hj; exact hj
  simp only [othL, List.getElem_mapIdx]
  split
  · rename_i h
    rw [List.getD_eq_getElem?_getD, List.getElem?_eq_getElem h.2.2]
    exact ho _ (List.getElem_mem _)
  · exact hM _ (List.getElem_mem hj')
theorem hides_k2 (z c q oth tk pd pe al m : IV) (p : Nat) (o : List Int) (ho : Ls 1 oth (o.map (IV.int .i32))) (M : List Int) (hM : M.length ≤ 8) (w : IV) (J : JH) (hm : RawI J w M) (b : L) (K : Out IV → JH → Prop)
    (hK : ∀ J', Fr J J' (blk w) → RawI J' w (othL p o M M.length) → WP (dn BI b [z, c, q, tk, pd, pe, .int .i64 (p : Int), al, m, w] J') K) :
    WP (onJoinD 2 (iter (dn BI l_law09_VmHides_k2) 3 [z, c, q, oth, tk, pd, pe, .int .i64 (p : Int), al, m, w, nI M.length, nI 0] J) b) K := by
  refine WP_range (by decide) M.length (fun i vs J' => vs = [z, c, q, oth, tk, pd, pe, .int .i64 (p : Int), al, m, w, nI M.length, nI i] ∧ Fr J J' (blk w) ∧ RawI J' w (othL p o M i)) ?_ ⟨rfl, .refl _ _, by rw [oth_0]; exact hm⟩
  rintro i vs J1 ⟨rfl, hf, hr⟩ hi K1 g1 g2 g3
  unfold l_law09_VmHides_k2
  by_cases h : i < M.length
  · have hw1 := wrapS h (show M.length ≤ 9223372036854775807 by omega)
    by_cases hp : i = p
    · subst hp
      simp -implicitDefEqProofs only [go_sem, dnW_ite, reduceIte, Nat.reduceAdd, Nat.reduceLeDiff, Nat.reduceMul, Nat.reduceEqDiff, Int.reduceLT, Int.reduceLE, Int.reduceToNat, Nat.reduceSub, Nat.reduceLT, Int.reduceEq, BitVec.reduceOfInt, BitVec.reduceOfNat, Int.reduceGT, Int.reduceGE, Int.reduceBEq, Int.reduceBNe, Nat.reduceGT, Nat.reduceBEq, Nat.reduceBNe, Int.reduceAdd, Int.reduceSub, Int.reduceNeg, show ((i : Int) < (M.length : Int)) by omega, hw1]
      refine g1 h _ _ ⟨rfl, hf, ?_⟩
      rw [oth_skip _ _ _ h (by simp)]; exact hr
    · have hne : ((i : Int) != (p : Int)) = true := by simp; omega
      by_cases hv : i < o.length
      · have hat := fun J => ho.at (i := i) (by simpa using hv) (J := J)
        simp only [List.getElem_map] at hat
        obtain ⟨b, cp, eb, hb⟩ := hr
        rw [oth_len] at eb
        subst eb
        have hsp : isplice ((othL p o M i).map (IV.int .i32)) i [.int .i32 o[i]] = (othL p o M (i + 1)).map (IV.int .i32) := by
          rw [isplice_ints (by rw [oth_len]; exact h), oth_step _ _ _ h hp hv]
        have hl := oth_len p o M i
        have hin := inb hb
        simp -implicitDefEqProofs only [go_sem, dnW_ite, reduceIte, Nat.reduceAdd, Nat.reduceLeDiff, Nat.reduceMul, Nat.reduceEqDiff, Int.reduceLT, Int.reduceLE, Int.reduceToNat, Nat.reduceSub, Nat.reduceLT, Int.reduceEq, BitVec.reduceOfInt, BitVec.reduceOfNat, Int.reduceGT, Int.reduceGE, Int.reduceBEq, Int.reduceBNe, Nat.reduceGT, Nat.reduceBEq, Nat.reduceBNe, Int.reduceAdd, Int.reduceSub, Int.reduceNeg, show ((i : Int) < (M.length : Int)) by omega, hne, show ((i : Int) < (o.length : Int)) by omega, ho.lenF, List.length_map, hat, h, hb, hl, show i + 1 ≤ M.length by omega, hsp, hin, hw1]
        exact g1 h _ _ ⟨rfl, hf.trans (Fr.set _ _ (S := [b]) (by simp)) (by simp [blk, blkOf]), ⟨b, cp, by rw [oth_len], set_get _ (lt_get hb)⟩⟩
      · simp -implicitDefEqProofs only [go_sem, dnW_ite, reduceIte, Nat.reduceAdd, Nat.reduceLeDiff, Nat.reduceMul, Nat.reduceEqDiff, Int.reduceLT, Int.reduceLE, Int.reduceToNat, Nat.reduceSub, Nat.reduceLT, Int.reduceEq, BitVec.reduceOfInt, BitVec.reduceOfNat, Int.reduceGT, Int.reduceGE, Int.reduceBEq, Int.reduceBNe, Nat.reduceGT, Nat.reduceBEq, Nat.reduceBNe, Int.reduceAdd, Int.reduceSub, Int.reduceNeg, show ((i : Int) < (M.length : Int)) by omega, hne, show ¬ ((i : Int) < (o.length : Int)) by omega, ho.lenF, List.length_map, hw1]
        refine g1 h _ _ ⟨rfl, hf, ?_⟩
        rw [oth_skip _ _ _ h (fun e => hv e.2)]; exact hr
  · simp -implicitDefEqProofs only [go_sem, dnW_ite, reduceIte, Nat.reduceAdd, Nat.reduceLeDiff, Nat.reduceMul, Nat.reduceEqDiff, Int.reduceLT, Int.reduceLE, Int.reduceToNat, Nat.reduceSub, Nat.reduceLT, Int.reduceEq, BitVec.reduceOfInt, BitVec.reduceOfNat, Int.reduceGT, Int.reduceGE, Int.reduceBEq, Int.reduceBNe, Nat.reduceGT, Nat.reduceBEq, Nat.reduceBNe, Int.reduceAdd, Int.reduceSub, Int.reduceNeg, show ¬ ((i : Int) < (M.length : Int)) by omega]
    refine g2 _ _ (hK _ hf ?_)
    obtain rfl : i = M.length := by omega
    exact hr
end Go.Proofs.Ythihgfkpdbgogaa.G
namespace Go.Proofs.Ythihgfkpdbgogaa.G
open Go
set_option linter.unusedSimpArgs false
set_option linter.unusedVariables false
set_option maxRecDepth 20000
set_option maxHeartbeats 2000000
/-- What is told up to i is alike. -/
def Lik (p : Int) (a b : List Sh) (i : Nat) : Prop := ∀ k, k < i → ∀ (h1 : k < a.length) (h2 : k < b.length), hasM a[k].to p = true → a[k].v = b[k].v
theorem hides_k5 (p : Int) (a b : Nat) (r1 r2 : Rs) (s1 s2 : IV) (hs1 : Ls 3 s1 (r1.shows.map Sh.e)) (hs2 : Ls 3 s2 (r2.shows.map Sh.e)) (J : JH) (ha : J[a]? = some (.cells 0 (resC r1 s1) false)) (hb : J[b]? = some (.cells 0 (resC r2 s2) false))
    (e1 : r1.err = r2.err) (e2 : r1.touched = r2.touched) (e3 : r1.used = r2.used) (e4 : r1.shows.length = r2.shows.length) (e5 : r1.bd.view p = r2.bd.view p) (e6 : sumB false r1.bd = sumB false r2.bd) (K : Out IV → JH → Prop) (hT : ∀ J', K (.ret [.bool true]) J') :
    WP (dn BI l_law09_VmHides_k5 [.int .i64 p, .ptr a 0 0, .ptr b 0 0] J) K := by
  unfold l_law09_VmHides_k5
  have hal := Alike_ok r1.bd r2.bd p
  rw [e5, decide_eq_true rfl] at hal
  simp -implicitDefEqProofs only [go_sem, dnW_ite, reduceIte, Nat.reduceAdd, Nat.reduceLeDiff, Nat.reduceMul, Nat.reduceEqDiff, Int.reduceLT, Int.reduceLE, Int.reduceToNat, Nat.reduceSub, Nat.reduceLT, Int.reduceEq, BitVec.reduceOfInt, BitVec.reduceOfNat, Int.reduceGT, Int.reduceGE, Int.reduceBEq, Int.reduceBNe, Nat.reduceGT, Nat.reduceBEq, Nat.reduceBNe, Int.reduceAdd, Int.reduceSub, Int.reduceNeg, ha, hb, e1, e2, e3, castN, hs1.lenF, hs2.lenF, List.length_map, e4, dcp hal (by simp [ipureL, ipure, bdc_pure]), dcp (Labels_ok r1.bd) (by simp [ipureL, ipure, bdc_pure]), dcp (Labels_ok r2.bd) (by simp [ipureL, ipure, bdc_pure]), e6]
  exact hT _
theorem hides_k4 (p : Int) (a b : Nat) (r1 r2 : Rs) (s1 s2 : IV) (hs1 : Ls 3 s1 (r1.shows.map Sh.e)) (hs2 : Ls 3 s2 (r2.shows.map Sh.e)) (hl1 : r1.shows.length ≤ 100000) (J : JH) (ha : J[a]? = some (.cells 0 (resC r1 s1) false)) (hb : J[b]? = some (.cells 0 (resC r2 s2) false))
    (K : Out IV → JH → Prop) (hT : ∀ J', K (.ret [.bool true]) J') (mn : Nat) (hmn : mn = min r1.shows.length r2.shows.length)
    (H : ∀ i (h1 : i < r1.shows.length) (h2 : i < r2.shows.length), Lik p r1.shows r2.shows i → r1.shows[i].cell = r2.shows[i].cell ∧ r1.shows[i].to = r2.shows[i].to)
    (hk : Lik p r1.shows r2.shows mn → r1.err = r2.err ∧ r1.touched = r2.touched ∧ r1.used = r2.used ∧ r1.shows.length = r2.shows.length ∧ r1.bd.view p = r2.bd.view p ∧ sumB false r1.bd = sumB false r2.bd) :
    WP (onJoinD 3 (iter (dn BI l_law09_VmHides_k4) 4 [.int .i64 p, .ptr a 0 0, .ptr b 0 0, nI mn, nI 0] J) l_law09_VmHides_k5) K := by
  refine WP_range (by decide) mn (fun i vs J' => vs = [.int .i64 p, .ptr a 0 0, .ptr b 0 0, nI mn, nI i] ∧ J' = J ∧ Lik p r1.shows r2.shows i) ?_ ⟨rfl, rfl, fun k hk => by omega⟩
  rintro i vs J1 ⟨rfl, rfl, hn⟩ hi K1 g1 g2 g3
  unfold l_law09_VmHides_k4
  by_cases h : i < mn
  · have h1 : i < r1.shows.length := by omega
    have h2 : i < r2.shows.length := by omega
    have hat1 := fun J => hs1.at (i := i) (by simpa using h1) (J := J)
    have hat2 := fun J => hs2.at (i := i) (by simpa using h2) (J := J)
    simp only [List.getElem_map, Sh.e, Sh.c] at hat1 hat2
    obtain ⟨q1, q2⟩ := H i h1 h2 hn
    have hh := Has_ok r1.shows[i].to p
    have hh2 : pc BI F_mask_Mask_Has [m32 r2.shows[i].to, .int .i64 p] = some (.bool (hasM r1.shows[i].to p)) := by rw [q2]; exact Has_ok _ p
    have fin : (hasM r1.shows[i].to p = true → r1.shows[i].v = r2.shows[i].v) → K1 (.goto 4 [.int .i64 p, .ptr a 0 0, .ptr b 0 0, nI mn, nI (i + 1)]) J1 := fun e => g1 h _ _ ⟨rfl, rfl, fun k hk k1 k2 k3 => by
      by_cases hki : k < i
      · exact hn k hki k1 k2 k3
      · obtain rfl : k = i := by omega
        exact e k3⟩
    have hw1 := wrapS h (show mn ≤ 9223372036854775807 by omega)
    generalize r1.shows[i] = x at *
    generalize r2.shows[i] = y at *
    cases hc : hasM x.to p with
    | false =>
      rw [hc] at hh hh2
      simp -implicitDefEqProofs only [go_sem, dnW_ite, reduceIte, Nat.reduceAdd, Nat.reduceLeDiff, Nat.reduceMul, Nat.reduceEqDiff, Int.reduceLT, Int.reduceLE, Int.reduceToNat, Nat.reduceSub, Nat.reduceLT, Int.reduceEq, BitVec.reduceOfInt, BitVec.reduceOfNat, Int.reduceGT, Int.reduceGE, Int.reduceBEq, Int.reduceBNe, Nat.reduceGT, Nat.reduceBEq, Nat.reduceBNe, Int.reduceAdd, Int.reduceSub, Int.reduceNeg, show ((i : Int) < (mn : Int)) by omega, ha, hb, hat1, hat2, q1, q2, dcp hh rfl, dcp hh2 rfl, hw1, bne_self_eq_false, l_law09_VmHides_k3]
      exact fin (fun e => by rw [hc] at e; cases e)
    | true =>
      rw [hc] at hh hh2
      by_cases hv : x.v = y.v
      · have hv' : (x.v != y.v) = false := by simp [hv]
        simp -implicitDefEqProofs only [go_sem, dnW_ite, reduceIte, Nat.reduceAdd, Nat.reduceLeDiff, Nat.reduceMul, Nat.reduceEqDiff, Int.reduceLT, Int.reduceLE, Int.reduceToNat, Nat.reduceSub, Nat.reduceLT, Int.reduceEq, BitVec.reduceOfInt, BitVec.reduceOfNat, Int.reduceGT, Int.reduceGE, Int.reduceBEq, Int.reduceBNe, Nat.reduceGT, Nat.reduceBEq, Nat.reduceBNe, Int.reduceAdd, Int.reduceSub, Int.reduceNeg, show ((i : Int) < (mn : Int)) by omega, ha, hb, hat1, hat2, q1, q2, dcp hh rfl, dcp hh2 rfl, hw1, bne_self_eq_false, l_law09_VmHides_k3, hv']
        exact fin (fun _ => hv)
      · have hv' : (x.v != y.v) = true := by simp [hv]
        simp -implicitDefEqProofs only [go_sem, dnW_ite, reduceIte, Nat.reduceAdd, Nat.reduceLeDiff, Nat.reduceMul, Nat.reduceEqDiff, Int.reduceLT, Int.reduceLE, Int.reduceToNat, Nat.reduceSub, Nat.reduceLT, Int.reduceEq, BitVec.reduceOfInt, BitVec.reduceOfNat, Int.reduceGT, Int.reduceGE, Int.reduceBEq, Int.reduceBNe, Nat.reduceGT, Nat.reduceBEq, Nat.reduceBNe, Int.reduceAdd, Int.reduceSub, Int.reduceNeg, show ((i : Int) < (mn : Int)) by omega, ha, hb, hat1, hat2, q1, q2, dcp hh rfl, dcp hh2 rfl, hw1, bne_self_eq_false, l_law09_VmHides_k3, hv']
        exact g3 _ _ (hT _)
  · simp -implicitDefEqProofs only [go_sem, dnW_ite, reduceIte, Nat.reduceAdd, Nat.reduceLeDiff, Nat.reduceMul, Nat.reduceEqDiff, Int.reduceLT, Int.reduceLE, Int.reduceToNat, Nat.reduceSub, Nat.reduceLT, Int.reduceEq, BitVec.reduceOfInt, BitVec.reduceOfNat, Int.reduceGT, Int.reduceGE, Int.reduceBEq, Int.reduceBNe, Nat.reduceGT, Nat.reduceBEq, Nat.reduceBNe, Int.reduceAdd, Int.reduceSub, Int.reduceNeg, show ¬ ((i : Int) < (mn : Int)) by omega]
    obtain rfl : i = mn := by omega
    refine g2 _ _ ?_
    obtain ⟨e1, e2, e3, e4, e5, e6⟩ := hk hn
    exact hides_k5 p a b r1 r2 s1 s2 hs1 hs2 J1 ha hb e1 e2 e3 e4 e5 e6 K hT
/-- What is told, from what the runs come to. -/
theorem told_H {p : Nat} {a b : List Sh} (h : (Tell (fun s => hasM s (p : Int)) a b ∧ SE a b) ∨ Diff (fun s => hasM s (p : Int)) a b) (i : Nat) (h1 : i < a.length) (h2 : i < b.length) (hl : Lik p a b i) : a[i].cell = b[i].cell ∧ a[i].to = b[i].to := by
  have key : ∀ (c d : List Sh), SE c d → ∀ (h3 : i < c.length) (h4 : i < d.length), c[i].cell = d[i].cell ∧ c[i].to = d[i].to := fun c d e h3 h4 => by
    have := congrArg (fun l => l[i]?) e
    simp only [List.getElem?_map, List.getElem?_eq_getElem h3, List.getElem?_eq_getElem h4, Option.map_some, Option.some.injEq, Prod.mk.injEq] at this
    exact this
  rcases h with ⟨_, h⟩ | ⟨j, s, t, e1, e2, e3, e4, e5⟩
  · exact key a b h h1 h2
  · obtain ⟨l1, rfl⟩ := List.getElem?_eq_some_iff.1 e1
    obtain ⟨l2, rfl⟩ := List.getElem?_eq_some_iff.1 e2
    by_cases hji : j < i
    · exact absurd (hl j hji l1 l2 e3) e4
    · have := key _ _ e5 (by rw [List.length_take]; omega) (by rw [List.length_take]; omega)
      simpa using this
theorem told_end {p : Nat} {a b : List Sh} (h : Diff (fun s => hasM s (p : Int)) a b) (hl : Lik p a b (min a.length b.length)) : False := by
  obtain ⟨j, s, t, e1, e2, e3, e4, e5⟩ := h
  obtain ⟨l1, rfl⟩ := List.getElem?_eq_some_iff.1 e1
  obtain ⟨l2, rfl⟩ := List.getElem?_eq_some_iff.1 e2
  exact e4 (hl j (by omega) l1 l2 e3)
theorem hides_k6 (z c q w m : IV) (tk : Int) (p : Nat) (al : BitVec 32) (X Y : List Cl) (hX : X.length ≤ 48) (hY : Y.length ≤ 48) (d e : Int) (ol : List Int) (J : JH) (hc : RawC J c X) (hm : RawC J m Y) (hw : RawI J w ol)
    (h0 : J[0]? = some (.cells 0 [.int .u64 d] false)) (h1 : J[1]? = some (.cells 0 [.int .u64 e] false)) (hcl : ∀ d ∈ blk c, 2 ≤ d) (hml : ∀ d ∈ blk m, 2 ≤ d)
    (hcm : ∀ d ∈ blk m, d ∉ blk c) (hcw : ∀ d ∈ blk w, d ∉ blk c) (hmw : ∀ d ∈ blk w, d ∉ blk m) (hwl : ∀ d ∈ blk w, d < J.size ∧ 2 ≤ d)
    (hz : ipure z = true) (hq : ipure q = true) (r1 : Rs) (s1 : IV)
    (hr1 : pc BI F_vm_Run [z, .agg (bdc ⟨X, hX⟩), .agg [.int .u64 d], q, .int .u32 tk, m32 al] = some (.agg (resC r1 s1))) (hs1 : Ls 3 s1 (r1.shows.map Sh.e)) (hl1 : r1.shows.length ≤ 100000)
    (hr2 : ∀ u, Ls 1 u (ol.map (IV.int .i32)) → ∃ r2 s2, pc BI F_vm_Run [z, .agg (bdc ⟨Y, hY⟩), .agg [.int .u64 e], u, .int .u32 tk, m32 al] = some (.agg (resC r2 s2)) ∧ Ls 3 s2 (r2.shows.map Sh.e) ∧
      ((Tell (fun s => hasM s (p : Int)) r1.shows r2.shows ∧ RE (fun s => hasM s (p : Int)) r1 r2) ∨ Diff (fun s => hasM s (p : Int)) r1.shows r2.shows))
    (K : Out IV → JH → Prop) (hT : ∀ J', K (.ret [.bool true]) J') :
    WP (dn BI l_law09_VmHides_k6 [z, c, q, .int .u32 tk, .ptr 0 0 0, .ptr 1 0 0, .int .i64 (p : Int), m32 al, m, w] J) K := by
  unfold l_law09_VmHides_k6
  obtain ⟨u, hu, hul⟩ := hc.frz
  have hu' : frz J DEP c = some u := hu 11
  simp -implicitDefEqProofs only [go_sem, dnW_ite, reduceIte, Nat.reduceAdd, Nat.reduceLeDiff, Nat.reduceMul, Nat.reduceEqDiff, Int.reduceLT, Int.reduceLE, Int.reduceToNat, Nat.reduceSub, Nat.reduceLT, Int.reduceEq, BitVec.reduceOfInt, BitVec.reduceOfNat, Int.reduceGT, Int.reduceGE, Int.reduceBEq, Int.reduceBNe, Nat.reduceGT, Nat.reduceBEq, Nat.reduceBNe, Int.reduceAdd, Int.reduceSub, Int.reduceNeg]
  refine WP_callF (blk c) (as := [u]) (by rw [List.mapM_cons, hu']; rfl) (NewX u X hX hul) (by simpa using hc.shows) fun J1 f1 z1 => ?_
  have hm1 := hm.fr f1 hcm
  have hw1 : RawI J1 w ol := by
    obtain ⟨b, cp, rfl, hb⟩ := hw
    exact ⟨b, cp, rfl, by rw [f1.2 b (lt_get hb) (hcw b (by simp [blk, blkOf]))]; exact hb⟩
  have h01 : J1[0]? = some (.cells 0 [.int .u64 d] false) := by rw [f1.2 0 (lt_get h0) (fun h => by have := hcl _ h; omega)]; exact h0
  have h11 : J1[1]? = some (.cells 0 [.int .u64 e] false) := by rw [f1.2 1 (lt_get h1) (fun h => by have := hcl _ h; omega)]; exact h1
  simp -implicitDefEqProofs only [go_sem, dnW_ite, reduceIte, Nat.reduceAdd, Nat.reduceLeDiff, Nat.reduceMul, Nat.reduceEqDiff, Int.reduceLT, Int.reduceLE, Int.reduceToNat, Nat.reduceSub, Nat.reduceLT, Int.reduceEq, BitVec.reduceOfInt, BitVec.reduceOfNat, Int.reduceGT, Int.reduceGE, Int.reduceBEq, Int.reduceBNe, Nat.reduceGT, Nat.reduceBEq, Nat.reduceBNe, Int.reduceAdd, Int.reduceSub, Int.reduceNeg]
  have p1 : Fr J1 (J1.push (.cells 0 (bdc ⟨X, hX⟩) false)) [] := .push _ _ _
  have hm2 := hm1.fr p1 (by simp)
  obtain ⟨v, hv, hvl⟩ := hm2.frz
  have hv' : frz (J1.push (.cells 0 (bdc ⟨X, hX⟩) false)) DEP m = some v := hv 11
  refine WP_callF (blk m) (as := [v]) (by rw [List.mapM_cons, hv']; rfl) (NewX v Y hY hvl) (by simpa using hm2.shows) fun J2 f2 z2 => ?_
  have hp := push_get J1 (.cells 0 (bdc ⟨X, hX⟩) false)
  have hp2 : J2[J1.size]? = some (.cells 0 (bdc ⟨X, hX⟩) false) := by rw [f2.2 _ (lt_get hp) (fun h => by have := hm1.low _ h; omega)]; exact hp
  have hl0 := lt_get h01
  have hl1' := lt_get h11
  have h02 : J2[0]? = some (.cells 0 [.int .u64 d] false) := by rw [f2.2 0 (by simp) (fun h => by have := hml _ h; omega), p1.2 0 hl0 (by simp)]; exact h01
  have h12 : J2[1]? = some (.cells 0 [.int .u64 e] false) := by rw [f2.2 1 (by simp; omega) (fun h => by have := hml _ h; omega), p1.2 1 hl1' (by simp)]; exact h11
  have hw2 : RawI J2 w ol := by
    obtain ⟨b, cp, rfl, hb⟩ := hw1
    have hlt := lt_get hb
    exact ⟨b, cp, rfl, by rw [f2.2 b (by simp; omega) (hmw b (by simp [blk, blkOf])), p1.2 b hlt (by simp)]; exact hb⟩
  rw [Array.size_push] at z2
  simp -implicitDefEqProofs only [go_sem, dnW_ite, reduceIte, Nat.reduceAdd, Nat.reduceLeDiff, Nat.reduceMul, Nat.reduceEqDiff, Int.reduceLT, Int.reduceLE, Int.reduceToNat, Nat.reduceSub, Nat.reduceLT, Int.reduceEq, BitVec.reduceOfInt, BitVec.reduceOfNat, Int.reduceGT, Int.reduceGE, Int.reduceBEq, Int.reduceBNe, Nat.reduceGT, Nat.reduceBEq, Nat.reduceBNe, Int.reduceAdd, Int.reduceSub, Int.reduceNeg, Array.getElem?_push, h02, h12, hp2, show ¬ (J2.size = 0) by omega, show ¬ (J2.size = 1) by omega, show ¬ (0 = J2.size) by omega, show ¬ (1 = J2.size) by omega, show ¬ (J1.size = J2.size) by omega, dcp hr1 (by simp [ipureL, ipure, hz, hq, bdc_pure]), rs_one _ _ hs1.one]
  generalize hJ3 : (J2.push (.cells 0 (bdc ⟨Y, hY⟩) false)).push (.cells 0 (resC r1 s1) false) = J3
  have p2 : Fr J2 J3 [] := by rw [← hJ3]; exact (Fr.push _ _ []).trans (.push _ _ []) (by simp)
  have z3 : J3.size = J2.size + 2 := by rw [← hJ3]; simp
  have hr3 : J3[J2.size + 1]? = some (.cells 0 (resC r1 s1) false) := by
    have := push_get (J2.push (.cells 0 (bdc ⟨Y, hY⟩) false)) (.cells 0 (resC r1 s1) false)
    rw [Array.size_push] at this
    rw [← hJ3]; exact this
  have hw3 : RawI J3 w ol := by
    obtain ⟨b, cp, rfl, hb⟩ := hw2
    exact ⟨b, cp, rfl, by rw [p2.2 b (lt_get hb) (by simp)]; exact hb⟩
  obtain ⟨u2, hu2, hul2⟩ := hw3.frz
  have hu2' : frz J3 DEP w = some u2 := hu2 11
  have g1 : ∀ {v : IV}, ipure v = true → frz J3 DEP v = some v := fun h => frzP h
  have pb1 : ipure (.agg (bdc ⟨Y, hY⟩)) = true := by simp [ipure, bdc_pure]
  have ha : [z, IV.agg (bdc ⟨Y, hY⟩), IV.agg [IV.int .u64 e], w, IV.int IntKind.u32 tk, m32 al].mapM (frz J3 DEP) = some [z, IV.agg (bdc ⟨Y, hY⟩), IV.agg [IV.int .u64 e], u2, IV.int IntKind.u32 tk, m32 al] := by
    rw [List.mapM_cons, List.mapM_cons, List.mapM_cons, List.mapM_cons, List.mapM_cons, List.mapM_cons, g1 hz, g1 pb1, g1 (v := IV.agg [IV.int .u64 e]) rfl, hu2', g1 (v := IV.int IntKind.u32 tk) rfl, g1 (v := m32 al) rfl]; rfl
  have s0 : ∀ {v : IV}, ipure v = true → Go.Proofs.Ythihgfkpdbgogaa.G.shows J3 DEP v = [] := fun h => shows_pure _ _ h
  obtain ⟨r2, s2, hr2', hs2, hcase⟩ := hr2 u2 hul2
  refine WP_callF (blk w) ha hr2' ?_ fun J4 k1 k2 => ?_
  · intro d hd
    simp only [List.flatMap_cons, List.flatMap_nil, s0 hz, s0 pb1, s0 (v := IV.agg [IV.int .u64 e]) rfl, s0 (v := IV.int IntKind.u32 tk) rfl, s0 (v := m32 al) rfl, List.nil_append, List.append_nil] at hd
    exact hw3.shows d hd
  have hr4 : J4[J2.size + 1]? = some (.cells 0 (resC r1 s1) false) := by
    have f1' := f1.1
    rw [k1.2 _ (lt_get hr3) (fun h => by have := (hwl _ h).1; omega)]; exact hr3
  have hne : ¬ (J2.size + 1 = J4.size) := by have := lt_get hr4; omega
  have hmn : min (r1.shows.length : Int) (r2.shows.length : Int) = ((min r1.shows.length r2.shows.length : Nat) : Int) := by omega
  simp -implicitDefEqProofs only [go_sem, dnW_ite, reduceIte, Nat.reduceAdd, Nat.reduceLeDiff, Nat.reduceMul, Nat.reduceEqDiff, Int.reduceLT, Int.reduceLE, Int.reduceToNat, Nat.reduceSub, Nat.reduceLT, Int.reduceEq, BitVec.reduceOfInt, BitVec.reduceOfNat, Int.reduceGT, Int.reduceGE, Int.reduceBEq, Int.reduceBNe, Nat.reduceGT, Nat.reduceBEq, Nat.reduceBNe, Int.reduceAdd, Int.reduceSub, Int.reduceNeg, Array.getElem?_push, hr4, hne, rs_one _ _ hs2.one, hs1.lenF, hs2.lenF, List.length_map, dn_loop, hmn]
  have hcase' : (Tell (fun s => hasM s (p : Int)) r1.shows r2.shows ∧ SE r1.shows r2.shows) ∨ Diff (fun s => hasM s (p : Int)) r1.shows r2.shows := hcase.imp (fun h => ⟨h.1, h.2.shows⟩) id
  refine hides_k4 p (J2.size + 1) J4.size r1 r2 s1 s2 hs1 hs2 hl1 _ ?_ ?_ K hT _ rfl (fun i h1 h2 hl => told_H hcase' i h1 h2 hl) (fun hl => ?_)
  · rw [Array.getElem?_push, if_neg hne]; exact hr4
  · exact push_get _ _
  · rcases hcase with ⟨_, h⟩ | h
    · exact ⟨h.err, h.touched, h.used, by have := congrArg List.length h.shows; simpa using this, h.bd.views, h.bd.labels⟩
    · exact (told_end h hl).elim
end Go.Proofs.Ythihgfkpdbgogaa.G
namespace Go.Proofs.Ythihgfkpdbgogaa.G
open Go
set_option linter.unusedSimpArgs false
set_option linter.unusedVariables false
set_option maxRecDepth 20000
set_option maxHeartbeats 2000000
theorem Clip.rawI {J J' : JH} {s : IV} {M : List Int} (h : Clip J J' s 1 (i1 M)) (h0 : 0 < M.length) : RawI J' s M := by
  rcases h with ⟨h, _, _⟩ | ⟨_, rfl, rfl⟩
  · have := congrArg List.length h; simp [i1] at this; rw [this] at h0; simp at h0
  · refine ⟨J.size, UNK + 1, by rw [show (i1 M).length = M.length by simp [i1]], ?_⟩
    rw [push_get, i1_flat]
theorem hides_k7 (z c q oth tk pd pe al m : IV) (p : Nat) (o : List Int) (ho : Ls 1 oth (o.map (IV.int .i32))) (M : List Int) (hq : Ls 1 q (M.map (IV.int .i32))) (hM : M.length ≤ 8) (hM0 : 0 < M.length) (J : JH) (K : Out IV → JH → Prop)
    (hK : ∀ J' w, Fr J J' [] → RawI J' w (othL p o M M.length) → (∀ d ∈ blk w, J.size ≤ d ∧ d < J'.size) → WP (dn BI l_law09_VmHides_k6 [z, c, q, tk, pd, pe, .int .i64 (p : Int), al, m, w] J') K) :
    WP (dn BI l_law09_VmHides_k7 [z, c, q, oth, tk, pd, pe, .int .i64 (p : Int), al, m] J) K := by
  unfold l_law09_VmHides_k7
  simp -implicitDefEqProofs only [go_sem, dnW_ite, reduceIte, Nat.reduceAdd, Nat.reduceLeDiff, Nat.reduceMul, Nat.reduceEqDiff, Int.reduceLT, Int.reduceLE, Int.reduceToNat, Nat.reduceSub, Nat.reduceLT, Int.reduceEq, BitVec.reduceOfInt, BitVec.reduceOfNat, Int.reduceGT, Int.reduceGE, Int.reduceBEq, Int.reduceBNe, Nat.reduceGT, Nat.reduceBEq, Nat.reduceBNe, Int.reduceAdd, Int.reduceSub, Int.reduceNeg, ipureL, grp]
  refine WP_bind (app_clip (X := i1 M) (by rw [i1_mk]; exact hq) (by decide) (i1_1 _) (by rw [i1_flat]; exact ints_ione) (fits4' (by simp [i1]; omega))) fun w J1 hs => ?_
  have hl := hs.lenF
  rw [show (i1 M).length = M.length by simp [i1]] at hl
  have n1 := hs.new
  have f1 := hs.fr
  have r1 := hs.rawI hM0
  simp -implicitDefEqProofs only [go_sem, dnW_ite, reduceIte, Nat.reduceAdd, Nat.reduceLeDiff, Nat.reduceMul, Nat.reduceEqDiff, Int.reduceLT, Int.reduceLE, Int.reduceToNat, Nat.reduceSub, Nat.reduceLT, Int.reduceEq, BitVec.reduceOfInt, BitVec.reduceOfNat, Int.reduceGT, Int.reduceGE, Int.reduceBEq, Int.reduceBNe, Nat.reduceGT, Nat.reduceBEq, Nat.reduceBNe, Int.reduceAdd, Int.reduceSub, Int.reduceNeg, dn_loop, hl]
  refine hides_k2 z c q oth tk pd pe al m p o ho M hM w J1 r1 _ K fun J2 f2 r2 => hK J2 w ?_ r2 ?_
  · refine ⟨Nat.le_trans f1.1 f2.1, fun d hd _ => ?_⟩
    rw [f2.2 d (Nat.lt_of_lt_of_le hd f1.1) (fun h => by have := n1 d h; omega), f1.2 d hd (by simp)]
  · intro d hd
    refine ⟨n1 d hd, ?_⟩
    obtain ⟨b, cp, rfl, hb⟩ := r2
    simp [blk, blkOf] at hd; subst hd; exact lt_get hb
theorem hides_k8 (z c vv q oth tk pd pe z2 al : IV) (p : Nat) (X : List Cl) (hX : X.length ≤ 48) (L : List Cd) (hz2 : Ls 6 z2 (L.map Cd.e)) (hw : ∀ x ∈ L, x.wf) (vals : List Int) (hvv : Ls 1 vv (vals.map (IV.int .i32))) (M : List Int) (hq : Ls 1 q (M.map (IV.int .i32))) (hM : M.length ≤ 8) (J : JH) (hc : RawC J c X) (K : Out IV → JH → Prop) (hT : ∀ J', K (.ret [.bool true]) J')
    (hK : ∀ J' m, Fr J J' [] → RawC J' m (chgL (fun c => !hasM c.s (p : Int)) vals X X.length) → (∀ d ∈ blk m, J.size ≤ d) → WP (dn BI l_law09_VmHides_k7 [z, c, q, oth, tk, pd, pe, .int .i64 (p : Int), al, m] J') K) :
    WP (dn BI l_law09_VmHides_k8 [z, c, vv, q, oth, tk, pd, pe, z2, .int .i64 (p : Int), al] J) K := by
  unfold l_law09_VmHides_k8
  obtain ⟨k, hk1, hkr⟩ := rCheck_ok z2 L hz2 hw X.length M.length (by omega) (by omega)
  by_cases hk0 : k ≥ 0
  · simp -implicitDefEqProofs only [go_sem, dnW_ite, reduceIte, Nat.reduceAdd, Nat.reduceLeDiff, Nat.reduceMul, Nat.reduceEqDiff, Int.reduceLT, Int.reduceLE, Int.reduceToNat, Nat.reduceSub, Nat.reduceLT, Int.reduceEq, BitVec.reduceOfInt, BitVec.reduceOfNat, Int.reduceGT, Int.reduceGE, Int.reduceBEq, Int.reduceBNe, Nat.reduceGT, Nat.reduceBEq, Nat.reduceBNe, Int.reduceAdd, Int.reduceSub, Int.reduceNeg, hc.lenF, hq.lenF, List.length_map, dcp hk1 (by simp [ipureL, ipure, hz2.pure]), hk0]
    exact hT _
  · simp -implicitDefEqProofs only [go_sem, dnW_ite, reduceIte, Nat.reduceAdd, Nat.reduceLeDiff, Nat.reduceMul, Nat.reduceEqDiff, Int.reduceLT, Int.reduceLE, Int.reduceToNat, Nat.reduceSub, Nat.reduceLT, Int.reduceEq, BitVec.reduceOfInt, BitVec.reduceOfNat, Int.reduceGT, Int.reduceGE, Int.reduceBEq, Int.reduceBNe, Nat.reduceGT, Nat.reduceBEq, Nat.reduceBNe, Int.reduceAdd, Int.reduceSub, Int.reduceNeg, hc.lenF, hq.lenF, List.length_map, dcp hk1 (by simp [ipureL, ipure, hz2.pure]), hk0]
    refine WP_call (few_raw2 hc hX) fun m J1 k1 => ?_
    have f1 := k1.fr
    have n1 := k1.new
    have r1 := k1.raw
    simp -implicitDefEqProofs only [go_sem, dnW_ite, reduceIte, Nat.reduceAdd, Nat.reduceLeDiff, Nat.reduceMul, Nat.reduceEqDiff, Int.reduceLT, Int.reduceLE, Int.reduceToNat, Nat.reduceSub, Nat.reduceLT, Int.reduceEq, BitVec.reduceOfInt, BitVec.reduceOfNat, Int.reduceGT, Int.reduceGE, Int.reduceBEq, Int.reduceBNe, Nat.reduceGT, Nat.reduceBEq, Nat.reduceBNe, Int.reduceAdd, Int.reduceSub, Int.reduceNeg, dn_loop, r1.lenF]
    refine hides_k1 z c vv q oth tk pd pe p al vals hvv X hX m J1 r1 _ K fun J2 f2 r2 => hK J2 m ?_ r2 n1
    refine ⟨Nat.le_trans f1.1 f2.1, fun d hd _ => ?_⟩
    rw [f2.2 d (Nat.lt_of_lt_of_le hd f1.1) (fun h => by have := n1 d h; omega), f1.2 d hd (by simp)]
theorem VmHides_ok (x c vv mv ov : IV) (l : List Cd) (cl : List Cl) (vals oth : List Int) (d e : Int) (ms : List Int) (tk : Int) (o : Nat) (ho : o < 256) (hx : Ls 6 x (l.map Cd.e)) (hc : Ls 2 c (cl.map Cl.e)) (hvv : Ls 1 vv (vals.map (IV.int .i32))) (hm : Ls 1 mv (ms.map (IV.int .i32))) (hov : Ls 1 ov (oth.map (IV.int .i32))) (hw : ∀ q ∈ l, q.wf) (hv : ∀ q ∈ cl, I32 q.v) (hvr : ∀ v ∈ vals, I32 v) (hmr : ∀ v ∈ ms, I32 v) (hor : ∀ v ∈ oth, I32 v) (hb : l.length ≤ 9223372036854775807) (hb2 : cl.length ≤ 9223372036854775807) (hb3 : ms.length ≤ 9223372036854775807) :
    pc BI F_law09_VmHides [x, c, vv, .agg [.int .u64 d], .agg [.int .u64 e], mv, ov, .int .u32 tk, .int .u8 o] = some (.bool true) := by
  refine pcE fn_law09_VmHides rfl fun K hK => ?_
  obtain ⟨q, hq, hql⟩ := players_ok mv ms hm hb3
  obtain ⟨_, hz, z1, z2, rfl, hz1, hz2⟩ := codes_ok x l hx hb
  have hw' : ∀ q ∈ l.take 96, q.wf := fun q hq => hw q (List.mem_of_mem_take hq)
  have hl96 : (l.take 96).length ≤ 96 := by simp; omega
  generalize l.take 96 = L at *
  have hp6 := playersF_len ms
  have hp1 := playersF_pos ms
  have hpr := playersF_rng hmr
  have ha : pc BI F_mask_All [nI ((playersF ms).length + o / 64)] = some (m32 (allM ((playersF ms).length + o / 64 : Nat))) := All_ok _
  generalize playersF ms = M at *
  have hn : 0 < M.length + o / 64 := by omega
  have hpn : o % (M.length + o / 64) < M.length + o / 64 := Nat.mod_lt _ hn
  have hn32 : M.length + o / 64 ≤ 32 := by omega
  have w1 : IntKind.i64.wrap ((o / 64 % 256 : Nat) : Int) = ((o / 64 : Nat) : Int) := by rw [show o / 64 % 256 = o / 64 by omega]; exact wrap_i64 (by omega) (by omega)
  have w2 : IntKind.i64.wrap ((M.length : Int) + ((o / 64 : Nat) : Int)) = ((M.length + o / 64 : Nat) : Int) := by rw [← Int.natCast_add]; exact wrap_i64 (by omega) (by omega)
  have w3 : IntKind.i64.wrap (o : Int) = (o : Int) := wrap_i64 (by omega) (by omega)
  have w4 : ¬ (((M.length + o / 64 : Nat) : Int) = 0) := by omega
  unfold l_law09_VmHides
  have hT : ∀ J', K (.ret [.bool true]) J' := fun J' => hK _ _ (frzE rfl rfl)
  simp -implicitDefEqProofs only [go_sem, dnW_ite, reduceIte, Nat.reduceAdd, Nat.reduceLeDiff, Nat.reduceMul, Nat.reduceEqDiff, Int.reduceLT, Int.reduceLE, Int.reduceToNat, Nat.reduceSub, Nat.reduceLT, Int.reduceEq, BitVec.reduceOfInt, BitVec.reduceOfNat, Int.reduceGT, Int.reduceGE, Int.reduceBEq, Int.reduceBNe, Nat.reduceGT, Nat.reduceBEq, Nat.reduceBNe, Int.reduceAdd, Int.reduceSub, Int.reduceNeg, dcp awake09 rfl, ipureL, ipure, grp, mkE]
  refine WP_call (few_raw c cl hc hb2 _) fun s1 J1 k1 => ?_
  have hX : (cl.take 48).length ≤ 48 := by simp; omega
  have hXv : ∀ c ∈ cl.take 48, I32 c.v := fun q hq => hv q (List.mem_of_mem_take hq)
  generalize cl.take 48 = X at *
  have f1 := k1.fr
  have n1 := k1.new
  have r1 := k1.raw
  simp -implicitDefEqProofs only [go_sem, dnW_ite, reduceIte, Nat.reduceAdd, Nat.reduceLeDiff, Nat.reduceMul, Nat.reduceEqDiff, Int.reduceLT, Int.reduceLE, Int.reduceToNat, Nat.reduceSub, Nat.reduceLT, Int.reduceEq, BitVec.reduceOfInt, BitVec.reduceOfNat, Int.reduceGT, Int.reduceGE, Int.reduceBEq, Int.reduceBNe, Nat.reduceGT, Nat.reduceBEq, Nat.reduceBNe, Int.reduceAdd, Int.reduceSub, Int.reduceNeg, dcp hq (by simp [ipureL, hm.pure]), dcp hz (by simp [ipureL, hx.pure]), hql.lenF, List.length_map, quo64, tmodN, w1, w2, w3, w4, dcp ha rfl, r1.lenF, dn_loop]
  refine hides_k0 z1 s1 vv q ov (.int .u32 tk) (.ptr 0 0 0) (.ptr 1 0 0) z2 _ (allM (M.length + o / 64 : Nat)) X hX J1 r1 _ K fun J2 f2 r2 => ?_
  have hY : (meetL (allM (M.length + o / 64 : Nat)) X X.length).length ≤ 48 := by rw [meet_len]; exact hX
  have hYv := meet_I32 (all := allM (M.length + o / 64 : Nat)) hXv X.length
  generalize meetL (allM (M.length + o / 64 : Nat)) X X.length = Y at *
  generalize hp : o % (M.length + o / 64) = p at *
  generalize hN : M.length + o / 64 = N at *
  have b1 : ∀ k ∈ blk s1, 2 ≤ k := fun k hk => by have := n1 k hk; simpa using this
  have lo1 := r2.low
  refine hides_k8 z1 s1 vv q ov (.int .u32 tk) (.ptr 0 0 0) (.ptr 1 0 0) z2 (m32 (allM N)) p Y hY L hz2 hw' vals hvv M hql (by omega) J2 r2 K hT fun J3 m f3 r3 n3 => ?_
  have lo3 := r3.low
  refine hides_k7 z1 s1 q ov (.int .u32 tk) (.ptr 0 0 0) (.ptr 1 0 0) (m32 (allM N)) m p oth hov M hql (by omega) hp1 J3 K fun J4 w f4 r4 n4 => ?_
  have hE : (⟨q, M, tk, allM N⟩ : Me).ok := ⟨hql, hpr, by show M.length ≤ _; omega⟩
  have hC : (chgL (fun c => !hasM c.s (p : Int)) vals Y Y.length).length ≤ 48 := by rw [chg_len]; exact hY
  obtain ⟨_, hr1, u1, hu1, rfl⟩ := Run_ok z1 L hz1 hw' (by omega) ⟨Y, hY⟩ (ok_of hYv) d ⟨q, M, tk, allM N⟩ hE
  have z12 : 2 ≤ J1.size := by have := f1.1; simpa using this
  have keep : ∀ (k : Nat) (Z : IB), k < 2 → J1[k]? = some Z → J4[k]? = some Z := fun k Z hk h => by
    have h2 : J2[k]? = some Z := by rw [f2.2 k (lt_get h) (fun hm => by have := b1 k hm; omega)]; exact h
    have h3 : J3[k]? = some Z := by rw [f3.2 k (lt_get h2) (by simp)]; exact h2
    rw [f4.2 k (lt_get h3) (by simp)]; exact h3
  have s2 := f2.1
  have s3 := f3.1
  have s4 := f4.1
  refine hides_k6 z1 s1 q w m tk p (allM N) Y _ hY hC d e (othL p oth M M.length) J4 ((r2.fr f3 (by simp)).fr f4 (by simp)) (r3.fr f4 (by simp)) r4 (keep 0 _ (by decide) ?_) (keep 1 _ (by decide) ?_) b1 (fun k hk => by have := n3 k hk; omega) (fun k h2 h1 => by have := n3 k h2; have := lo1 k h1; omega) (fun k h2 h1 => by have := (n4 k h2).1; have := lo1 k h1; omega) (fun k h2 h1 => by have := (n4 k h2).1; have := lo3 k h1; omega) (fun k hk => ⟨(n4 k hk).2, by have := (n4 k hk).1; omega⟩) hz1.pure hql.pure _ u1 hr1 hu1 (runF_few _ _ _ _) (fun u hu => ?_) K hT
  · rw [f1.2 0 (by simp) (by simp)]; rfl
  · rw [f1.2 1 (by simp) (by simp)]; rfl
  · have hF : (⟨u, othL p oth M M.length, tk, allM N⟩ : Me).ok := ⟨hu, oth_I32 hpr hor _, by show (othL p oth M M.length).length ≤ _; rw [oth_len]; omega⟩
    obtain ⟨_, hr2, u2, hu2, rfl⟩ := Run_ok z1 L hz1 hw' (by omega) ⟨_, hC⟩ (ok_of (chg_I32 hYv hvr _)) e ⟨u, othL p oth M M.length, tk, allM N⟩ hF
    refine ⟨_, u2, hr2, hu2, ?_⟩
    have hEE : EE (fun s => hasM s (p : Int)) ⟨q, M, tk, allM N⟩ ⟨u, othL p oth M M.length, tk, allM N⟩ := ⟨rfl, rfl, fun i hi => by
      have := one_has p (by omega) i hi
      subst this
      show M.getD _ 0 = (othL p oth M M.length).getD _ 0
      rw [Int.toNat_natCast, oth_p]⟩
    have hB : BE (fun s => hasM s (p : Int)) ⟨Y, hY⟩ ⟨chgL (fun c => !hasM c.s (p : Int)) vals Y Y.length, hC⟩ := chg_BE _ vals Y.length (fun c _ h => by simpa using h) hY hC
    have hlm : M.length = (othL p oth M M.length).length := (oth_len _ _ _ _).symm
    rcases run_told (P := fun s => hasM s (p : Int)) (E := ⟨q, M, tk, allM N⟩) (F := ⟨u, othL p oth M M.length, tk, allM N⟩) (PO_has p N hpn hn32) hEE hlm L (Join_has p (by omega)) hB d e with h | h
    · exact .inl ⟨h, RE.run (PO_has p N hpn hn32) hEE hlm L (fun _ => Join_has p (by omega)) hB d e h⟩
    · exact .inr h
end Go.Proofs.Ythihgfkpdbgogaa.G
