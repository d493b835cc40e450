/- Joined: W9 to W23. -/
import Derived.Test.YthihgfkpdbgogaaXG
set_option linter.unusedVariables false
set_option linter.unusedSimpArgs false
namespace Go.Proofs.Ythihgfkpdbgogaa.G
open Go
set_option linter.unusedSimpArgs false
set_option linter.unusedVariables false
set_option maxRecDepth 20000
set_option maxHeartbeats 2000000
theorem keeps_run {E : Me} (hE : E.ok) (l : List Cd) (hw : ∀ x ∈ l, x.wf) (b : Bd) (hb : b.ok) (d : Int) (ns : Bool) (hn : ns = true → ∀ x ∈ l, isStore x = false) :
    ((runF E l b d).err ≠ 0 → (runF E l b d).bd = b ∧ (runF E l b d).dice = d ∧ (runF E l b d).touched = 0#64 ∧ (runF E l b d).used ≤ 400) ∧
    ((runF E l b d).err = 0 → ∃ m : Mc, KP b ns m ∧ (runF E l b d).bd = m.bd ∧ (runF E l b d).touched = m.touched) := by
  unfold runF
  split
  · exact ⟨fun _ => ⟨rfl, rfl, rfl, Nat.zero_le _⟩, fun h => by cases h⟩
  · rename_i hR
    have hall : l.length ≤ 96 ∧ ∀ x ∈ l, x.right l.length b.l.length E.moves.length = true := by
      simpa [rightL] using hR
    have hst : (start E b d).ok b.l.length l.length := ⟨fun i hi => by
      have : ((start E b d).r.at i).v = 0 := by
        show ((regs0 E.all).at i).v = 0
        rw [rg_at _ hi]; simp only [regs0, List.getElem_replicate]
      rw [this]; exact I32_0, hb, rfl, Nat.zero_le _⟩
    split
    · refine ⟨fun _ => ⟨rfl, rfl, rfl, ?_⟩, fun h => absurd h (by assumption)⟩
      have := loop_used l hall.2 hE hw 400 (start E b d) hst
      have e : (start E b d).used = 0 := rfl
      show (loopF E l 400 (start E b d)).used ≤ 400
      omega
    · exact ⟨fun h => absurd rfl h, fun _ => ⟨loopF E l 400 (start E b d), KP.loop l hall.2 hn 400 _ (KP.start d), rfl, rfl⟩⟩
/-- a bit that is looked at -/
theorem bit_test (t : BitVec 64) (i : Nat) : (Int.tmod ((t >>> i).toNat : Int) 2 == 0) = !t.getLsbD i := by
  have e : Int.tmod ((t >>> i).toNat : Int) 2 = (((t >>> i).toNat % 2 : Nat) : Int) := rfl
  rw [e]
  have h : t.getLsbD i = (t >>> i).toNat.testBit 0 := by
    rw [BitVec.testBit_toNat, BitVec.getLsbD_ushiftRight, Nat.add_zero]
  rw [h, Nat.testBit_zero]
  have : (t >>> i).toNat % 2 = 0 ∨ (t >>> i).toNat % 2 = 1 := by omega
  rcases this with h2 | h2 <;> rw [h2] <;> rfl
theorem shr_zero {t : BitVec 64} {n : Nat} (h : ∀ i, n ≤ i → t.getLsbD i = false) : t >>> n = 0#64 := by
  apply BitVec.eq_of_getLsbD_eq
  intro i hi
  rw [BitVec.getLsbD_ushiftRight, h (n + i) (by omega)]; simp
theorem bd_at {b : Bd} {i : Nat} {c : Cl} (h : b.l[i]? = some c) : b.at (i : Int) = c := by simp [Bd.at, List.getD_eq_getElem?_getD, h]
/-- Does one store? -/
theorem keeps_k0 (z : IV) (L : List Cd) (hz : Ls 6 z (L.map Cd.e)) (hl : L.length ≤ 96) (c : IV) (J : JH) (h2 : J.size ≥ 3) (K : Out IV → JH → Prop)
    (hK : ∀ J', Fr J J' [] → WP (dn BI l_law09_VmKeeps_k3 [c, .ptr 2 0 0, .bool (L.any isStore)] J') K) :
    WP (dn BI l_law09_VmKeeps_k4 [z, c, .ptr 2 0 0] J) K := by
  unfold l_law09_VmKeeps_k4
  simp -implicitDefEqProofs only [go_sem, dnW_ite, reduceIte, Nat.reduceAdd, Nat.reduceLeDiff, Nat.reduceMul, Nat.reduceEqDiff, Int.reduceLT, Int.reduceLE, Int.reduceToNat, Nat.reduceSub, Nat.reduceLT, Int.reduceEq, BitVec.reduceOfInt, BitVec.reduceOfNat, Int.reduceGT, Int.reduceGE, Int.reduceBEq, Int.reduceBNe, Nat.reduceGT, Nat.reduceBEq, Nat.reduceBNe, Int.reduceAdd, Int.reduceSub, Int.reduceNeg, hz.lenF, List.length_map, dn_loop]
  refine WP_range (by decide) L.length (fun i vs J' => vs = [c, .ptr 2 0 0, .bool ((L.take i).any isStore), z, nI L.length, nI i] ∧ Fr J J' []) ?_ ⟨rfl, .refl _ _⟩
  rintro i vs J1 ⟨rfl, hf⟩ hi K1 g1 g2 g3
  unfold l_law09_VmKeeps_k0
  by_cases h : i < L.length
  · have hat := fun J => hz.at (i := i) (by simpa using h) (J := J)
    simp only [List.getElem_map, Cd.e, Cd.cs] at hat
    rw [List.take_succ_eq_append_getElem h, List.any_append] at g1
    have fin : ∀ b J', b = ((L.take i).any isStore || isStore L[i]) → Fr J1 J' [] → K1 (.goto 2 [c, .ptr 2 0 0, .bool b, z, nI L.length, nI (i + 1)]) J' := fun b J' hb hf' => g1 h _ _ ⟨by rw [hb]; simp, hf.trans hf' (by simp)⟩
    cases hs : (L.take i).any isStore with
    | true =>
      simp -implicitDefEqProofs only [go_sem, dnW_ite, reduceIte, Nat.reduceAdd, Nat.reduceLeDiff, Nat.reduceMul, Nat.reduceEqDiff, Int.reduceLT, Int.reduceLE, Int.reduceToNat, Nat.reduceSub, Nat.reduceLT, Int.reduceEq, BitVec.reduceOfInt, BitVec.reduceOfNat, Int.reduceGT, Int.reduceGE, Int.reduceBEq, Int.reduceBNe, Nat.reduceGT, Nat.reduceBEq, Nat.reduceBNe, Int.reduceAdd, Int.reduceSub, Int.reduceNeg, show ((i : Int) < (L.length : Int)) by omega, hat, wrapS h (show L.length ≤ 9223372036854775807 by omega)]
      exact fin _ _ (by simp [hs]) (.push _ _ _)
    | false =>
      by_cases o3 : L[i].op = 3
      · simp -implicitDefEqProofs only [go_sem, dnW_ite, reduceIte, Nat.reduceAdd, Nat.reduceLeDiff, Nat.reduceMul, Nat.reduceEqDiff, Int.reduceLT, Int.reduceLE, Int.reduceToNat, Nat.reduceSub, Nat.reduceLT, Int.reduceEq, BitVec.reduceOfInt, BitVec.reduceOfNat, Int.reduceGT, Int.reduceGE, Int.reduceBEq, Int.reduceBNe, Nat.reduceGT, Nat.reduceBEq, Nat.reduceBNe, Int.reduceAdd, Int.reduceSub, Int.reduceNeg, show ((i : Int) < (L.length : Int)) by omega, hat, wrapS h (show L.length ≤ 9223372036854775807 by omega), natBeqc, natBeqD, o3]
        exact fin _ _ (by simp [isStore, o3]) (.push _ _ _)
      · by_cases o5 : L[i].op = 5
        · simp -implicitDefEqProofs only [go_sem, dnW_ite, reduceIte, Nat.reduceAdd, Nat.reduceLeDiff, Nat.reduceMul, Nat.reduceEqDiff, Int.reduceLT, Int.reduceLE, Int.reduceToNat, Nat.reduceSub, Nat.reduceLT, Int.reduceEq, BitVec.reduceOfInt, BitVec.reduceOfNat, Int.reduceGT, Int.reduceGE, Int.reduceBEq, Int.reduceBNe, Nat.reduceGT, Nat.reduceBEq, Nat.reduceBNe, Int.reduceAdd, Int.reduceSub, Int.reduceNeg, show ((i : Int) < (L.length : Int)) by omega, hat, wrapS h (show L.length ≤ 9223372036854775807 by omega), natBeqc, natBeqD, o3, o5]
          exact fin _ _ (by simp [isStore, o5]) (.push _ _ _)
        · simp -implicitDefEqProofs only [go_sem, dnW_ite, reduceIte, Nat.reduceAdd, Nat.reduceLeDiff, Nat.reduceMul, Nat.reduceEqDiff, Int.reduceLT, Int.reduceLE, Int.reduceToNat, Nat.reduceSub, Nat.reduceLT, Int.reduceEq, BitVec.reduceOfInt, BitVec.reduceOfNat, Int.reduceGT, Int.reduceGE, Int.reduceBEq, Int.reduceBNe, Nat.reduceGT, Nat.reduceBEq, Nat.reduceBNe, Int.reduceAdd, Int.reduceSub, Int.reduceNeg, show ((i : Int) < (L.length : Int)) by omega, hat, wrapS h (show L.length ≤ 9223372036854775807 by omega), natBeqc, natBeqD, o3, o5]
          exact fin _ _ (by rw [hs, isStore, natBeqD, natBeqD, natBeqD]; simp [o3, o5]) (.push _ _ _)
  · simp -implicitDefEqProofs only [go_sem, dnW_ite, reduceIte, Nat.reduceAdd, Nat.reduceLeDiff, Nat.reduceMul, Nat.reduceEqDiff, Int.reduceLT, Int.reduceLE, Int.reduceToNat, Nat.reduceSub, Nat.reduceLT, Int.reduceEq, BitVec.reduceOfInt, BitVec.reduceOfNat, Int.reduceGT, Int.reduceGE, Int.reduceBEq, Int.reduceBNe, Nat.reduceGT, Nat.reduceBEq, Nat.reduceBNe, Int.reduceAdd, Int.reduceSub, Int.reduceNeg, show ¬ ((i : Int) < (L.length : Int)) by omega]
    refine g2 _ _ ?_
    have := hK J1 hf
    rw [List.take_of_length_le (by omega)]
    exact this
theorem eqAgg_cl (a b : Cl) : iaggEq [.int .i32 a.v, m32 a.s] [.int .i32 b.v, m32 b.s] = some (decide (a = b)) := by
  simp only [iaggEq, if_true, beqB, Bool.and_true]
  congr 1
  rw [Bool.eq_iff_iff]
  cases a; cases b
  simp
theorem keeps_k1 (y : IV) (C : List Cl) (hC : C.length ≤ 48) (hy : Ls 2 y (C.map Cl.e)) (R : Rs) (u : IV) (ns : Bool) (J : JH) (h2 : J[2]? = some (.cells 0 (resC R u) false)) (hk : ∃ m : Mc, KP ⟨C, hC⟩ ns m ∧ R.bd = m.bd ∧ R.touched = m.touched) (st : Bool) (hst : st = !ns) (K : Out IV → JH → Prop)
    (hK : ∀ J', K (.ret [.bool true]) J') :
    WP (dn BI l_law09_VmKeeps_k3 [y, .ptr 2 0 0, .bool st] J) K := by
  obtain ⟨m, hm, hb, ht⟩ := hk
  unfold l_law09_VmKeeps_k3
  simp -implicitDefEqProofs only [go_sem, dnW_ite, reduceIte, Nat.reduceAdd, Nat.reduceLeDiff, Nat.reduceMul, Nat.reduceEqDiff, Int.reduceLT, Int.reduceLE, Int.reduceToNat, Nat.reduceSub, Nat.reduceLT, Int.reduceEq, BitVec.reduceOfInt, BitVec.reduceOfNat, Int.reduceGT, Int.reduceGE, Int.reduceBEq, Int.reduceBNe, Nat.reduceGT, Nat.reduceBEq, Nat.reduceBNe, Int.reduceAdd, Int.reduceSub, Int.reduceNeg, hy.lenF, List.length_map, dn_loop]
  refine WP_range (by decide) C.length (fun i vs J' => vs = [y, .ptr 2 0 0, .bool st, y, nI C.length, nI i] ∧ Fr J J' []) ?_ ⟨rfl, .refl _ _⟩
  rintro i vs J1 ⟨rfl, hf⟩ hi K1 g1 g2 g3
  have h21 : J1[2]? = some (.cells 0 (resC R u) false) := by rw [hf.2 2 (lt_get h2) (by simp)]; exact h2
  have hin := inb h21
  by_cases h : i < C.length
  · have hat := fun J => hy.at (i := i) (by simpa using h) (J := J)
    simp only [List.getElem_map, Cl.e, Cl.c] at hat
    have hth : R.bd.there (i : Int) = true := by
      have : m.bd.l.length = C.length := hm.len
      rw [hb]; simp only [Bd.there, decide_eq_true_eq]; omega
    have hA := At_ok R.bd (i : Int)
    rw [hth] at hA
    simp only [if_true, Cl.c] at hA
    have fin : ∀ J', Fr J1 J' [] → K1 (.goto 3 [y, .ptr 2 0 0, .bool st, y, nI C.length, nI (i + 1)]) J' := fun J' hf' => g1 h _ _ ⟨rfl, hf.trans hf' (by simp)⟩
    have hci : (⟨C, hC⟩ : Bd).l[i]? = some C[i] := by simp [h]
    have hrem : IntKind.u64.wrap 0 = 0 := rfl
    have hbt := bit_test R.touched i
    have hkept : R.touched.getLsbD i = false → R.bd.at (i : Int) = C[i] := fun e => by
      rw [ht] at e
      have := hm.kept i e
      rw [hb]; exact bd_at (this.trans hci)
    have hlab : ns = true → (R.bd.at (i : Int)).v = C[i].v ∧ within C[i].s (R.bd.at (i : Int)).s = true := fun e => by
      obtain ⟨c', k1, k2, k3⟩ := hm.lab e i C[i] hci
      rw [hb, bd_at k1]; exact ⟨k2, k3⟩
    generalize R.bd.at (i : Int) = c' at *
    unfold l_law09_VmKeeps_k1
    have ff : Fr J1 ((J1.push (IB.cells 0 [IV.int .i32 C[i].v, m32 C[i].s] false)).push (IB.cells 0 [IV.int .i32 c'.v, m32 c'.s] false)) [] := (Fr.push _ _ []).trans (.push _ _ []) (by simp)
    cases hb2 : R.touched.getLsbD i with
    | false =>
      rw [hb2] at hbt
      have he := hkept hb2
      have heq := eqAgg_cl C[i] c'
      rw [he] at heq
      cases ns with
      | true =>
        obtain ⟨l1, l2⟩ := hlab rfl
        have hw := Within_ok C[i].s c'.s
        rw [l2, he] at hw
        subst hst
        simp -implicitDefEqProofs only [go_sem, dnW_ite, reduceIte, Nat.reduceAdd, Nat.reduceLeDiff, Nat.reduceMul, Nat.reduceEqDiff, Int.reduceLT, Int.reduceLE, Int.reduceToNat, Nat.reduceSub, Nat.reduceLT, Int.reduceEq, BitVec.reduceOfInt, BitVec.reduceOfNat, Int.reduceGT, Int.reduceGE, Int.reduceBEq, Int.reduceBNe, Nat.reduceGT, Nat.reduceBEq, Nat.reduceBNe, Int.reduceAdd, Int.reduceSub, Int.reduceNeg, show ((i : Int) < (C.length : Int)) by omega, hat, h21, Array.getElem?_push, hin, dcp hA (by simp [ipureL, ipure, bdc_pure]), show ¬ (i : Int) < 0 by omega, show min i 64 = i by omega, hbt, he, heq, dcp hw rfl, wrapS h (show C.length ≤ 9223372036854775807 by omega), bne_self_eq_false, show ¬ ((2 : Int) = 0) by decide]
        rw [he] at ff
        exact fin _ ff
      | false =>
        subst hst
        simp -implicitDefEqProofs only [go_sem, dnW_ite, reduceIte, Nat.reduceAdd, Nat.reduceLeDiff, Nat.reduceMul, Nat.reduceEqDiff, Int.reduceLT, Int.reduceLE, Int.reduceToNat, Nat.reduceSub, Nat.reduceLT, Int.reduceEq, BitVec.reduceOfInt, BitVec.reduceOfNat, Int.reduceGT, Int.reduceGE, Int.reduceBEq, Int.reduceBNe, Nat.reduceGT, Nat.reduceBEq, Nat.reduceBNe, Int.reduceAdd, Int.reduceSub, Int.reduceNeg, show ((i : Int) < (C.length : Int)) by omega, hat, h21, Array.getElem?_push, hin, dcp hA (by simp [ipureL, ipure, bdc_pure]), show ¬ (i : Int) < 0 by omega, show min i 64 = i by omega, hbt, he, heq, wrapS h (show C.length ≤ 9223372036854775807 by omega), bne_self_eq_false, show ¬ ((2 : Int) = 0) by decide]
        rw [he] at ff
        exact fin _ ff
    | true =>
      rw [hb2] at hbt
      cases ns with
      | true =>
        obtain ⟨l1, l2⟩ := hlab rfl
        have hw := Within_ok C[i].s c'.s
        rw [l2] at hw
        subst hst
        simp -implicitDefEqProofs only [go_sem, dnW_ite, reduceIte, Nat.reduceAdd, Nat.reduceLeDiff, Nat.reduceMul, Nat.reduceEqDiff, Int.reduceLT, Int.reduceLE, Int.reduceToNat, Nat.reduceSub, Nat.reduceLT, Int.reduceEq, BitVec.reduceOfInt, BitVec.reduceOfNat, Int.reduceGT, Int.reduceGE, Int.reduceBEq, Int.reduceBNe, Nat.reduceGT, Nat.reduceBEq, Nat.reduceBNe, Int.reduceAdd, Int.reduceSub, Int.reduceNeg, show ((i : Int) < (C.length : Int)) by omega, hat, h21, Array.getElem?_push, hin, dcp hA (by simp [ipureL, ipure, bdc_pure]), show ¬ (i : Int) < 0 by omega, show min i 64 = i by omega, hbt, l1, dcp hw rfl, wrapS h (show C.length ≤ 9223372036854775807 by omega), bne_self_eq_false, show ¬ ((2 : Int) = 0) by decide]
        rw [l1] at ff
        exact fin _ ff
      | false =>
        subst hst
        simp -implicitDefEqProofs only [go_sem, dnW_ite, reduceIte, Nat.reduceAdd, Nat.reduceLeDiff, Nat.reduceMul, Nat.reduceEqDiff, Int.reduceLT, Int.reduceLE, Int.reduceToNat, Nat.reduceSub, Nat.reduceLT, Int.reduceEq, BitVec.reduceOfInt, BitVec.reduceOfNat, Int.reduceGT, Int.reduceGE, Int.reduceBEq, Int.reduceBNe, Nat.reduceGT, Nat.reduceBEq, Nat.reduceBNe, Int.reduceAdd, Int.reduceSub, Int.reduceNeg, show ((i : Int) < (C.length : Int)) by omega, hat, h21, Array.getElem?_push, hin, dcp hA (by simp [ipureL, ipure, bdc_pure]), show ¬ (i : Int) < 0 by omega, show min i 64 = i by omega, hbt, wrapS h (show C.length ≤ 9223372036854775807 by omega), bne_self_eq_false, show ¬ ((2 : Int) = 0) by decide]
        exact fin _ ff
  · unfold l_law09_VmKeeps_k1
    simp -implicitDefEqProofs only [go_sem, dnW_ite, reduceIte, Nat.reduceAdd, Nat.reduceLeDiff, Nat.reduceMul, Nat.reduceEqDiff, Int.reduceLT, Int.reduceLE, Int.reduceToNat, Nat.reduceSub, Nat.reduceLT, Int.reduceEq, BitVec.reduceOfInt, BitVec.reduceOfNat, Int.reduceGT, Int.reduceGE, Int.reduceBEq, Int.reduceBNe, Nat.reduceGT, Nat.reduceBEq, Nat.reduceBNe, Int.reduceAdd, Int.reduceSub, Int.reduceNeg, show ¬ ((i : Int) < (C.length : Int)) by omega]
    refine g2 _ _ ?_
    unfold l_law09_VmKeeps_k2
    have hsh := shr_zero (t := R.touched) (n := C.length) (fun i hi => by rw [ht]; exact hm.high i hi)
    have hl : R.bd.l.length = C.length := by rw [hb]; exact hm.len
    simp -implicitDefEqProofs only [go_sem, dnW_ite, reduceIte, Nat.reduceAdd, Nat.reduceLeDiff, Nat.reduceMul, Nat.reduceEqDiff, Int.reduceLT, Int.reduceLE, Int.reduceToNat, Nat.reduceSub, Nat.reduceLT, Int.reduceEq, BitVec.reduceOfInt, BitVec.reduceOfNat, Int.reduceGT, Int.reduceGE, Int.reduceBEq, Int.reduceBNe, Nat.reduceGT, Nat.reduceBEq, Nat.reduceBNe, Int.reduceAdd, Int.reduceSub, Int.reduceNeg, h21, dcp (Len_ok R.bd) (by simp [ipureL, ipure, bdc_pure]), hy.lenF, List.length_map, hl, show ¬ (C.length : Int) < 0 by omega, show min C.length 64 = C.length by omega, hsh]
    exact hK _
theorem playersF_len (l : List Int) : (playersF l).length ≤ 6 := by
  unfold playersF; split <;> simp; omega
theorem playersF_rng {l : List Int} (h : ∀ v ∈ l, I32 v) : ∀ v ∈ playersF l, I32 v := by
  unfold playersF; split
  · intro v hv; simp at hv; subst hv; exact I32_0
  · exact fun v hv => h v (List.mem_of_mem_take hv)
theorem Keeps_ok (x c mv : IV) (l : List Cd) (cl : List Cl) (d : Int) (ms : List Int) (hx : Ls 6 x (l.map Cd.e)) (hc : Ls 2 c (cl.map Cl.e)) (hm : Ls 1 mv (ms.map (IV.int .i32))) (hw : ∀ q ∈ l, q.wf) (hv : ∀ q ∈ cl, I32 q.v) (hmr : ∀ v ∈ ms, I32 v) (hb : l.length ≤ 9223372036854775807) (hb2 : cl.length ≤ 9223372036854775807) (hb3 : ms.length ≤ 9223372036854775807) :
    pc BI F_law09_VmKeeps [x, c, .agg [.int .u64 d], mv] = some (.bool true) := by
  refine pcE fn_law09_VmKeeps rfl fun K hK => ?_
  obtain ⟨y, hy, hyl⟩ := few_ok c cl hc hb2
  obtain ⟨q, hq, hql⟩ := players_ok mv ms hm hb3
  obtain ⟨_, hz, z1, z2, rfl, hz1, hz2⟩ := codes_ok x l hx hb
  have hw' : ∀ q ∈ l.take 96, q.wf := fun q hq => hw q (List.mem_of_mem_take hq)
  have hl96 : (l.take 96).length ≤ 96 := by simp; omega
  generalize l.take 96 = L at *
  have hn := New48 y cl hyl
  have hE : (⟨q, playersF ms, 3, allM 8⟩ : Me).ok := ⟨hql, playersF_rng hmr, by have := playersF_len ms; show (playersF ms).length ≤ _; omega⟩
  obtain ⟨_, hr, s, hs, rfl⟩ := Run_ok z1 L hz1 hw' (by omega) (bd48 cl) (bd48_ok hv) d ⟨q, playersF ms, 3, allM 8⟩ hE
  have hr' : pc BI F_vm_Run [z1, .agg (bdc (bd48 cl)), .agg [.int .u64 d], q, .int .u32 3, m32 (allM 8)] = _ := hr
  have ha : pc BI F_mask_All [.int .i64 8] = some (m32 (allM 8)) := All_ok 8
  obtain ⟨k1, k2⟩ := keeps_run hE L hw' (bd48 cl) (bd48_ok hv) d (!L.any isStore) (fun e => by simpa using e)
  have hbd : bd48 cl = ⟨cl.take 48, (bd48 cl).h⟩ := rfl
  generalize runF ⟨q, playersF ms, 3, allM 8⟩ L (bd48 cl) d = R at *
  unfold l_law09_VmKeeps
  by_cases he : R.err = 0
  · have he' : ((R.err : Int) != 0) = false := by simp [he]
    simp -implicitDefEqProofs only [go_sem, dnW_ite, reduceIte, Nat.reduceAdd, Nat.reduceLeDiff, Nat.reduceMul, Nat.reduceEqDiff, Int.reduceLT, Int.reduceLE, Int.reduceToNat, Nat.reduceSub, Nat.reduceLT, Int.reduceEq, BitVec.reduceOfInt, BitVec.reduceOfNat, Int.reduceGT, Int.reduceGE, Int.reduceBEq, Int.reduceBNe, Nat.reduceGT, Nat.reduceBEq, Nat.reduceBNe, Int.reduceAdd, Int.reduceSub, Int.reduceNeg, dcp awake09 rfl, dcp hy (by simp [ipureL, hc.pure]), dcp hq (by simp [ipureL, hm.pure]), dcp hz (by simp [ipureL, hx.pure]), dcp hn (by simp [ipureL, hyl.pure]), dcp ha rfl, dcp hr' (by simp [ipureL, ipure, hz1.pure, hql.pure, bdc_pure]), rs_one _ _ hs.one, he']
    refine keeps_k0 z1 L hz1 hl96 y _ (by simp) K fun J' hf => ?_
    refine keeps_k1 y (cl.take 48) (bd48 cl).h hyl R s (!L.any isStore) J' ?_ (k2 he) _ (by simp) K (fun J2 => hK _ _ (frzE rfl rfl))
    rw [hf.2 2 (by simp) (by simp)]; rfl
  · have he' : ((R.err : Int) != 0) = true := by simp; omega
    obtain ⟨b1, b2, b3, b4⟩ := k1 he
    simp -implicitDefEqProofs only [go_sem, dnW_ite, reduceIte, Nat.reduceAdd, Nat.reduceLeDiff, Nat.reduceMul, Nat.reduceEqDiff, Int.reduceLT, Int.reduceLE, Int.reduceToNat, Nat.reduceSub, Nat.reduceLT, Int.reduceEq, BitVec.reduceOfInt, BitVec.reduceOfNat, Int.reduceGT, Int.reduceGE, Int.reduceBEq, Int.reduceBNe, Nat.reduceGT, Nat.reduceBEq, Nat.reduceBNe, Int.reduceAdd, Int.reduceSub, Int.reduceNeg, dcp awake09 rfl, dcp hy (by simp [ipureL, hc.pure]), dcp hq (by simp [ipureL, hm.pure]), dcp hz (by simp [ipureL, hx.pure]), dcp hn (by simp [ipureL, hyl.pure]), dcp ha rfl, dcp hr' (by simp [ipureL, ipure, hz1.pure, hql.pure, bdc_pure]), rs_one _ _ hs.one, he', b1, b2, b3, eq_one, show ((R.used : Int) ≤ 400) by omega]
    exact hK _ _ (frzE rfl rfl)
end Go.Proofs.Ythihgfkpdbgogaa.G
namespace Go.Proofs.Ythihgfkpdbgogaa.G
open Go
set_option linter.unusedSimpArgs false
set_option linter.unusedVariables false
set_option maxRecDepth 20000
set_option maxHeartbeats 1000000
/-- Cells that one sees alike. -/
def CE (P : BitVec 32 → Bool) (a b : Cl) : Prop := a.s = b.s ∧ (P a.s = true → a.v = b.v)
theorem CE.refl (P) (a : Cl) : CE P a a := ⟨rfl, fun _ => rfl⟩
/-- Boards that one sees alike. -/
def BE (P : BitVec 32 → Bool) (a b : Bd) : Prop := a.l.length = b.l.length ∧ ∀ i : Int, CE P (a.at i) (b.at i)
/-- Shows of like cells, to the like. -/
def SE (a b : List Sh) : Prop := a.map (fun s => (s.cell, s.to)) = b.map (fun s => (s.cell, s.to))
structure ME (P : BitVec 32 → Bool) (m n : Mc) : Prop where
  bd : BE P m.bd n.bd
  touched : m.touched = n.touched
  shows : SE m.shows n.shows
  used : m.used = n.used
  err : m.err = n.err
  r : ∀ i, i < 8 → CE P (m.r.at i) (n.r.at i)
  pc : m.pc = n.pc
/-- Who sees what: what all see one sees; of two labels' meet one sees both. -/
structure PO (P : BitVec 32 → Bool) (all : BitVec 32) : Prop where
  all : ∀ s, within all s = true → P s = true
  meet : ∀ a b, P (a &&& b) = true → P a = true ∧ P b = true
  zero : P 0#32 = false
/-- The environments of both. -/
structure EE (P : BitVec 32 → Bool) (E F : Me) : Prop where
  all : E.all = F.all
  tick : E.tick = F.tick
  moves : ∀ i : Int, P (oneM i) = true → E.moves.getD i.toNat 0 = F.moves.getD i.toNat 0
variable {P : BitVec 32 → Bool} {E F : Me} {m n : Mc}
theorem BE.there {a b : Bd} (h : BE P a b) (i : Int) : a.there i = b.there i := by simp only [Bd.there, h.1]
theorem Bd.at_set (b : Bd) {i : Nat} (hi : i < b.l.length) (c : Cl) (j : Int) : (b.set i c).at j = if j.toNat = i then c else b.at j := by
  simp only [Bd.at, Bd.set, List.getD_eq_getElem?_getD, List.getElem?_set]
  by_cases h : i = j.toNat
  · subst h; simp [hi]
  · simp [h, Ne.symm h]
theorem BE.put {a b : Bd} (h : BE P a b) (i : Int) {c d : Cl} (hc : CE P c d) : BE P (a.put i c) (b.put i d) := by
  refine ⟨by rw [put_len, put_len]; exact h.1, fun j => ?_⟩
  unfold Bd.put
  rw [h.there i]
  by_cases ht : b.there i = true
  · have h1 : i.toNat < b.l.length := by simp [Bd.there] at ht; omega
    rw [if_pos ht, if_pos ht, Bd.at_set _ (by rw [h.1]; exact h1), Bd.at_set _ h1]
    split
    · exact hc
    · exact h.2 j
  · rw [if_neg ht, if_neg ht]; exact h.2 j
theorem BE.show {a b : Bd} (h : BE P a b) (i : Int) {to : BitVec 32} (hc : P ((a.at i).s ||| to) = true → (a.at i).v = (b.at i).v) : BE P (a.show i to) (b.show i to) := by
  refine ⟨by rw [show_len, show_len]; exact h.1, fun j => ?_⟩
  unfold Bd.show
  rw [h.there i]
  by_cases ht : b.there i = true
  · have h1 : i.toNat < b.l.length := by simp [Bd.there] at ht; omega
    rw [if_pos ht, if_pos ht, Bd.at_set _ (by rw [h.1]; exact h1), Bd.at_set _ h1]
    split
    · exact ⟨by show _ ||| to = _ ||| to; rw [(h.2 i).1], hc⟩
    · exact h.2 j
  · rw [if_neg ht, if_neg ht]; exact h.2 j
theorem Rset {r q : Rg} (h : ∀ i, i < 8 → CE P (r.at i) (q.at i)) {k : Nat} (hk : k < 8) {c d : Cl} (hc : CE P c d) : ∀ i, i < 8 → CE P ((r.set k c).at i) ((q.set k d).at i) := by
  intro i hi
  rw [Rg.at_set _ _ _ hk, Rg.at_set _ _ _ hk]
  split
  · exact hc
  · exact h i hi
theorem named_eq (hP : PO P E.all) (hE : EE P E F) (h : ME P m n) (x : Cd) (hb : x.b < 8) : named E m x = named F n x := by
  have hr := h.r x.b hb
  unfold named
  rw [← hE.all, ← hr.1, ← h.bd.1]
  by_cases hw : within E.all (m.r.at x.b).s = false
  · rw [if_pos hw, if_pos hw]
  · rw [if_neg hw, if_neg hw, ← hr.2 (hP.all _ (by simpa using hw))]
theorem bitEq (i : Int) : bit i = bit i := rfl
theorem ME.setR (h : ME P m n) {k : Nat} (hk : k < 8) {c d : Cl} (hc : CE P c d) : ME P { m with r := m.r.set k c } { n with r := n.r.set k d } := ⟨h.bd, h.touched, h.shows, h.used, h.err, Rset h.r hk hc, h.pc⟩
theorem ME.put (h : ME P m n) (i : Int) {c d : Cl} (hc : CE P c d) : ME P { m with bd := m.bd.put i c, touched := m.touched ||| bit i } { n with bd := n.bd.put i d, touched := n.touched ||| bit i } := ⟨h.bd.put i hc, by show _ ||| _ = _ ||| _; rw [h.touched], h.shows, h.used, h.err, h.r, h.pc⟩
theorem CE.z (hz : P 0#32 = false) (a b : Int) : CE P ⟨a, 0#32⟩ ⟨b, 0#32⟩ := ⟨rfl, fun h => by rw [hz] at h; cases h⟩
theorem ME.fill (hz : P 0#32 = false) (start : Nat) (o1 o2 : List Int) : ∀ (k : Nat) (m n : Mc), ME P m n → ME P (fillN m start o1 k) (fillN n start o2 k)
  | 0, m, n, h => h
  | k + 1, m, n, h => (ME.fill hz start o1 o2 k m n h).put _ (CE.z hz _ _)
theorem ME.errs (h : ME P m n) (e : Nat) : ME P { m with err := e } { n with err := e } := ⟨h.bd, h.touched, h.shows, h.used, rfl, h.r, h.pc⟩
theorem SE.app {a b c d : List Sh} (h : SE a b) (k : SE c d) : SE (a ++ c) (b ++ d) := by
  unfold SE at *
  rw [List.map_append, List.map_append, h, k]
/-- What is shown to one is the same. -/
def Tell (P : BitVec 32 → Bool) (a b : List Sh) : Prop := ∀ (i : Nat) (s t : Sh), a[i]? = some s → b[i]? = some t → P s.to = true → s.v = t.v
/-- One sees more by a show alone. -/
def Join' (P : BitVec 32 → Bool) : Prop := ∀ s t, P (s ||| t) = true → P s = true ∨ P t = true
theorem ME.reveal (hP : PO P E.all) (hE : EE P E F) (h : ME P m n) (x : Cd) (hb : x.b < 8) (hj : Join' P) (ht : Tell P (revealF E m x).shows (revealF F n x).shows) : ME P (revealF E m x) (revealF F n x) := by
  have hn := named_eq hP hE h x hb
  unfold revealF at ht ⊢
  rw [← hn] at ht ⊢
  by_cases hk : (named E m x).2.1 = false
  · rw [if_pos hk, if_pos hk]; exact h.errs _
  · rw [if_neg hk, if_neg hk] at ht ⊢
    have hc := h.bd.2 (named E m x).1
    have ho : Sh.one n x F.all (named E m x).1 = Sh.one m x E.all (named E m x).1 := by unfold Sh.one; rw [← hE.all, ← hc.1]
    rw [ho] at ht ⊢
    have hlen : m.shows.length = n.shows.length := by have := congrArg List.length h.shows; simpa using this
    have hv : P (Sh.one m x E.all (named E m x).1) = true → (m.bd.at (named E m x).1).v = (n.bd.at (named E m x).1).v := fun hp => by
      have hz : Sh.one m x E.all (named E m x).1 ≠ 0#32 := fun e => by rw [e, hP.zero] at hp; cases hp
      simp only [if_neg hz] at ht
      have := ht m.shows.length ⟨(named E m x).1, Sh.one m x E.all (named E m x).1, (m.bd.at (named E m x).1).v⟩ ⟨(named E m x).1, Sh.one m x E.all (named E m x).1, (n.bd.at (named E m x).1).v⟩ (by simp) (by rw [hlen]; simp) hp
      exact this
    refine ⟨h.bd.show _ fun hp => ?_, by show _ ||| _ = _ ||| _; rw [h.touched], SE.app h.shows ?_, h.used, rfl, h.r, h.pc⟩
    · rcases hj _ _ hp with hp | hp
      · exact hc.2 hp
      · exact hv hp
    · by_cases hz : Sh.one m x E.all (named E m x).1 = 0#32
      · rw [if_pos hz, if_pos hz]; rfl
      · rw [if_neg hz, if_neg hz]; rfl
theorem ME.reach (hP : PO P E.all) (hE : EE P E F) (h : ME P m n) (x : Cd) (ha : x.a < 8) (hb : x.b < 8) (hj : x.op = 22 → Join' P) (ht : Tell P (reachF E m x).shows (reachF F n x).shows) : ME P (reachF E m x) (reachF F n x) := by
  have hn := named_eq hP hE h x hb
  unfold reachF at ht ⊢
  split
  · rw [← hn]
    split
    · exact h.setR ha (h.bd.2 _)
    · exact h.errs _
  · rw [← hn]
    split
    · exact h.put _ (h.r _ ha)
    · exact h.errs _
  · rename_i hop
    simp only [hop] at ht
    exact ME.reveal hP hE h x hb (hj hop) ht
  · have hd : ME P { m with dice := (shufL m.dice (x.c - 1) (rowV m x.n.toNat x.c)).2 } { n with dice := (shufL n.dice (x.c - 1) (rowV n x.n.toNat x.c)).2 } := ⟨h.bd, h.touched, h.shows, h.used, h.err, h.r, h.pc⟩
    exact ME.fill hP.zero _ _ _ _ _ _ hd
  · exact h
theorem CE.meet (hP : PO P E.all) {a b c d : Cl} (h : CE P a b) (k : CE P c d) (f : Int → Int → Int) : CE P ⟨f a.v c.v, a.s &&& c.s⟩ ⟨f b.v d.v, b.s &&& d.s⟩ := by
  refine ⟨by show a.s &&& c.s = b.s &&& d.s; rw [h.1, k.1], fun hp => ?_⟩
  obtain ⟨h1, h2⟩ := hP.meet _ _ hp
  show f a.v c.v = f b.v d.v
  rw [h.2 h1, k.2 h2]
theorem ME.follow (hP : PO P E.all) (hE : EE P E F) (h : ME P m n) (x : Cd) (ha : x.a < 8) (hb : x.b < 8) (hj : x.op = 22 → Join' P) (ht : Tell P (followF E m x).shows (followF F n x).shows) : ME P (followF E m x) (followF F n x) := by
  have hg : ME P m.go n.go := ⟨h.bd, h.touched, h.shows, h.used, h.err, h.r, by show m.pc + 1 = n.pc + 1; rw [h.pc]⟩
  have hc8 : x.c % 8 < 8 := by omega
  unfold followF at ht ⊢
  simp only at ht ⊢
  split
  · exact hg.setR ha (by rw [hE.all]; exact CE.refl _ _)
  · exact hg.setR ha (hg.bd.2 _)
  · exact hg.put _ (hg.r _ ha)
  · refine hg.setR ha ⟨?_, fun hp => ?_⟩
    · show _ &&& _ &&& _ = _ &&& _ &&& _
      rw [(hg.r _ ha).1, (hg.r _ hb).1, (hg.r _ hc8).1]
    · obtain ⟨h1, h2⟩ := hP.meet _ _ hp
      obtain ⟨h3, h4⟩ := hP.meet _ _ h1
      show (if _ then _ else _) = (if _ then _ else _)
      rw [(hg.r _ ha).2 h3, (hg.r _ hb).2 h4, (hg.r _ hc8).2 h2]
  · rw [← hE.all, ← (hg.r _ ha).1]
    by_cases hw : within E.all (m.go.r.at x.a).s = true
    · rw [if_pos hw, if_pos hw, ← (hg.r _ ha).2 (hP.all _ hw)]
      split
      · exact ⟨hg.bd, hg.touched, hg.shows, hg.used, hg.err, hg.r, rfl⟩
      · exact hg
    · rw [if_neg hw, if_neg hw]; exact hg.errs _
  · exact ⟨hg.bd, hg.touched, hg.shows, hg.used, hg.err, hg.r, rfl⟩
  · exact hg.setR ha ⟨rfl, fun hp => hE.moves _ hp⟩
  · have := hg.setR ha (CE.z hP.zero (below m.go.dice x.n) (below n.go.dice x.n))
    exact ⟨this.bd, this.touched, this.shows, this.used, this.err, this.r, this.pc⟩
  · exact hg.setR ha (by rw [hE.all, hE.tick]; exact CE.refl _ _)
  · rename_i hop; simp only [hop] at ht; exact ME.reach hP hE hg x ha hb hj ht
  · rename_i hop; simp only [hop] at ht; exact ME.reach hP hE hg x ha hb hj ht
  · rename_i hop; simp only [hop] at ht; exact ME.reach hP hE hg x ha hb hj ht
  · rename_i hop; simp only [hop] at ht; exact ME.reach hP hE hg x ha hb hj ht
  · exact hg.setR ha (CE.meet hP (hg.r _ hb) (hg.r _ hc8) _)
end Go.Proofs.Ythihgfkpdbgogaa.G
namespace Go.Proofs.Ythihgfkpdbgogaa.G
open Go
set_option linter.unusedSimpArgs false
set_option linter.unusedVariables false
set_option maxRecDepth 20000
set_option maxHeartbeats 1000000
variable {P : BitVec 32 → Bool} {E F : Me} {m n : Mc}
theorem Tell.pre {P : BitVec 32 → Bool} {a b c d : List Sh} (h : Tell P (a ++ c) (b ++ d)) : Tell P a b := by
  intro i s t h1 h2 h3
  refine h i s t ?_ ?_ h3
  · rw [List.getElem?_append_left (by have := List.getElem?_eq_some_iff.1 h1; exact this.1)]; exact h1
  · rw [List.getElem?_append_left (by have := List.getElem?_eq_some_iff.1 h2; exact this.1)]; exact h2
theorem fillN_shows (a k : Nat) (out : List Int) : ∀ (j : Nat) (m : Mc), (fillN m a out j).shows = m.shows := fun j m => (fillN_same a out j m).2.2.1
theorem reachF_shows (E : Me) (m : Mc) (x : Cd) : ∃ c, (reachF E m x).shows = m.shows ++ c := by
  unfold reachF
  split
  · split
    · exact ⟨[], (List.append_nil _).symm⟩
    · exact ⟨[], (List.append_nil _).symm⟩
  · split
    · exact ⟨[], (List.append_nil _).symm⟩
    · exact ⟨[], (List.append_nil _).symm⟩
  · unfold revealF; split
    · exact ⟨[], (List.append_nil _).symm⟩
    · exact ⟨_, rfl⟩
  · have := fillN_same x.n.toNat (shufL m.dice (x.c - 1) (rowV m x.n.toNat x.c)).1 x.c { m with dice := (shufL m.dice (x.c - 1) (rowV m x.n.toNat x.c)).2 }
    refine ⟨[], ?_⟩
    rw [List.append_nil, shuffleF]
    simp_all
  · exact ⟨[], (List.append_nil _).symm⟩
theorem followF_shows (E : Me) (m : Mc) (x : Cd) : ∃ c, (followF E m x).shows = m.shows ++ c := by
  unfold followF
  simp only
  split <;> first | exact ⟨[], (List.append_nil _).symm⟩ | exact reachF_shows E m.go x | skip
  split
  · split <;> exact ⟨[], (List.append_nil _).symm⟩
  · exact ⟨[], (List.append_nil _).symm⟩
theorem loopF_shows (E : Me) (l : List Cd) : ∀ (k : Nat) (m : Mc), ∃ c, (loopF E l k m).shows = m.shows ++ c
  | 0, m => by
    rw [loopF]; split
    · exact ⟨[], (List.append_nil _).symm⟩
    · exact ⟨[], (List.append_nil _).symm⟩
  | k + 1, m => by
    rw [loopF]
    split
    · split
      · exact ⟨[], (List.append_nil _).symm⟩
      · obtain ⟨c, hc⟩ := loopF_shows E l k (followF E { m with used := m.used + 1 } (l.getD m.pc ⟨0, 0, 0, 0, 0, 0⟩))
        obtain ⟨d, hd⟩ := followF_shows E { m with used := m.used + 1 } (l.getD m.pc ⟨0, 0, 0, 0, 0, 0⟩)
        refine ⟨d ++ c, ?_⟩
        rw [hc, hd, List.append_assoc]
    · exact ⟨[], (List.append_nil _).symm⟩
theorem ME.loop (hP : PO P E.all) (hE : EE P E F) (l : List Cd) (ha : ∀ x ∈ l, x.a < 8 ∧ x.b < 8) (hj : (∃ x ∈ l, x.op = 22) → Join' P) : ∀ (k : Nat) (m n : Mc), ME P m n → Tell P (loopF E l k m).shows (loopF F l k n).shows → ME P (loopF E l k m) (loopF F l k n)
  | 0, m, n, h, ht => by
    have hc2 : (n.err = 0 ∧ n.pc < l.length) ↔ (m.err = 0 ∧ m.pc < l.length) := by rw [h.err, h.pc]
    rw [loopF, loopF]
    by_cases hc : m.err = 0 ∧ m.pc < l.length
    · rw [if_pos hc, if_pos (hc2.2 hc)]; exact h.errs _
    · rw [if_neg hc, if_neg (fun q => hc (hc2.1 q))]; exact h
  | k + 1, m, n, h, ht => by
    have hc2 : (n.err = 0 ∧ n.pc < l.length) ↔ (m.err = 0 ∧ m.pc < l.length) := by rw [h.err, h.pc]
    rw [loopF, loopF] at ht ⊢
    by_cases hc : m.err = 0 ∧ m.pc < l.length
    · rw [if_pos hc, if_pos (hc2.2 hc)] at ht ⊢
      have hm := List.getElem_mem hc.2
      have hx : l.getD m.pc ⟨0, 0, 0, 0, 0, 0⟩ = l[m.pc] := by simp [hc.2]
      have hy : l.getD n.pc ⟨0, 0, 0, 0, 0, 0⟩ = l[m.pc] := by rw [← h.pc, hx]
      rw [hx, hy] at ht ⊢
      have hu : ME P { m with used := m.used + 1 } { n with used := n.used + 1 } := ⟨h.bd, h.touched, h.shows, by show m.used + 1 = n.used + 1; rw [h.used], h.err, h.r, h.pc⟩
      by_cases h0 : l[m.pc].op = 0
      · rw [if_pos h0, if_pos h0]; exact hu
      · rw [if_neg h0, if_neg h0] at ht ⊢
        have ht' := ht
        obtain ⟨c, hc1⟩ := loopF_shows E l k (followF E { m with used := m.used + 1 } l[m.pc])
        obtain ⟨d, hd1⟩ := loopF_shows F l k (followF F { n with used := n.used + 1 } l[m.pc])
        rw [hc1, hd1] at ht'
        exact ME.loop hP hE l ha hj k _ _ (hu.follow hP hE l[m.pc] (ha _ hm).1 (ha _ hm).2 (fun e => hj ⟨_, hm, e⟩) ht'.pre) ht
    · rw [if_neg hc, if_neg (fun q => hc (hc2.1 q))]; exact h
theorem ME.start (hE : EE P E F) {b c : Bd} (h : BE P b c) (d e : Int) : ME P (Go.Proofs.Ythihgfkpdbgogaa.G.start E b d) (Go.Proofs.Ythihgfkpdbgogaa.G.start F c e) :=
  ⟨h, rfl, rfl, rfl, rfl, fun i _ => by show CE P ((regs0 E.all).at i) ((regs0 F.all).at i); rw [hE.all]; exact CE.refl _ _, rfl⟩
/-- Two runs. -/
structure RE (P : BitVec 32 → Bool) (r s : Rs) : Prop where
  bd : BE P r.bd s.bd
  touched : r.touched = s.touched
  shows : SE r.shows s.shows
  used : r.used = s.used
  err : r.err = s.err
theorem RE.run (hP : PO P E.all) (hE : EE P E F) (hl : E.moves.length = F.moves.length) (l : List Cd) (hj : (∃ x ∈ l, x.op = 22) → Join' P) {b c : Bd} (h : BE P b c) (d e : Int) (ht : Tell P (runF E l b d).shows (runF F l c e).shows) : RE P (runF E l b d) (runF F l c e) := by
  unfold runF at ht ⊢
  rw [← hl, ← h.1] at ht ⊢
  by_cases hR : rightL l b.l.length E.moves.length = false
  · rw [if_pos hR, if_pos hR]; exact ⟨h, rfl, rfl, rfl, rfl⟩
  · rw [if_neg hR, if_neg hR] at ht ⊢
    have hall : ∀ x ∈ l, x.a < 8 ∧ x.b < 8 := fun x hx => by
      have h2 : l.length ≤ 96 ∧ ∀ x ∈ l, x.right l.length b.l.length E.moves.length = true := by simpa [rightL] using hR
      exact (right_ab (h2.2 x hx)).2
    have hk := fun g => ME.loop hP hE l hall hj 400 _ _ (ME.start hE h d e) g
    have he : (loopF E l 400 (Go.Proofs.Ythihgfkpdbgogaa.G.start E b d)).shows = (if (loopF E l 400 (Go.Proofs.Ythihgfkpdbgogaa.G.start E b d)).err ≠ 0 then (⟨b, d, 0#64, (loopF E l 400 (Go.Proofs.Ythihgfkpdbgogaa.G.start E b d)).shows, (loopF E l 400 (Go.Proofs.Ythihgfkpdbgogaa.G.start E b d)).used, (loopF E l 400 (Go.Proofs.Ythihgfkpdbgogaa.G.start E b d)).err⟩ : Rs) else ⟨(loopF E l 400 (Go.Proofs.Ythihgfkpdbgogaa.G.start E b d)).bd, (loopF E l 400 (Go.Proofs.Ythihgfkpdbgogaa.G.start E b d)).dice, (loopF E l 400 (Go.Proofs.Ythihgfkpdbgogaa.G.start E b d)).touched, (loopF E l 400 (Go.Proofs.Ythihgfkpdbgogaa.G.start E b d)).shows, (loopF E l 400 (Go.Proofs.Ythihgfkpdbgogaa.G.start E b d)).used, 0⟩).shows := by split <;> rfl
    have hf : (loopF F l 400 (Go.Proofs.Ythihgfkpdbgogaa.G.start F c e)).shows = (if (loopF F l 400 (Go.Proofs.Ythihgfkpdbgogaa.G.start F c e)).err ≠ 0 then (⟨c, e, 0#64, (loopF F l 400 (Go.Proofs.Ythihgfkpdbgogaa.G.start F c e)).shows, (loopF F l 400 (Go.Proofs.Ythihgfkpdbgogaa.G.start F c e)).used, (loopF F l 400 (Go.Proofs.Ythihgfkpdbgogaa.G.start F c e)).err⟩ : Rs) else ⟨(loopF F l 400 (Go.Proofs.Ythihgfkpdbgogaa.G.start F c e)).bd, (loopF F l 400 (Go.Proofs.Ythihgfkpdbgogaa.G.start F c e)).dice, (loopF F l 400 (Go.Proofs.Ythihgfkpdbgogaa.G.start F c e)).touched, (loopF F l 400 (Go.Proofs.Ythihgfkpdbgogaa.G.start F c e)).shows, (loopF F l 400 (Go.Proofs.Ythihgfkpdbgogaa.G.start F c e)).used, 0⟩).shows := by split <;> rfl
    rw [← he, ← hf] at ht
    have hM := hk ht
    rw [← hM.err]
    split
    · exact ⟨h, rfl, hM.shows, hM.used, rfl⟩
    · exact ⟨hM.bd, hM.touched, hM.shows, hM.used, rfl⟩
theorem fillN_pre : True := trivial
/-- Without a reveal nothing is shown. -/
theorem reachF_none (E : Me) (m : Mc) (x : Cd) (h : x.op ≠ 22) : (reachF E m x).shows = m.shows := by
  unfold reachF
  split
  · split <;> rfl
  · split <;> rfl
  · rename_i ho; exact absurd ho h
  · have := fillN_same x.n.toNat (shufL m.dice (x.c - 1) (rowV m x.n.toNat x.c)).1 x.c { m with dice := (shufL m.dice (x.c - 1) (rowV m x.n.toNat x.c)).2 }
    rw [shuffleF]
    simp_all
  · rfl
theorem followF_none (E : Me) (m : Mc) (x : Cd) (h : x.op ≠ 22) : (followF E m x).shows = m.shows := by
  unfold followF
  simp only
  split <;> first | rfl | exact reachF_none E m.go x h | skip
  split
  · split <;> rfl
  · rfl
theorem loopF_none (E : Me) (l : List Cd) (hl : ∀ x ∈ l, x.op ≠ 22) : ∀ (k : Nat) (m : Mc), (loopF E l k m).shows = m.shows
  | 0, m => by
    rw [loopF]; split <;> rfl
  | k + 1, m => by
    rw [loopF]
    split
    · rename_i hc
      have hm := List.getElem_mem hc.2
      have hx : l.getD m.pc ⟨0, 0, 0, 0, 0, 0⟩ = l[m.pc] := by simp [hc.2]
      rw [hx]
      split
      · rfl
      · rw [loopF_none E l hl k, followF_none _ _ _ (hl _ hm)]
    · rfl
theorem runF_none (E : Me) (l : List Cd) (hl : ∀ x ∈ l, x.op ≠ 22) (b : Bd) (d : Int) : (runF E l b d).shows = [] := by
  unfold runF
  split
  · rfl
  · split
    · exact loopF_none E l hl 400 _
    · exact loopF_none E l hl 400 _
theorem bdB_labels {a b : Bd} (h : BE P a b) : bdB false a.l = bdB false b.l := by
  unfold bdB
  have : a.l.map Cl.s = b.l.map Cl.s := by
    apply List.ext_getElem
    · simp [h.1]
    · intro i h1 h2
      have := (h.2 (i : Int)).1
      simp only [List.length_map] at h1 h2
      simpa [Bd.at, List.getD_eq_getElem?_getD, h1, h2] using this
  have e : ∀ l : List Cl, l.flatMap (cellB false) = (l.map Cl.s).flatMap leW := fun l => by
    induction l with
    | nil => rfl
    | cons c l ih => simp only [List.flatMap_cons, List.map_cons, ih]; rfl
  rw [e, e, this]
theorem BE.labels {a b : Bd} (h : BE P a b) : sumB false a = sumB false b := by
  unfold sumB; rw [bdB_labels h]
end Go.Proofs.Ythihgfkpdbgogaa.G
namespace Go.Proofs.Ythihgfkpdbgogaa.G
open Go
set_option linter.unusedSimpArgs false
set_option linter.unusedVariables false
set_option maxRecDepth 20000
set_option maxHeartbeats 1000000
/-- The cells of a list, laid out. -/
def clL (X : List Cl) : List IV := (X.map Cl.c).flatten
theorem clL_len (X : List Cl) : (clL X).length = X.length * 2 := by rw [clL, flat_len (cl2 X), List.length_map]
theorem clL_at (X : List Cl) {i : Nat} (h : i < X.length) : ((clL X).drop (i * 2)).take 2 = X[i].c := by
  have := flat_at (rest := []) (cl2 X) (i := i) (by simpa using h)
  rw [List.append_nil] at this
  rw [clL, this]; simp
theorem clL_at1 (X : List Cl) {i k : Nat} (h : i < X.length) (hk : k < 2) : ((clL X).drop (i * 2 + k)).take 1 = [X[i].c[k]'hk] := by
  have := flat_at1 (rest := []) (cl2 X) (i := i) (k := k) (by simpa using h) (by simp [Cl.c]; omega)
  rw [List.append_nil] at this
  rw [clL, this]; simp only [List.getElem_map]; rfl
theorem clL_v (X : List Cl) {i : Nat} (h : i < X.length) : ((clL X).drop (i * 2)).take 1 = [.int .i32 X[i].v] := clL_at1 X h (k := 0) (by omega)
theorem clL_s (X : List Cl) {i : Nat} (h : i < X.length) : ((clL X).drop (i * 2 + 1)).take 1 = [m32 X[i].s] := clL_at1 X h (k := 1) (by omega)
theorem clL_splice (X : List Cl) {i k : Nat} (vs : List IV) (h : i < X.length) (hk : k + vs.length ≤ 2) (c : Cl) (hc : isplice X[i].c k vs = c.c) : isplice (clL X) (i * 2 + k) vs = clL (X.set i c) := by
  have e := flat_splice (rest := []) (cl2 X) (i := i) (k := k) (vs := vs) (by simpa using h) hk
  simp only [List.append_nil, List.getElem_map] at e
  rw [clL, e, hc, clL, List.map_set]
theorem clL_setv (X : List Cl) {i : Nat} (h : i < X.length) (v : Int) : isplice (clL X) (i * 2) [.int .i32 v] = clL (X.set i ⟨v, X[i].s⟩) := clL_splice X (k := 0) _ h (by simp) ⟨v, X[i].s⟩ rfl
theorem clL_sets (X : List Cl) {i : Nat} (h : i < X.length) (s : BitVec 32) : isplice (clL X) (i * 2 + 1) [m32 s] = clL (X.set i ⟨X[i].v, s⟩) := clL_splice X (k := 1) _ h (by simp) ⟨X[i].v, s⟩ rfl
theorem clL_pure (X : List Cl) : ipureL (clL X) = true := cl_pure X
theorem clL_one (X : List Cl) : (clL X).all ione = true := flat_one X
/-- A list of cells of one's own. -/
def RawC (J : JH) (s : IV) (X : List Cl) : Prop := (X = [] ∧ s = .lst 2 true []) ∨ (X ≠ [] ∧ ∃ b, s = .sl b 0 0 X.length (UNK + 2) 2 ∧ J[b]? = some (.cells 0 (clL X) false))
theorem Clip.raw {J J' : JH} {s : IV} {X : List Cl} (h : Clip J J' s 2 (X.map Cl.c)) : RawC J' s X := by
  rcases h with ⟨h, rfl, _⟩ | ⟨h, rfl, rfl⟩
  · exact .inl ⟨List.map_eq_nil_iff.1 h, rfl⟩
  · refine .inr ⟨fun e => h (by rw [e]; rfl), J.size, by rw [List.length_map], by rw [push_get]; rfl⟩
theorem Clip.new {J J' : JH} {s : IV} {sz : Nat} {X : List (List IV)} (h : Clip J J' s sz X) : ∀ d ∈ blk s, J.size ≤ d := by
  rcases h with ⟨_, rfl, _⟩ | ⟨_, rfl, _⟩ <;> simp [blk, blkOf]
theorem RawC.fr {J J' : JH} {s : IV} {X : List Cl} {S : List Nat} (h : RawC J s X) (hf : Fr J J' S) (hs : ∀ d ∈ blk s, d ∉ S) : RawC J' s X := by
  rcases h with h | ⟨h, b, rfl, hb⟩
  · exact .inl h
  · exact .inr ⟨h, b, rfl, by rw [hf.2 b (lt_get hb) (hs b (by simp [blk, blkOf]))]; exact hb⟩
theorem RawC.low {J : JH} {s : IV} {X : List Cl} (h : RawC J s X) : ∀ d ∈ blk s, d < J.size := by
  rcases h with ⟨_, rfl⟩ | ⟨_, b, rfl, hb⟩
  · simp [blk, blkOf]
  · intro d hd; simp [blk, blkOf] at hd; subst hd; exact lt_get hb
theorem RawC.lenF {J : JH} {s : IV} {X : List Cl} (h : RawC J s X) (J2 : JH) : Go.Proofs.Ythihgfkpdbgogaa.G.lenF false s J2 = some (nI X.length, J2) := by
  rcases h with ⟨rfl, rfl⟩ | ⟨_, _, rfl, _⟩ <;> rfl
theorem RawC.get {J : JH} {s : IV} {X : List Cl} (h : RawC J s X) {i : Nat} (hi : i < X.length) : ∃ b, s = .sl b 0 0 X.length (UNK + 2) 2 ∧ J[b]? = some (.cells 0 (clL X) false) := by
  rcases h with ⟨rfl, _⟩ | h
  · cases hi
  · exact h.2
theorem RawC.frz {J : JH} {s : IV} {X : List Cl} (h : RawC J s X) : ∃ u, (∀ k, Go.Proofs.Ythihgfkpdbgogaa.G.frz J (k + 1) s = some u) ∧ Ls 2 u (X.map Cl.e) := by
  rcases h with ⟨rfl, rfl⟩ | ⟨hne, b, rfl, hb⟩
  · exact ⟨_, fun k => frz_pure _ _ rfl, .lst⟩
  · have hl : X.length = (X.map Cl.c).length := by simp
    have hr : ird J b 0 0 (X.length * 2) = some (X.map Cl.c).flatten := by
      simp only [ird, hb, true_and, Nat.zero_add, List.drop_zero]
      rw [if_pos (by rw [clL_len]; exact Nat.le_refl _), List.take_of_length_le (by rw [clL_len]; exact Nat.le_refl _)]; rfl
    refine ⟨_, fun k => frz_sl (by decide) hr (cl_pure X) (flat_one X), ?_⟩
    rw [hl, grp_flat (cl2 X), cl_mk]; exact .lst
theorem RawC.shows {J : JH} {s : IV} {X : List Cl} (h : RawC J s X) : ∀ d ∈ Go.Proofs.Ythihgfkpdbgogaa.G.shows J DEP s, d ∈ blk s := by
  rcases h with ⟨rfl, rfl⟩ | ⟨hne, b, rfl, hb⟩
  · intro d hd; rw [shows_pure J DEP rfl] at hd; cases hd
  · intro d hd
    have hr : ird J b 0 0 (X.length * 2) = some (clL X) := by
      simp only [ird, hb, true_and, Nat.zero_add, List.drop_zero]
      rw [if_pos (by rw [clL_len]; exact Nat.le_refl _), List.take_of_length_le (by rw [clL_len]; exact Nat.le_refl _)]
    rw [frz12, shows_sl hr (clL_pure X)] at hd
    exact hd
theorem few_raw (x : IV) (l : List Cl) (hx : Ls 2 x (l.map Cl.e)) (hb : l.length ≤ 9223372036854775807) (J : JH) : RP (ic BI F_law09_few [x] J) fun s J' => Clip J J' s 2 ((l.take 48).map Cl.c) := by
  refine RP_run fn_law09_few rfl fun K hK => ?_
  obtain ⟨y, hy, hyl⟩ := hx.slice (h := min l.length 48) (by simp; omega)
  have hm : min (l.length : Int) 48 = ((min l.length 48 : Nat) : Int) := by omega
  unfold l_law09_few
  simp -implicitDefEqProofs only [go_sem, dnW_ite, reduceIte, Nat.reduceAdd, Nat.reduceLeDiff, Nat.reduceMul, Nat.reduceEqDiff, Int.reduceLT, Int.reduceLE, Int.reduceToNat, Nat.reduceSub, Nat.reduceLT, Int.reduceEq, BitVec.reduceOfInt, BitVec.reduceOfNat, Int.reduceGT, Int.reduceGE, Int.reduceBEq, Int.reduceBNe, Nat.reduceGT, Nat.reduceBEq, Nat.reduceBNe, Int.reduceAdd, Int.reduceSub, Int.reduceNeg, hx.lenF, List.length_map, ipureL, grp, hm, hy]
  have hyl' : Ls 2 y (((l.take 48).map Cl.c).map (mkE 2)) := by
    rw [cl_mk, List.map_take]
    have : (l.map Cl.e).take (min l.length 48) = (l.map Cl.e).take 48 := by
      rw [show min l.length 48 = min 48 (l.map Cl.e).length by simp; omega, ← List.take_eq_take_min]
    rw [← this]; exact hyl
  refine WP_bind (app_clip hyl' (by decide) (cl2 _) (flat_one _) (fits8 (by simp; omega))) fun s J' hs => ?_
  simp -implicitDefEqProofs only [go_sem, dnW_ite, reduceIte, Nat.reduceAdd, Nat.reduceLeDiff, Nat.reduceMul, Nat.reduceEqDiff, Int.reduceLT, Int.reduceLE, Int.reduceToNat, Nat.reduceSub, Nat.reduceLT, Int.reduceEq, BitVec.reduceOfInt, BitVec.reduceOfNat, Int.reduceGT, Int.reduceGE, Int.reduceBEq, Int.reduceBNe, Nat.reduceGT, Nat.reduceBEq, Nat.reduceBNe, Int.reduceAdd, Int.reduceSub, Int.reduceNeg]
  exact hK _ _ hs
theorem few_raw2 {J : JH} {s : IV} {X : List Cl} (h : RawC J s X) (hX : X.length ≤ 48) : RP (ic BI F_law09_few [s] J) fun s' J' => Clip J J' s' 2 (X.map Cl.c) := by
  rcases h with ⟨rfl, rfl⟩ | ⟨hne, b, rfl, hb⟩
  · exact few_raw _ [] .lst (by simp) J
  · refine RP_run fn_law09_few rfl fun K hK => ?_
    have hm : min (X.length : Int) 48 = (X.length : Int) := by omega
    unfold l_law09_few
    have hr : ird J b 0 0 (X.length * 2) = some (clL X) := by
      simp only [ird, hb, true_and, Nat.zero_add, List.drop_zero]
      rw [if_pos (by rw [clL_len]; exact Nat.le_refl _), List.take_of_length_le (by rw [clL_len]; exact Nat.le_refl _)]
    have h0 : X.length ≠ 0 := fun e => hne (List.eq_nil_of_length_eq_zero e)
    have hs : sliceF 2 (.sl b 0 0 X.length (UNK + 2) 2) none (some (nI X.length)) none J = some (.sl b 0 0 X.length (UNK + 2) 2, J) := by
      simp [sliceF, islice, ibnd, iasNat, asNat, capOf, ilift]
    have ha : appF 2 8 (.lst 2 true []) (.sl b 0 0 X.length (UNK + 2) 2) J = some (.sl J.size 0 0 X.length (UNK + 2) 2, J.push (.cells 0 (clL X) false)) := by
      have hone := clL_one X
      have hfit : fits X.length 8 = true := fits8 (by omega)
      simp [appF, iappend, iscells, hr, ilen, h0, hone, hfit]
    simp -implicitDefEqProofs only [go_sem, dnW_ite, reduceIte, Nat.reduceAdd, Nat.reduceLeDiff, Nat.reduceMul, Nat.reduceEqDiff, Int.reduceLT, Int.reduceLE, Int.reduceToNat, Nat.reduceSub, Nat.reduceLT, Int.reduceEq, BitVec.reduceOfInt, BitVec.reduceOfNat, Int.reduceGT, Int.reduceGE, Int.reduceBEq, Int.reduceBNe, Nat.reduceGT, Nat.reduceBEq, Nat.reduceBNe, Int.reduceAdd, Int.reduceSub, Int.reduceNeg, ipureL, grp, hm, ↓hs, ↓ha]
    exact hK _ _ (.inr ⟨by simpa using hne, by simp [itup], rfl⟩)
/-- Cells whose values are others. -/
def chgL (p : Cl → Bool) (vs : List Int) (X : List Cl) (i : Nat) : List Cl := X.mapIdx fun j c => if j < i ∧ j < vs.length ∧ p c = true then ⟨vs.getD j 0, c.s⟩ else c
theorem chg_len (p vs X i) : (chgL p vs X i).length = X.length := by simp [chgL]
theorem chg_0 (p vs X) : chgL p vs X 0 = X := by
  apply List.ext_getElem <;> simp [chgL]
theorem chg_at (p vs X) {i : Nat} (h : i < X.length) : (chgL p vs X i)[i]'(by rw [chg_len]; exact h) = X[i] := by simp [chgL]
theorem chg_skip (p vs X) {i : Nat} (h : i < X.length) (hn : ¬ (i < vs.length ∧ p X[i] = true)) : chgL p vs X (i + 1) = chgL p vs X i := by
  apply List.ext_getElem
  · simp [chgL]
  · intro j h1 h2
    simp only [chgL, List.getElem_mapIdx]
    have : (j < i + 1 ∧ j < vs.length ∧ p (X[j]'(by simpa [chgL] using h1)) = true) ↔ (j < i ∧ j < vs.length ∧ p (X[j]'(by simpa [chgL] using h1)) = true) := by
      constructor
      · rintro ⟨a, b⟩
        refine ⟨?_, b⟩
        by_cases e : j = i
        · subst e; exact absurd b hn
        · omega
      · rintro ⟨a, b⟩; exact ⟨by omega, b⟩
    simp only [this]
theorem chg_step (p vs X) {i : Nat} (h : i < X.length) (hv : i < vs.length) (hp : p X[i] = true) : chgL p vs X (i + 1) = (chgL p vs X i).set i ⟨vs[i], X[i].s⟩ := by
  apply List.ext_getElem
  · simp [chgL]
  · intro j h1 h2
    rw [List.getElem_set]
    simp only [chgL, List.getElem_mapIdx]
    by_cases e : i = j
    · subst e; simp [hv, hp]
    · have : (j < i + 1) = (j < i) := by apply propext; omega
      simp only [if_neg e, this]
theorem chg_BE {P : BitVec 32 → Bool} (p vs) {X : List Cl} (i : Nat) (hp : ∀ c ∈ X, p c = true → P c.s = false) (h1 h2) : BE P ⟨X, h1⟩ ⟨chgL p vs X i, h2⟩ := by
  refine ⟨(chg_len p vs X i).symm, fun j => ?_⟩
  simp only [Bd.at, List.getD_eq_getElem?_getD]
  by_cases hj : j.toNat < X.length
  · rw [List.getElem?_eq_getElem hj, List.getElem?_eq_getElem (by rw [chg_len]; exact hj)]
    simp only [chgL, List.getElem_mapIdx, Option.getD_some]
    split
    · rename_i hc
      refine ⟨rfl, fun h => ?_⟩
      have := hp _ (List.getElem_mem hj) hc.2.2
      rw [this] at h; cases h
    · exact CE.refl _ _
  · rw [List.getElem?_eq_none (by omega), List.getElem?_eq_none (by rw [chg_len]; omega)]
    exact CE.refl _ _
theorem chg_I32 {p vs} {X : List Cl} (hX : ∀ c ∈ X, I32 c.v) (hv : ∀ v ∈ vs, I32 v) (i : Nat) : ∀ c ∈ chgL p vs X i, I32 c.v := by
  intro c hc
  obtain ⟨j, hj, rfl⟩ := List.mem_iff_getElem.1 hc
  simp only [chgL, List.getElem_mapIdx]
  split
  · rename_i h
    show I32 (vs.getD j 0)
    rw [List.getD_eq_getElem?_getD, List.getElem?_eq_getElem h.2.1]
    exact hv _ (List.getElem_mem _)
  · exact hX _ (List.getElem_mem _)
end Go.Proofs.Ythihgfkpdbgogaa.G
namespace Go.Proofs.Ythihgfkpdbgogaa.G
open Go
set_option linter.unusedSimpArgs false
set_option linter.unusedVariables false
set_option maxRecDepth 20000
set_option maxHeartbeats 2000000
theorem NewX (y : IV) (X : List Cl) (hX : X.length ≤ 48) (hy : Ls 2 y (X.map Cl.e)) : pc BI F_board_New [y] = some (.tup [.agg (bdc ⟨X, hX⟩), .int .i64 0]) := by
  have := New_ok y X hy (by omega)
  rw [if_pos hX, show Bd.new X = ⟨X, hX⟩ from dif_pos hX] at this
  exact this
theorem push_setM {α : Type} (J : Array α) (A B C Y : α) : (((J.push A).push B).push C).setIfInBounds (J.size + 1) Y = ((J.push A).push Y).push C := by
  rcases J with ⟨l⟩
  simp
theorem labels_k0 (z c x mv p0 p1 : IV) (all : BitVec 32) (vals : List Int) (hx : Ls 1 x (vals.map (IV.int .i32))) (X : List Cl) (hX : X.length ≤ 48) (m : IV) (J : JH) (hm : RawC J m X) (b : L) (K : Out IV → JH → Prop)
    (hK : ∀ J', Fr J J' (blk m) → RawC J' m (chgL (fun c => !within all c.s) vals X X.length) → WP (dn BI b [z, c, mv, p0, p1, m32 all, m] J') K) :
    WP (onJoinD 0 (iter (dn BI l_law09_VmLabels_k0) 1 [z, c, x, mv, p0, p1, m32 all, m, nI X.length, nI 0] J) b) K := by
  refine WP_range (by decide) X.length (fun i vs J' => vs = [z, c, x, mv, p0, p1, m32 all, m, nI X.length, nI i] ∧ Fr J J' (blk m) ∧ RawC J' m (chgL (fun c => !within all c.s) vals X i)) ?_ ⟨rfl, .refl _ _, by rw [chg_0]; exact hm⟩
  rintro i vs J1 ⟨rfl, hf, hr⟩ hi K1 g1 g2 g3
  unfold l_law09_VmLabels_k0
  by_cases h : i < X.length
  · have hw1 := wrapS h (show X.length ≤ 9223372036854775807 by omega)
    by_cases hv : i < vals.length
    · have hat := fun J => hx.at (i := i) (by simpa using hv) (J := J)
      simp only [List.getElem_map] at hat
      obtain ⟨b, eb, hb⟩ := hr.get (i := i) (by rw [chg_len]; exact h)
      rw [chg_len] at eb
      subst eb
      have hM := chg_at (fun c => !within all c.s) vals X h
      have hl : (clL (chgL (fun c => !within all c.s) vals X i)).length = X.length * 2 := by rw [clL_len, chg_len]
      have hs : ((clL (chgL (fun c => !within all c.s) vals X i)).drop (i * 2 + 1)).take 1 = [m32 X[i].s] := by rw [clL_s _ (by rw [chg_len]; exact h), hM]
      cases hw : within all X[i].s with
      | true =>
        simp -implicitDefEqProofs only [go_sem, dnW_ite, reduceIte, Nat.reduceAdd, Nat.reduceLeDiff, Nat.reduceMul, Nat.reduceEqDiff, Int.reduceLT, Int.reduceLE, Int.reduceToNat, Nat.reduceSub, Nat.reduceLT, Int.reduceEq, BitVec.reduceOfInt, BitVec.reduceOfNat, Int.reduceGT, Int.reduceGE, Int.reduceBEq, Int.reduceBNe, Nat.reduceGT, Nat.reduceBEq, Nat.reduceBNe, Int.reduceAdd, Int.reduceSub, Int.reduceNeg, show ((i : Int) < (X.length : Int)) by omega, show ((i : Int) < (vals.length : Int)) by omega, hx.lenF, List.length_map, h, hb, hl, hs, hat, show i * 2 + 2 ≤ X.length * 2 by omega, dcp (Within_ok all X[i].s) rfl, hw, hw1]
        refine g1 h _ _ ⟨rfl, hf, ?_⟩
        rw [chg_skip _ _ _ h (by simp [hw])]; exact hr
      | false =>
        have hset : isplice (clL (chgL (fun c => !within all c.s) vals X i)) (i * 2) [.int .i32 vals[i]] = clL (chgL (fun c => !within all c.s) vals X (i + 1)) := by
          rw [clL_setv _ (by rw [chg_len]; exact h), hM, chg_step _ _ _ h hv (by simp [hw])]
        have hin := inb hb
        simp -implicitDefEqProofs only [go_sem, dnW_ite, reduceIte, Nat.reduceAdd, Nat.reduceLeDiff, Nat.reduceMul, Nat.reduceEqDiff, Int.reduceLT, Int.reduceLE, Int.reduceToNat, Nat.reduceSub, Nat.reduceLT, Int.reduceEq, BitVec.reduceOfInt, BitVec.reduceOfNat, Int.reduceGT, Int.reduceGE, Int.reduceBEq, Int.reduceBNe, Nat.reduceGT, Nat.reduceBEq, Nat.reduceBNe, Int.reduceAdd, Int.reduceSub, Int.reduceNeg, show ((i : Int) < (X.length : Int)) by omega, show ((i : Int) < (vals.length : Int)) by omega, hx.lenF, List.length_map, h, hb, hl, hs, hat, show i * 2 + 2 ≤ X.length * 2 by omega, show i * 2 + 1 ≤ X.length * 2 by omega, dcp (Within_ok all X[i].s) rfl, hw, hw1, hset, hin]
        refine g1 h _ _ ⟨rfl, hf.trans (Fr.set _ _ (S := [b]) (by simp)) (by simp [blk, blkOf]), .inr ⟨fun e => ?_, b, by rw [chg_len], set_get _ (lt_get hb)⟩⟩
        have e2 := congrArg List.length e; rw [chg_len] at e2; simp only [List.length_nil] at e2; omega
    · simp -implicitDefEqProofs only [go_sem, dnW_ite, reduceIte, Nat.reduceAdd, Nat.reduceLeDiff, Nat.reduceMul, Nat.reduceEqDiff, Int.reduceLT, Int.reduceLE, Int.reduceToNat, Nat.reduceSub, Nat.reduceLT, Int.reduceEq, BitVec.reduceOfInt, BitVec.reduceOfNat, Int.reduceGT, Int.reduceGE, Int.reduceBEq, Int.reduceBNe, Nat.reduceGT, Nat.reduceBEq, Nat.reduceBNe, Int.reduceAdd, Int.reduceSub, Int.reduceNeg, show ((i : Int) < (X.length : Int)) by omega, show ¬ ((i : Int) < (vals.length : Int)) by omega, hx.lenF, List.length_map, hw1]
      refine g1 h _ _ ⟨rfl, hf, ?_⟩
      rw [chg_skip _ _ _ h (fun e => hv e.1)]; exact hr
  · simp -implicitDefEqProofs only [go_sem, dnW_ite, reduceIte, Nat.reduceAdd, Nat.reduceLeDiff, Nat.reduceMul, Nat.reduceEqDiff, Int.reduceLT, Int.reduceLE, Int.reduceToNat, Nat.reduceSub, Nat.reduceLT, Int.reduceEq, BitVec.reduceOfInt, BitVec.reduceOfNat, Int.reduceGT, Int.reduceGE, Int.reduceBEq, Int.reduceBNe, Nat.reduceGT, Nat.reduceBEq, Nat.reduceBNe, Int.reduceAdd, Int.reduceSub, Int.reduceNeg, show ¬ ((i : Int) < (X.length : Int)) by omega]
    refine g2 _ _ (hK _ hf ?_)
    obtain rfl : i = X.length := by omega
    exact hr
theorem labels_k3 (z c mv p0 p1 al m : IV) (L : List Cd) (hz : Ls 6 z (L.map Cd.e)) (hl : L.length ≤ 96) (J : JH) (K : Out IV → JH → Prop)
    (hT : ∀ J', K (.ret [.bool true]) J')
    (hK : (∀ x ∈ L, x.op ≠ 22) → ∀ J', Fr J J' [] → WP (dn BI l_law09_VmLabels_k2 [z, c, mv, p0, p1, al, m] J') K) :
    WP (dn BI l_law09_VmLabels_k3 [z, c, mv, p0, p1, al, m] J) K := by
  unfold l_law09_VmLabels_k3
  simp -implicitDefEqProofs only [go_sem, dnW_ite, reduceIte, Nat.reduceAdd, Nat.reduceLeDiff, Nat.reduceMul, Nat.reduceEqDiff, Int.reduceLT, Int.reduceLE, Int.reduceToNat, Nat.reduceSub, Nat.reduceLT, Int.reduceEq, BitVec.reduceOfInt, BitVec.reduceOfNat, Int.reduceGT, Int.reduceGE, Int.reduceBEq, Int.reduceBNe, Nat.reduceGT, Nat.reduceBEq, Nat.reduceBNe, Int.reduceAdd, Int.reduceSub, Int.reduceNeg, hz.lenF, List.length_map, dn_loop]
  refine WP_range (by decide) L.length (fun i vs J' => vs = [z, c, mv, p0, p1, al, m, z, nI L.length, nI i] ∧ Fr J J' [] ∧ ∀ x ∈ L.take i, x.op ≠ 22) ?_ ⟨rfl, .refl _ _, by simp⟩
  rintro i vs J1 ⟨rfl, hf, hn⟩ hi K1 g1 g2 g3
  unfold l_law09_VmLabels_k1
  by_cases h : i < L.length
  · have hat := fun J => hz.at (i := i) (by simpa using h) (J := J)
    simp only [List.getElem_map, Cd.e, Cd.cs] at hat
    by_cases o : L[i].op = 22
    · simp -implicitDefEqProofs only [go_sem, dnW_ite, reduceIte, Nat.reduceAdd, Nat.reduceLeDiff, Nat.reduceMul, Nat.reduceEqDiff, Int.reduceLT, Int.reduceLE, Int.reduceToNat, Nat.reduceSub, Nat.reduceLT, Int.reduceEq, BitVec.reduceOfInt, BitVec.reduceOfNat, Int.reduceGT, Int.reduceGE, Int.reduceBEq, Int.reduceBNe, Nat.reduceGT, Nat.reduceBEq, Nat.reduceBNe, Int.reduceAdd, Int.reduceSub, Int.reduceNeg, show ((i : Int) < (L.length : Int)) by omega, hat, natBeqc, natBeqD, o]
      exact g3 _ _ (hT _)
    · simp -implicitDefEqProofs only [go_sem, dnW_ite, reduceIte, Nat.reduceAdd, Nat.reduceLeDiff, Nat.reduceMul, Nat.reduceEqDiff, Int.reduceLT, Int.reduceLE, Int.reduceToNat, Nat.reduceSub, Nat.reduceLT, Int.reduceEq, BitVec.reduceOfInt, BitVec.reduceOfNat, Int.reduceGT, Int.reduceGE, Int.reduceBEq, Int.reduceBNe, Nat.reduceGT, Nat.reduceBEq, Nat.reduceBNe, Int.reduceAdd, Int.reduceSub, Int.reduceNeg, show ((i : Int) < (L.length : Int)) by omega, hat, wrapS h (show L.length ≤ 9223372036854775807 by omega), natBeqc, natBeqD, o]
      refine g1 h _ _ ⟨rfl, hf.trans (Fr.push _ _ []) (by simp), ?_⟩
      rw [List.take_succ_eq_append_getElem h]
      intro x hx
      rcases List.mem_append.1 hx with hx | hx
      · exact hn x hx
      · simp at hx; subst hx; exact o
  · simp -implicitDefEqProofs only [go_sem, dnW_ite, reduceIte, Nat.reduceAdd, Nat.reduceLeDiff, Nat.reduceMul, Nat.reduceEqDiff, Int.reduceLT, Int.reduceLE, Int.reduceToNat, Nat.reduceSub, Nat.reduceLT, Int.reduceEq, BitVec.reduceOfInt, BitVec.reduceOfNat, Int.reduceGT, Int.reduceGE, Int.reduceBEq, Int.reduceBNe, Nat.reduceGT, Nat.reduceBEq, Nat.reduceBNe, Int.reduceAdd, Int.reduceSub, Int.reduceNeg, show ¬ ((i : Int) < (L.length : Int)) by omega]
    refine g2 _ _ (hK ?_ _ hf)
    rw [List.take_of_length_le (by omega)] at hn
    exact hn
theorem labels_k2 (z c mv m : IV) (X Y : List Cl) (hX : X.length ≤ 48) (hY : Y.length ≤ 48) (d e : Int) (al : BitVec 32) (r1 r2 : Rs) (s1 s2 : IV) (J : JH) (hc : RawC J c X) (hm : RawC J m Y)
    (h0 : J[0]? = some (.cells 0 [.int .u64 d] false)) (h1 : J[1]? = some (.cells 0 [.int .u64 e] false)) (hcl : ∀ d ∈ blk c, 2 ≤ d) (hml : ∀ d ∈ blk m, 2 ≤ d)
    (hcm : ∀ d ∈ blk m, d ∉ blk c)
    (hz : ipure z = true) (hmv : ipure mv = true)
    (hr1 : pc BI F_vm_Run [z, .agg (bdc ⟨X, hX⟩), .agg [.int .u64 d], mv, .int .u32 2, m32 al] = some (.agg (resC r1 s1))) (o1 : ione s1 = true)
    (hr2 : pc BI F_vm_Run [z, .agg (bdc ⟨Y, hY⟩), .agg [.int .u64 e], mv, .int .u32 2, m32 al] = some (.agg (resC r2 s2))) (o2 : ione s2 = true)
    (e1 : r1.err = r2.err) (e2 : r1.touched = r2.touched) (e3 : r1.used = r2.used) (e4 : sumB false r1.bd = sumB false r2.bd)
    (K : Out IV → JH → Prop) (hT : ∀ J', K (.ret [.bool true]) J') :
    WP (dn BI l_law09_VmLabels_k2 [z, c, mv, .ptr 0 0 0, .ptr 1 0 0, m32 al, m] J) K := by
  unfold l_law09_VmLabels_k2
  obtain ⟨u, hu, hul⟩ := hc.frz
  simp -implicitDefEqProofs only [go_sem, dnW_ite, reduceIte, Nat.reduceAdd, Nat.reduceLeDiff, Nat.reduceMul, Nat.reduceEqDiff, Int.reduceLT, Int.reduceLE, Int.reduceToNat, Nat.reduceSub, Nat.reduceLT, Int.reduceEq, BitVec.reduceOfInt, BitVec.reduceOfNat, Int.reduceGT, Int.reduceGE, Int.reduceBEq, Int.reduceBNe, Nat.reduceGT, Nat.reduceBEq, Nat.reduceBNe, Int.reduceAdd, Int.reduceSub, Int.reduceNeg]
  have hu' : frz J DEP c = some u := hu 11
  refine WP_callF (blk c) (as := [u]) (by rw [List.mapM_cons, hu']; rfl) (NewX u X hX hul) (by simpa using hc.shows) fun J1 f1 z1 => ?_
  have hm1 := hm.fr f1 hcm
  have h01 : J1[0]? = some (.cells 0 [.int .u64 d] false) := by rw [f1.2 0 (lt_get h0) (fun h => by have := hcl _ h; omega)]; exact h0
  have h11 : J1[1]? = some (.cells 0 [.int .u64 e] false) := by rw [f1.2 1 (lt_get h1) (fun h => by have := hcl _ h; omega)]; exact h1
  simp -implicitDefEqProofs only [go_sem, dnW_ite, reduceIte, Nat.reduceAdd, Nat.reduceLeDiff, Nat.reduceMul, Nat.reduceEqDiff, Int.reduceLT, Int.reduceLE, Int.reduceToNat, Nat.reduceSub, Nat.reduceLT, Int.reduceEq, BitVec.reduceOfInt, BitVec.reduceOfNat, Int.reduceGT, Int.reduceGE, Int.reduceBEq, Int.reduceBNe, Nat.reduceGT, Nat.reduceBEq, Nat.reduceBNe, Int.reduceAdd, Int.reduceSub, Int.reduceNeg]
  obtain ⟨w, hw, hwl⟩ := (hm1.fr (.push J1 (.cells 0 (bdc ⟨X, hX⟩) false) []) (by simp)).frz
  have hw' : frz (J1.push (.cells 0 (bdc ⟨X, hX⟩) false)) DEP m = some w := hw 11
  refine WP_callF (blk m) (as := [w]) (by rw [List.mapM_cons, hw']; rfl) (NewX w Y hY hwl) (by simpa using (hm1.fr (.push J1 (.cells 0 (bdc ⟨X, hX⟩) false) []) (by simp)).shows) fun J2 f2 z2 => ?_
  have hp : (J1.push (.cells 0 (bdc ⟨X, hX⟩) false))[J1.size]? = some (.cells 0 (bdc ⟨X, hX⟩) false) := push_get _ _
  have hp2 : J2[J1.size]? = some (.cells 0 (bdc ⟨X, hX⟩) false) := by rw [f2.2 _ (lt_get hp) (fun h => by have := hm1.low _ h; omega)]; exact hp
  have hl0 := lt_get h01
  have hl1 := lt_get h11
  have h02 : J2[0]? = some (.cells 0 [.int .u64 d] false) := by rw [f2.2 0 (by simp) (fun h => by have := hml _ h; omega), Array.getElem?_push, if_neg (by omega)]; exact h01
  have h12 : J2[1]? = some (.cells 0 [.int .u64 e] false) := by rw [f2.2 1 (by simp; omega) (fun h => by have := hml _ h; omega), Array.getElem?_push, if_neg (by omega)]; exact h11
  rw [Array.size_push] at z2
  clear hu hw hu' hw' f1 f2 hm1 hm hc h01 h11 h0 h1 hp
  simp -implicitDefEqProofs only [go_sem, dnW_ite, reduceIte, Nat.reduceAdd, Nat.reduceLeDiff, Nat.reduceMul, Nat.reduceEqDiff, Int.reduceLT, Int.reduceLE, Int.reduceToNat, Nat.reduceSub, Nat.reduceLT, Int.reduceEq, BitVec.reduceOfInt, BitVec.reduceOfNat, Int.reduceGT, Int.reduceGE, Int.reduceBEq, Int.reduceBNe, Nat.reduceGT, Nat.reduceBEq, Nat.reduceBNe, Int.reduceAdd, Int.reduceSub, Int.reduceNeg, Array.getElem?_push, h02, h12, hp2, show ¬ (J2.size = 0) by omega, show ¬ (J2.size = 1) by omega, show ¬ (0 = J2.size) by omega, show ¬ (1 = J2.size) by omega, show ¬ (J1.size = J2.size) by omega, push_setM, dcp hr1 (by simp [ipureL, ipure, hz, hmv, bdc_pure]), dcp hr2 (by simp [ipureL, ipure, hz, hmv, bdc_pure]), rs_one _ _ o1, rs_one _ _ o2, e1, e2, e3, castN, dcp (Labels_ok r1.bd) (by simp [ipureL, ipure, bdc_pure]), dcp (Labels_ok r2.bd) (by simp [ipureL, ipure, bdc_pure]), e4]
  exact hT _
theorem PO_all (all : BitVec 32) (h0 : all ≠ 0#32) : PO (within all) all := by
  refine ⟨fun s h => h, fun a b h => ?_, ?_⟩
  · simp only [within, beq_iff_eq] at *
    constructor
    · apply BitVec.eq_of_getLsbD_eq; intro i hi
      have := congrArg (fun x => x.getLsbD i) h
      simp only [BitVec.getLsbD_and, BitVec.getLsbD_not, BitVec.getLsbD_zero] at this ⊢
      revert this; cases all.getLsbD i <;> cases a.getLsbD i <;> cases b.getLsbD i <;> simp
    · apply BitVec.eq_of_getLsbD_eq; intro i hi
      have := congrArg (fun x => x.getLsbD i) h
      simp only [BitVec.getLsbD_and, BitVec.getLsbD_not, BitVec.getLsbD_zero] at this ⊢
      revert this; cases all.getLsbD i <;> cases a.getLsbD i <;> cases b.getLsbD i <;> simp
  · show (all &&& ~~~(0#32) == 0#32) = false
    rw [show (~~~(0#32) : BitVec 32) = BitVec.allOnes 32 from rfl, BitVec.and_allOnes]
    simpa using h0
theorem VmLabels_ok (x c vv mv : IV) (l : List Cd) (cl : List Cl) (vals : List Int) (d e : Int) (ms : List Int) (hx : Ls 6 x (l.map Cd.e)) (hc : Ls 2 c (cl.map Cl.e)) (hvv : Ls 1 vv (vals.map (IV.int .i32))) (hm : Ls 1 mv (ms.map (IV.int .i32))) (hw : ∀ q ∈ l, q.wf) (hv : ∀ q ∈ cl, I32 q.v) (hvr : ∀ v ∈ vals, I32 v) (hmr : ∀ v ∈ ms, I32 v) (hb : l.length ≤ 9223372036854775807) (hb2 : cl.length ≤ 9223372036854775807) (hb3 : ms.length ≤ 9223372036854775807) (hb4 : vals.length ≤ 9223372036854775807) :
    pc BI F_law09_VmLabels [x, c, vv, .agg [.int .u64 d], .agg [.int .u64 e], mv] = some (.bool true) := by
  refine pcE fn_law09_VmLabels rfl fun K hK => ?_
  obtain ⟨q, hq, hql⟩ := players_ok mv ms hm hb3
  obtain ⟨_, hz, z1, z2, rfl, hz1, hz2⟩ := codes_ok x l hx hb
  have hw' : ∀ q ∈ l.take 96, q.wf := fun q hq => hw q (List.mem_of_mem_take hq)
  have hl96 : (l.take 96).length ≤ 96 := by simp; omega
  generalize l.take 96 = L at *
  have ha : pc BI F_mask_All [.int .i64 8] = some (m32 (allM 8)) := All_ok 8
  unfold l_law09_VmLabels
  have hT : ∀ J', K (.ret [.bool true]) J' := fun J' => hK _ _ (frzE rfl rfl)
  simp -implicitDefEqProofs only [go_sem, dnW_ite, reduceIte, Nat.reduceAdd, Nat.reduceLeDiff, Nat.reduceMul, Nat.reduceEqDiff, Int.reduceLT, Int.reduceLE, Int.reduceToNat, Nat.reduceSub, Nat.reduceLT, Int.reduceEq, BitVec.reduceOfInt, BitVec.reduceOfNat, Int.reduceGT, Int.reduceGE, Int.reduceBEq, Int.reduceBNe, Nat.reduceGT, Nat.reduceBEq, Nat.reduceBNe, Int.reduceAdd, Int.reduceSub, Int.reduceNeg, dcp awake09 rfl, ipureL, ipure, grp, mkE]
  refine WP_call (few_raw c cl hc hb2 _) fun s1 J1 k1 => ?_
  have hX : (cl.take 48).length ≤ 48 := by simp; omega
  have hXv : ∀ c ∈ cl.take 48, I32 c.v := fun q hq => hv q (List.mem_of_mem_take hq)
  generalize cl.take 48 = X at *
  have f1 := k1.fr
  have n1 := k1.new
  have r1 := k1.raw
  simp -implicitDefEqProofs only [go_sem, dnW_ite, reduceIte, Nat.reduceAdd, Nat.reduceLeDiff, Nat.reduceMul, Nat.reduceEqDiff, Int.reduceLT, Int.reduceLE, Int.reduceToNat, Nat.reduceSub, Nat.reduceLT, Int.reduceEq, BitVec.reduceOfInt, BitVec.reduceOfNat, Int.reduceGT, Int.reduceGE, Int.reduceBEq, Int.reduceBNe, Nat.reduceGT, Nat.reduceBEq, Nat.reduceBNe, Int.reduceAdd, Int.reduceSub, Int.reduceNeg, dcp hq (by simp [ipureL, hm.pure]), dcp hz (by simp [ipureL, hx.pure]), dcp ha rfl]
  refine WP_call (few_raw2 r1 hX) fun s2 J2 k2 => ?_
  have f2 := k2.fr
  have n2 := k2.new
  have r2 := k2.raw
  have r1' := r1.fr f2 (by simp)
  simp -implicitDefEqProofs only [go_sem, dnW_ite, reduceIte, Nat.reduceAdd, Nat.reduceLeDiff, Nat.reduceMul, Nat.reduceEqDiff, Int.reduceLT, Int.reduceLE, Int.reduceToNat, Nat.reduceSub, Nat.reduceLT, Int.reduceEq, BitVec.reduceOfInt, BitVec.reduceOfNat, Int.reduceGT, Int.reduceGE, Int.reduceBEq, Int.reduceBNe, Nat.reduceGT, Nat.reduceBEq, Nat.reduceBNe, Int.reduceAdd, Int.reduceSub, Int.reduceNeg, dn_loop, r2.lenF]
  refine labels_k0 z1 s1 vv q (.ptr 0 0 0) (.ptr 1 0 0) (allM 8) vals hvv X hX s2 J2 r2 _ K fun J3 f3 r3 => ?_
  refine labels_k3 z1 s1 q (.ptr 0 0 0) (.ptr 1 0 0) (m32 (allM 8)) s2 L hz1 hl96 J3 K hT fun hop J4 f4 => ?_
  have hY : (chgL (fun c => !within (allM 8) c.s) vals X X.length).length ≤ 48 := by rw [chg_len]; exact hX
  have hE : (⟨q, playersF ms, 2, allM 8⟩ : Me).ok := ⟨hql, playersF_rng hmr, by have := playersF_len ms; show (playersF ms).length ≤ _; omega⟩
  obtain ⟨_, hr1, u1, hu1, rfl⟩ := Run_ok z1 L hz1 hw' (by omega) ⟨X, hX⟩ (ok_of hXv) d ⟨q, playersF ms, 2, allM 8⟩ hE
  obtain ⟨_, hr2, u2, hu2, rfl⟩ := Run_ok z1 L hz1 hw' (by omega) ⟨_, hY⟩ (ok_of (chg_I32 hXv hvr _)) e ⟨q, playersF ms, 2, allM 8⟩ hE
  have hRE := RE.run (P := within (allM 8)) (E := ⟨q, playersF ms, 2, allM 8⟩) (F := ⟨q, playersF ms, 2, allM 8⟩) (PO_all _ (by decide)) ⟨rfl, rfl, fun _ _ => rfl⟩ rfl L (fun ⟨x, hx, ho⟩ => absurd ho (hop x hx)) (chg_BE (fun c => !within (allM 8) c.s) vals X.length (fun c _ h => by simpa using h) hX hY) d e (by
    rw [runF_none _ _ hop, runF_none _ _ hop]
    intro i s t h; simp at h)
  have b1 : ∀ k ∈ blk s1, 2 ≤ k := fun k hk => by have := n1 k hk; simpa using this
  have z1' := f1.1
  have b2 : ∀ k ∈ blk s2, J1.size ≤ k := n2
  have lo1 := r1.low
  have z2' : 2 ≤ J1.size := by simpa using z1'
  have hcm : ∀ d ∈ blk s2, d ∉ blk s1 := fun k h2 h1 => by have := b2 k h2; have := lo1 k h1; omega
  have hcm' : ∀ d ∈ blk s1, d ∉ blk s2 := fun k h1 h2 => hcm k h2 h1
  have g34 : Fr J2 J4 (blk s2) := f3.trans f4 (by simp)
  have keep : ∀ (k : Nat) (Z : IB), k < 2 → J1[k]? = some Z → J4[k]? = some Z := fun k Z hk h => by
    have h2 : J2[k]? = some Z := by rw [f2.2 k (lt_get h) (by simp)]; exact h
    rw [g34.2 k (lt_get h2) (fun hm => by have := b2 k hm; omega)]; exact h2
  refine labels_k2 z1 s1 q s2 X _ hX hY d e (allM 8) _ _ u1 u2 J4 (r1'.fr g34 hcm') (r3.fr f4 (by simp)) (keep 0 _ (by decide) ?_) (keep 1 _ (by decide) ?_) b1 (fun k hk => by have := b2 k hk; omega) hcm hz1.pure hql.pure hr1 hu1.one hr2 hu2.one hRE.err hRE.touched hRE.used hRE.bd.labels K hT
  · rw [f1.2 0 (by simp) (by simp)]; rfl
  · rw [f1.2 1 (by simp) (by simp)]; rfl
end Go.Proofs.Ythihgfkpdbgogaa.G
namespace Go.Proofs.Ythihgfkpdbgogaa.G
open Go
set_option linter.unusedSimpArgs false
set_option linter.unusedVariables false
set_option maxRecDepth 20000
set_option maxHeartbeats 1000000
def snN : Nat → Int → Int
  | 0, s => s
  | i + 1, s => snN i (sn s)
theorem shufL_state : ∀ (i : Nat) (s : Int) (ys : List Int), (shufL s i ys).2 = snN i s
  | 0, _, _ => rfl
  | i + 1, s, ys => by rw [shufL, shufL_state i]; rfl
theorem snN_eq : ∀ (i : Nat) (s : Int), 0 ≤ s → s < 18446744073709551616 → snN i s = (s + 11400714819323198485 * (i : Int)) % 18446744073709551616
  | 0, s, h0, h1 => by simp only [snN]; omega
  | i + 1, s, h0, h1 => by
    have e : sn s = (s + 11400714819323198485) % 18446744073709551616 := by unfold sn; rw [wrap_u64_eq]
    rw [snN, snN_eq i _ (by rw [e]; omega) (by rw [e]; omega), e]
    omega
theorem skip_eq (s : Int) (n : Nat) (h0 : 0 ≤ s) (h1 : s < 18446744073709551616) (hn : n < 1000000) : skip s (n : Int) = snN n s := by
  rw [snN_eq n s h0 h1]
  unfold skip
  split
  · rw [wrap_u64_eq, wrap_u64_eq, wrap_u64_eq]
    omega
  · obtain rfl : n = 0 := by omega
    omega
theorem snN_out : ∀ (i : Nat) (s : Int), sn (snN i s) = snN (i + 1) s
  | 0, s => rfl
  | i + 1, s => by
    show sn (snN i (sn s)) = snN (i + 1) (sn s)
    exact snN_out i (sn s)
/-- Sums. -/
def isum : List Int → Int
  | [] => 0
  | a :: l => a + isum l
theorem isum_app (a b : List Int) : isum (a ++ b) = isum a + isum b := by
  induction a with
  | nil => simp [isum]
  | cons x a ih => simp only [List.cons_append, isum, ih]; omega
theorem isum_set : ∀ (l : List Int) (i : Nat) (h : i < l.length) (v : Int), isum (l.set i v) = isum l - l[i] + v
  | a :: l, 0, h, v => by simp only [List.set_cons_zero, isum, List.getElem_cons_zero]; omega
  | a :: l, i + 1, h, v => by
    simp only [List.set_cons_succ, isum, List.getElem_cons_succ]
    rw [isum_set l i (by simpa using h) v]; omega
theorem isum_shuf : ∀ (i : Nat) (s : Int) (ys : List Int), i < ys.length → i < 1000000 → isum (shufL s i ys).1 = isum ys
  | 0, _, _, _, _ => rfl
  | i + 1, s, ys, h, hb => by
    obtain ⟨h0, h1⟩ := below_rng s ((i : Int) + 2) (by omega) (by omega)
    have hk : (below s ((i : Int) + 2)).toNat < ys.length := by omega
    rw [shufL, isum_shuf i _ _ (by simp; omega) (by omega)]
    generalize (below s ((i : Int) + 2)).toNat = k at *
    rw [isum_set _ _ (by simpa using hk), isum_set _ _ h, List.getElem_set]
    simp only [List.getD_eq_getElem?_getD, List.getElem?_eq_getElem h, List.getElem?_eq_getElem hk, Option.getD_some]
    split
    · rename_i e; subst e; omega
    · omega
theorem isum_rng : ∀ (l : List Int), (∀ v ∈ l, I32 v) → - (2147483648 * (l.length : Int)) ≤ isum l ∧ isum l ≤ 2147483648 * (l.length : Int)
  | [], _ => by simp [isum]
  | a :: l, h => by
    have ih := isum_rng l fun v hv => h v (List.mem_cons_of_mem _ hv)
    have ha : I32 a := h a (List.mem_cons_self ..)
    simp only [isum, List.length_cons]
    unfold I32 at ha
    omega
/-- A board's first cells filled. -/
theorem fill_at (m : Mc) (out : List Int) (k : Nat) (hk : k ≤ m.bd.l.length) : ∀ (j : Nat), j ≤ k → ∀ i : Nat, (fillN m 0 out j).bd.at (i : Int) = if i < j then ⟨out.getD i 0, 0#32⟩ else m.bd.at (i : Int)
  | 0, _, i => rfl
  | j + 1, hj, i => by
    rw [fillN]
    have ih := fill_at m out k hk j (by omega)
    have hl := fillN_len m 0 out j
    have ht : (fillN m 0 out j).bd.there ((0 + j : Nat) : Int) = true := by
      simp only [Bd.there, decide_eq_true_eq]; omega
    show ((fillN m 0 out j).bd.put ((0 + j : Nat) : Int) ⟨out.getD j 0, 0#32⟩).at (i : Int) = _
    unfold Bd.put
    rw [if_pos ht, Int.toNat_natCast, Bd.at_set _ (by rw [hl]; omega), Int.toNat_natCast]
    by_cases e : i = j
    · subst e; simp
    · rw [if_neg (by omega), ih i]
      by_cases h : i < j
      · rw [if_pos h, if_pos (by omega)]
      · rw [if_neg h, if_neg (by omega)]
def rollC1 (k : Nat) : Cd := ⟨24, 0, 0, k, 0, 0#32⟩
def rollC2 (s : Int) : Cd := ⟨23, 1, 0, 0, s, 0#32⟩
def rollC3 (k : Nat) : Cd := ⟨3, 1, 0, 0, (k : Int) - 1, 0#32⟩
/-- What is rolled and shuffled. -/
theorem roll1 (E : Me) (b : Bd) (d : Int) (k : Nat) (hk1 : 1 ≤ k) (hk : k ≤ b.l.length) :
    (runF E [rollC1 k] b d).err = 0 ∧ ∀ i : Nat, i < k → (runF E [rollC1 k] b d).bd.l.length = b.l.length ∧ (runF E [rollC1 k] b d).bd.at (i : Int) = ⟨(shufL d (k - 1) ((List.range k).map fun j => (b.at ((j : Nat) : Int)).v)).1.getD i 0, 0#32⟩ := by
  have hb := b.h
  have hR : rightL [rollC1 k] b.l.length E.moves.length = true := by
    simp [rightL, rollC1, Cd.right, useOf]; omega
  have hrun : loopF E [rollC1 k] 400 (start E b d) = shuffleF ⟨b, d, 0#64, [], 1, 0, regs0 E.all, 1⟩ 0 k := by
    rw [show (400 : Nat) = 399 + 1 from rfl, loop_step (x := rollC1 k) rfl rfl (by decide : (24 : Nat) ≠ 0)]
    have e : followF E { start E b d with used := (start E b d).used + 1 } (rollC1 k) = shuffleF ⟨b, d, 0#64, [], 1, 0, regs0 E.all, 1⟩ 0 k := rfl
    rw [e]
    refine loop_end (.inr ?_)
    have := fillN_same 0 (shufL d (k - 1) (rowV ⟨b, d, 0#64, [], 1, 0, regs0 E.all, 1⟩ 0 k)).1 k { (⟨b, d, 0#64, [], 1, 0, regs0 E.all, 1⟩ : Mc) with dice := (shufL d (k - 1) (rowV ⟨b, d, 0#64, [], 1, 0, regs0 E.all, 1⟩ 0 k)).2 }
    show 1 ≤ (shuffleF _ 0 k).pc
    rw [shuffleF, this.2.1]; exact Nat.le_refl _
  have he : (shuffleF ⟨b, d, 0#64, [], 1, 0, regs0 E.all, 1⟩ 0 k).err = 0 := by
    have := fillN_same 0 (shufL d (k - 1) (rowV ⟨b, d, 0#64, [], 1, 0, regs0 E.all, 1⟩ 0 k)).1 k { (⟨b, d, 0#64, [], 1, 0, regs0 E.all, 1⟩ : Mc) with dice := (shufL d (k - 1) (rowV ⟨b, d, 0#64, [], 1, 0, regs0 E.all, 1⟩ 0 k)).2 }
    rw [shuffleF, this.2.2.2.2.1]
  have hrf : runF E [rollC1 k] b d = ⟨(shuffleF ⟨b, d, 0#64, [], 1, 0, regs0 E.all, 1⟩ 0 k).bd, (shuffleF ⟨b, d, 0#64, [], 1, 0, regs0 E.all, 1⟩ 0 k).dice, (shuffleF ⟨b, d, 0#64, [], 1, 0, regs0 E.all, 1⟩ 0 k).touched, (shuffleF ⟨b, d, 0#64, [], 1, 0, regs0 E.all, 1⟩ 0 k).shows, (shuffleF ⟨b, d, 0#64, [], 1, 0, regs0 E.all, 1⟩ 0 k).used, 0⟩ := by
    unfold runF
    rw [if_neg (by rw [hR]; decide), hrun, if_neg (by rw [he]; decide)]
  rw [hrf]
  refine ⟨rfl, fun i hi => ⟨by show (shuffleF ⟨b, d, 0#64, [], 1, 0, regs0 E.all, 1⟩ 0 k).bd.l.length = _; rw [shuffleF, fillN_len], ?_⟩⟩
  show (shuffleF ⟨b, d, 0#64, [], 1, 0, regs0 E.all, 1⟩ 0 k).bd.at (i : Int) = _
  rw [shuffleF, fill_at _ _ k hk k (Nat.le_refl _) i, if_pos hi]
  simp only [rowV, Nat.zero_add]
theorem roll3 (E : Me) (b : Bd) (d : Int) (k : Nat) (s : Int) (hk1 : 1 ≤ k) (hk : k ≤ b.l.length) (hs : 1 ≤ s) :
    (runF E [rollC1 k, rollC2 s, rollC3 k] b d).err = 0 ∧ (runF E [rollC1 k, rollC2 s, rollC3 k] b d).dice = snN k d ∧ (runF E [rollC1 k, rollC2 s, rollC3 k] b d).bd.there ((k : Int) - 1) = true ∧ (runF E [rollC1 k, rollC2 s, rollC3 k] b d).bd.at ((k : Int) - 1) = ⟨below (snN (k - 1) d) s, 0#32⟩ := by
  have hb := b.h
  have hR : rightL [rollC1 k, rollC2 s, rollC3 k] b.l.length E.moves.length = true := by
    simp [rightL, rollC1, rollC2, rollC3, Cd.right, useOf, nOk, regOk]; omega
  obtain ⟨M, hM⟩ : ∃ M, M = shuffleF ⟨b, d, 0#64, [], 1, 0, regs0 E.all, 1⟩ 0 k := ⟨_, rfl⟩
  have hs0 := fillN_same 0 (shufL d (k - 1) (rowV ⟨b, d, 0#64, [], 1, 0, regs0 E.all, 1⟩ 0 k)).1 k { (⟨b, d, 0#64, [], 1, 0, regs0 E.all, 1⟩ : Mc) with dice := (shufL d (k - 1) (rowV ⟨b, d, 0#64, [], 1, 0, regs0 E.all, 1⟩ 0 k)).2 }
  have hl0 := fillN_len { (⟨b, d, 0#64, [], 1, 0, regs0 E.all, 1⟩ : Mc) with dice := (shufL d (k - 1) (rowV ⟨b, d, 0#64, [], 1, 0, regs0 E.all, 1⟩ 0 k)).2 } 0 (shufL d (k - 1) (rowV ⟨b, d, 0#64, [], 1, 0, regs0 E.all, 1⟩ 0 k)).1 k
  have hdice : M.dice = snN (k - 1) d := by rw [hM, shuffleF, hs0.2.2.2.2.2]; exact shufL_state _ _ _
  have hpc : M.pc = 1 := by rw [hM, shuffleF, hs0.2.1]
  have herr : M.err = 0 := by rw [hM, shuffleF, hs0.2.2.2.2.1]
  have hlen : M.bd.l.length = b.l.length := by rw [hM, shuffleF, hl0]
  have e1 : followF E { start E b d with used := (start E b d).used + 1 } (rollC1 k) = M := hM.symm
  have hrun : loopF E [rollC1 k, rollC2 s, rollC3 k] 400 (start E b d) = { M with used := M.used + 2, dice := sn M.dice, r := M.r.set 1 ⟨below M.dice s, 0#32⟩, pc := 3, bd := M.bd.put ((k : Int) - 1) ⟨below M.dice s, 0#32⟩, touched := M.touched ||| bit ((k : Int) - 1) } := by
    rw [show (400 : Nat) = 397 + 1 + 1 + 1 from rfl, loop_step (x := rollC1 k) rfl rfl (by decide : (24 : Nat) ≠ 0), e1]
    rw [loop_step (x := rollC2 s) herr (by rw [hpc]; rfl) (by decide : (23 : Nat) ≠ 0)]
    have e2 : followF E { M with used := M.used + 1 } (rollC2 s) = { M with used := M.used + 1, dice := sn M.dice, r := M.r.set 1 ⟨below M.dice s, 0#32⟩, pc := M.pc + 1 } := rfl
    rw [e2]
    rw [loop_step (x := rollC3 k) (by exact herr) (by show [rollC1 k, rollC2 s, rollC3 k][M.pc + 1]? = _; rw [hpc]; rfl) (by decide : (3 : Nat) ≠ 0)]
    have hreg : (M.r.set 1 ⟨below M.dice s, 0#32⟩).at 1 = ⟨below M.dice s, 0#32⟩ := by rw [Rg.at_set _ _ _ (by decide)]; rfl
    have e3 : followF E { ({ M with used := M.used + 1, dice := sn M.dice, r := M.r.set 1 ⟨below M.dice s, 0#32⟩, pc := M.pc + 1 } : Mc) with used := M.used + 1 + 1 } (rollC3 k) = { M with used := M.used + 2, dice := sn M.dice, r := M.r.set 1 ⟨below M.dice s, 0#32⟩, pc := 3, bd := M.bd.put ((k : Int) - 1) ⟨below M.dice s, 0#32⟩, touched := M.touched ||| bit ((k : Int) - 1) } := by
      show ({ M with used := M.used + 1 + 1, dice := sn M.dice, r := M.r.set 1 ⟨below M.dice s, 0#32⟩, pc := M.pc + 1 + 1, bd := M.bd.put ((k : Int) - 1) ((M.r.set 1 ⟨below M.dice s, 0#32⟩).at 1), touched := M.touched ||| bit ((k : Int) - 1) } : Mc) = _
      rw [hreg, hpc]
    rw [e3]
    exact loop_end (.inr (Nat.le_refl _))
  have hrf : runF E [rollC1 k, rollC2 s, rollC3 k] b d = ⟨M.bd.put ((k : Int) - 1) ⟨below M.dice s, 0#32⟩, sn M.dice, M.touched ||| bit ((k : Int) - 1), M.shows, M.used + 2, 0⟩ := by
    unfold runF
    rw [if_neg (by rw [hR]; decide), hrun, if_neg (by show ¬ M.err ≠ 0; rw [herr]; decide)]
  rw [hrf]
  have ht : M.bd.there ((k : Int) - 1) = true := by simp only [Bd.there, decide_eq_true_eq]; omega
  refine ⟨rfl, ?_, ?_, ?_⟩
  · show sn M.dice = _
    rw [hdice, snN_out, show k - 1 + 1 = k by omega]
  · show (M.bd.put ((k : Int) - 1) ⟨below M.dice s, 0#32⟩).there ((k : Int) - 1) = true
    simp only [Bd.there, put_len] at ht ⊢; exact ht
  · show (M.bd.put ((k : Int) - 1) ⟨below M.dice s, 0#32⟩).at ((k : Int) - 1) = _
    unfold Bd.put
    rw [if_pos ht, Bd.at_set _ (by omega), if_pos rfl, hdice]
end Go.Proofs.Ythihgfkpdbgogaa.G
namespace Go.Proofs.Ythihgfkpdbgogaa.G
open Go
set_option linter.unusedSimpArgs false
set_option linter.unusedVariables false
set_option maxRecDepth 20000
set_option maxHeartbeats 2000000
theorem rolls_k1 (s : Int) (d : Int) (k a b x : Nat) (r1 r2 : Rs) (s1 s2 : IV) (xv sm : Int) (J : JH) (h0 : J[0]? = some (.cells 0 [.int .u64 d] false)) (ha : J[a]? = some (.cells 0 (resC r1 s1) false)) (hb : J[b]? = some (.cells 0 (resC r2 s2) false)) (hx : J[x]? = some (.cells 0 [.int .i32 xv, .int .u32 0] false))
    (e1 : r1.err = 0) (e2 : r2.err = 0) (v0 : 0 ≤ xv) (v1 : xv < s) (hd : r1.dice = skip d k) (K : Out IV → JH → Prop) (hT : ∀ J', K (.ret [.bool true]) J') :
    WP (dn BI l_law09_VmRolls_k1 [.int .i32 s, .ptr 0 0 0, nI k, .ptr a 0 0, .ptr b 0 0, .ptr x 0 0, .int .i64 sm, .int .i64 sm] J) K := by
  unfold l_law09_VmRolls_k1
  have hs : pc BI F_dice_Dice_Skip [.agg [.int .u64 d], nI k] = some (.agg [.int .u64 (skip d k)]) := Skip_ok d k
  simp -implicitDefEqProofs only [go_sem, dnW_ite, reduceIte, Nat.reduceAdd, Nat.reduceLeDiff, Nat.reduceMul, Nat.reduceEqDiff, Int.reduceLT, Int.reduceLE, Int.reduceToNat, Nat.reduceSub, Nat.reduceLT, Int.reduceEq, BitVec.reduceOfInt, BitVec.reduceOfNat, Int.reduceGT, Int.reduceGE, Int.reduceBEq, Int.reduceBNe, Nat.reduceGT, Nat.reduceBEq, Nat.reduceBNe, Int.reduceAdd, Int.reduceSub, Int.reduceNeg, h0, ha, hb, hx, e1, e2, show xv ≥ 0 from v0, v1, hd, dcp hs rfl, eq_one]
  exact hT _
theorem rolls_k0 (y : IV) (X : List Cl) (hy : Ls 2 y (X.map Cl.e)) (hX : X.length ≤ 48) (hXv : ∀ c ∈ X, I32 c.v) (out : List Int) (k : Nat) (hk : k ≤ X.length) (ho : out.length = k) (hov : ∀ v ∈ out, I32 v)
    (s : Int) (d : Int) (a b x : Nat) (r1 r2 : Rs) (s1 s2 : IV) (xv : Int) (J : JH) (h0 : J[0]? = some (.cells 0 [.int .u64 d] false)) (ha : J[a]? = some (.cells 0 (resC r1 s1) false)) (hb : J[b]? = some (.cells 0 (resC r2 s2) false)) (hx : J[x]? = some (.cells 0 [.int .i32 xv, .int .u32 0] false))
    (hA : ∀ i, i < k → pc BI F_board_Board_At [.agg (bdc r2.bd), nI i] = some (.tup [.agg [.int .i32 (out.getD i 0), .int .u32 0], .bool true]))
    (hsum : isum out = isum ((X.map Cl.v).take k))
    (e1 : r1.err = 0) (e2 : r2.err = 0) (v0 : 0 ≤ xv) (v1 : xv < s) (hd : r1.dice = skip d k) (K : Out IV → JH → Prop) (hT : ∀ J', K (.ret [.bool true]) J') :
    WP (onJoinD 0 (iter (dn BI l_law09_VmRolls_k0) 1 [y, .int .i32 s, .ptr 0 0 0, nI k, .ptr a 0 0, .ptr b 0 0, .ptr x 0 0, .int .i64 0, .int .i64 0, nI k, nI 0] J) l_law09_VmRolls_k1) K := by
  refine WP_range (by decide) k (fun i vs J' => vs = [y, .int .i32 s, .ptr 0 0 0, nI k, .ptr a 0 0, .ptr b 0 0, .ptr x 0 0, .int .i64 (isum (out.take i)), .int .i64 (isum ((X.map Cl.v).take i)), nI k, nI i] ∧ Fr J J' []) ?_ ⟨rfl, .refl _ _⟩
  rintro i vs J1 ⟨rfl, hf⟩ hi K1 g1 g2 g3
  have hb1 : J1[b]? = some (.cells 0 (resC r2 s2) false) := by rw [hf.2 b (lt_get hb) (by simp)]; exact hb
  by_cases h : i < k
  · unfold l_law09_VmRolls_k0
    have hat := fun J => hy.at (i := i) (by simp; omega) (J := J)
    simp only [List.getElem_map, Cl.e, Cl.c] at hat
    have hw1 := wrapS h (show k ≤ 9223372036854775807 by omega)
    have hio : i < out.length := by omega
    have hiX : i < X.length := by omega
    have hxv := hXv X[i] (List.getElem_mem hiX)
    have hgo : out.getD i 0 = out[i] := by rw [List.getD_eq_getElem?_getD, List.getElem?_eq_getElem hio]; rfl
    have hvo := hov out[i] (List.getElem_mem hio)
    have t1 : isum (out.take (i + 1)) = isum (out.take i) + out[i] := by rw [List.take_succ_eq_append_getElem hio, isum_app]; simp [isum]
    have t2 : isum ((X.map Cl.v).take (i + 1)) = isum ((X.map Cl.v).take i) + X[i].v := by rw [List.take_succ_eq_append_getElem (by simpa using hiX), isum_app]; simp [isum]
    have q1 := isum_rng (out.take i) (fun v hv => hov v (List.mem_of_mem_take hv))
    have q2 := isum_rng ((X.map Cl.v).take i) (fun v hv => by
      obtain ⟨c, hc, rfl⟩ := List.mem_map.1 (List.mem_of_mem_take hv)
      exact hXv c hc)
    rw [List.length_take] at q1 q2
    rw [List.length_map] at q2
    unfold I32 at hxv hvo
    have c1 : IntKind.i64.wrap out[i] = out[i] := wrap_i64 (by omega) (by omega)
    have c2 : IntKind.i64.wrap X[i].v = X[i].v := wrap_i64 (by omega) (by omega)
    have c3 : IntKind.i64.wrap (isum (out.take i) + out[i]) = isum (out.take (i + 1)) := by rw [t1]; exact wrap_i64 (by omega) (by omega)
    have c4 : IntKind.i64.wrap (isum ((X.map Cl.v).take i) + X[i].v) = isum ((X.map Cl.v).take (i + 1)) := by rw [t2]; exact wrap_i64 (by omega) (by omega)
    have hAi := hA i h
    rw [hgo] at hAi
    have hin := inb hb1
    simp -implicitDefEqProofs only [go_sem, dnW_ite, reduceIte, Nat.reduceAdd, Nat.reduceLeDiff, Nat.reduceMul, Nat.reduceEqDiff, Int.reduceLT, Int.reduceLE, Int.reduceToNat, Nat.reduceSub, Nat.reduceLT, Int.reduceEq, BitVec.reduceOfInt, BitVec.reduceOfNat, Int.reduceGT, Int.reduceGE, Int.reduceBEq, Int.reduceBNe, Nat.reduceGT, Nat.reduceBEq, Nat.reduceBNe, Int.reduceAdd, Int.reduceSub, Int.reduceNeg, show ((i : Int) < (k : Int)) by omega, hb1, dcp hAi (by simp [ipureL, ipure, bdc_pure]), hat, c1, c2, c3, c4, hw1]
    exact g1 h _ _ ⟨rfl, hf.trans (Fr.push _ _ []) (by simp)⟩
  · unfold l_law09_VmRolls_k0
    simp -implicitDefEqProofs only [go_sem, dnW_ite, reduceIte, Nat.reduceAdd, Nat.reduceLeDiff, Nat.reduceMul, Nat.reduceEqDiff, Int.reduceLT, Int.reduceLE, Int.reduceToNat, Nat.reduceSub, Nat.reduceLT, Int.reduceEq, BitVec.reduceOfInt, BitVec.reduceOfNat, Int.reduceGT, Int.reduceGE, Int.reduceBEq, Int.reduceBNe, Nat.reduceGT, Nat.reduceBEq, Nat.reduceBNe, Int.reduceAdd, Int.reduceSub, Int.reduceNeg, show ¬ ((i : Int) < (k : Int)) by omega]
    refine g2 _ _ ?_
    obtain rfl : i = k := by omega
    have hall : isum (out.take i) = isum ((X.map Cl.v).take i) := by rw [List.take_of_length_le (by omega)]; exact hsum
    rw [hall]
    exact rolls_k1 s d i a b x r1 r2 s1 s2 xv _ J1 (by rw [hf.2 0 (lt_get h0) (by simp)]; exact h0) (by rw [hf.2 a (lt_get ha) (by simp)]; exact ha) hb1 (by rw [hf.2 x (lt_get hx) (by simp)]; exact hx) e1 e2 v0 v1 hd K hT
end Go.Proofs.Ythihgfkpdbgogaa.G
namespace Go.Proofs.Ythihgfkpdbgogaa.G
open Go
set_option linter.unusedSimpArgs false
set_option linter.unusedVariables false
set_option maxRecDepth 20000
set_option maxHeartbeats 2000000
def rollE : Me := ⟨.lst 1 true [.int .i32 0], [0], 1, 3#32⟩
theorem rollE_ok : rollE.ok := ⟨.lst, (by simp [rollE]), (by simp [rollE])⟩
theorem Rolls_ok (c : IV) (cl : List Cl) (d : Int) (n : Nat) (hn : n < 256) (sd : Int) (hsd : I32 sd) (hd0 : 0 ≤ d) (hd1 : d < 18446744073709551616) (hc : Ls 2 c (cl.map Cl.e)) (hv : ∀ q ∈ cl, I32 q.v) (hb2 : cl.length ≤ 9223372036854775807) :
    pc BI F_law09_VmRolls [c, .agg [.int .u64 d], .int .u8 n, .int .i32 sd] = some (.bool true) := by
  refine pcE fn_law09_VmRolls rfl fun K hK => ?_
  obtain ⟨y, hy, hyl⟩ := few_ok c cl hc hb2
  have hnw := New48 y cl hyl
  have hT : ∀ J', K (.ret [.bool true]) J' := fun J' => hK _ _ (frzE rfl rfl)
  have hbok := bd48_ok hv
  have hXv : ∀ c ∈ cl.take 48, I32 c.v := fun q hq => hv q (List.mem_of_mem_take hq)
  have hX : (cl.take 48).length ≤ 48 := by simp; omega
  have hbl : (bd48 cl).l = cl.take 48 := rfl
  generalize bd48 cl = B at *
  generalize cl.take 48 = X at *
  have hlen := fun J => hyl.lenF (J := J)
  simp only [List.length_map] at hlen
  unfold l_law09_VmRolls
  by_cases h0 : X.length = 0
  · have h0' : ((X.length : Int) == 0) = true := by simp [h0]
    simp -implicitDefEqProofs only [go_sem, dnW_ite, reduceIte, Nat.reduceAdd, Nat.reduceLeDiff, Nat.reduceMul, Nat.reduceEqDiff, Int.reduceLT, Int.reduceLE, Int.reduceToNat, Nat.reduceSub, Nat.reduceLT, Int.reduceEq, BitVec.reduceOfInt, BitVec.reduceOfNat, Int.reduceGT, Int.reduceGE, Int.reduceBEq, Int.reduceBNe, Nat.reduceGT, Nat.reduceBEq, Nat.reduceBNe, Int.reduceAdd, Int.reduceSub, Int.reduceNeg, dcp awake09 rfl, dcp hy (by simp [ipureL, hc.pure]), hlen, h0']
    exact hT _
  · have h0' : ((X.length : Int) == 0) = false := by rw [natBeq0]; simpa using h0
    have tm : Int.tmod (n : Int) (X.length : Int) = ((n % X.length : Nat) : Int) := rfl
    obtain ⟨k, hk⟩ : ∃ k, k = 1 + n % X.length := ⟨_, rfl⟩
    have hmod : n % X.length < X.length := Nat.mod_lt _ (by omega)
    have hk1 : 1 ≤ k := by omega
    have hkX : k ≤ X.length := by omega
    have hkB : k ≤ B.l.length := by rw [hbl]; exact hkX
    have w1 : IntKind.i64.wrap (n : Int) = (n : Int) := wrap_i64 (by omega) (by omega)
    have w2 : IntKind.i64.wrap (1 + ((n % X.length : Nat) : Int)) = (k : Int) := by rw [hk, show (1 + ((n % X.length : Nat) : Int)) = ((1 + n % X.length : Nat) : Int) by omega]; exact wrap_i64 (by omega) (by omega)
    have w3 : IntKind.u8.wrap (k : Int) = (k : Int) := by simp only [IntKind.wrap, IntKind.bits, IntKind.signed]; simp; omega
    have w4 : IntKind.i64.wrap ((k : Int) - 1) = (k : Int) - 1 := wrap_i64 (by omega) (by omega)
    have w5 : IntKind.i32.wrap ((k : Int) - 1) = (k : Int) - 1 := by simp only [IntKind.wrap, IntKind.bits, IntKind.signed]; simp; omega
    have w6 : ¬ ((X.length : Int) = 0) := by omega
    obtain ⟨s, hs⟩ : ∃ s, s = max sd 1 := ⟨_, rfl⟩
    have hs1 : 1 ≤ s := by omega
    unfold I32 at hsd
    have hs2 : s < 2147483648 := by omega
    obtain ⟨a1, a2, a3, a4⟩ := roll3 rollE B d k s hk1 hkB hs1
    obtain ⟨b1, b2⟩ := roll1 rollE B d k hk1 hkB
    have hwf : ∀ x ∈ [rollC1 k, rollC2 s, rollC3 k], x.wf := by
      intro x hx
      simp only [List.mem_cons, List.not_mem_nil, or_false] at hx
      rcases hx with rfl | rfl | rfl
      · constructor <;> simp [rollC1] <;> omega
      · constructor <;> simp [rollC2] <;> omega
      · constructor <;> simp [rollC3] <;> omega
    obtain ⟨_, hr1, u1, hu1, rfl⟩ := Run_ok (.lst 6 true [.agg [.int .u8 24, .int .u8 0, .int .u8 0, .int .u8 k, .int .i32 0, .int .u32 0], .agg [.int .u8 23, .int .u8 1, .int .u8 0, .int .u8 0, .int .i32 s, .int .u32 0], .agg [.int .u8 3, .int .u8 1, .int .u8 0, .int .u8 0, .int .i32 ((k : Int) - 1), .int .u32 0]]) [rollC1 k, rollC2 s, rollC3 k] .lst hwf (by simp) B hbok d rollE rollE_ok
    obtain ⟨_, hr2, u2, hu2, rfl⟩ := Run_ok (.lst 6 true [.agg [.int .u8 24, .int .u8 0, .int .u8 0, .int .u8 k, .int .i32 0, .int .u32 0]]) [rollC1 k] .lst (fun x hx => hwf x (by simp at hx; simp [hx])) (by simp) B hbok d rollE rollE_ok
    have hr1' : pc BI F_vm_Run [.lst 6 true [.agg [.int .u8 24, .int .u8 0, .int .u8 0, .int .u8 k, .int .i32 0, .int .u32 0], .agg [.int .u8 23, .int .u8 1, .int .u8 0, .int .u8 0, .int .i32 s, .int .u32 0], .agg [.int .u8 3, .int .u8 1, .int .u8 0, .int .u8 0, .int .i32 ((k : Int) - 1), .int .u32 0]], .agg (bdc B), .agg [.int .u64 d], .lst 1 true [.int .i32 0], .int .u32 1, .int .u32 3] = _ := hr1
    have hr2' : pc BI F_vm_Run [.lst 6 true [.agg [.int .u8 24, .int .u8 0, .int .u8 0, .int .u8 k, .int .i32 0, .int .u32 0]], .agg (bdc B), .agg [.int .u64 d], .lst 1 true [.int .i32 0], .int .u32 1, .int .u32 3] = _ := hr2
    have hbr := below_rng (snN (k - 1) d) s (by omega) (by omega)
    generalize runF rollE [rollC1 k, rollC2 s, rollC3 k] B d = R1 at *
    generalize runF rollE [rollC1 k] B d = R2 at *
    have hA1 : pc BI F_board_Board_At [.agg (bdc R1.bd), .int .i64 ((k : Int) - 1)] = some (.tup [.agg [.int .i32 (below (snN (k - 1) d) s), .int .u32 0], .bool true]) := by
      rw [At_ok, a3, if_pos rfl, a4]; rfl
    have hrow : ((List.range k).map fun j => (B.at ((j : Nat) : Int)).v) = (X.map Cl.v).take k := by
      apply List.ext_getElem
      · simp; omega
      · intro i h1 h2
        simp only [List.length_map, List.length_range] at h1
        have : i < X.length := by omega
        simp [Bd.at, hbl, List.getD_eq_getElem?_getD, this]
    rw [hrow] at b2
    have hlk : ((X.map Cl.v).take k).length = k := by simp; omega
    have hsum := isum_shuf (k - 1) d ((X.map Cl.v).take k) (by omega) (by omega)
    have hol : (shufL d (k - 1) ((X.map Cl.v).take k)).1.length = k := by rw [shufL_len, hlk]
    have hov : ∀ v ∈ (shufL d (k - 1) ((X.map Cl.v).take k)).1, I32 v := fun v hv => by
      rcases shufL_mem' _ _ _ v hv with h | h
      · obtain ⟨c, hc, rfl⟩ := List.mem_map.1 (List.mem_of_mem_take h)
        exact hXv c hc
      · subst h; exact I32_0
    generalize (shufL d (k - 1) ((X.map Cl.v).take k)).1 = out at *
    have hA2 : ∀ i, i < k → pc BI F_board_Board_At [.agg (bdc R2.bd), nI i] = some (.tup [.agg [.int .i32 (out.getD i 0), .int .u32 0], .bool true]) := fun i hi => by
      obtain ⟨l2, l3⟩ := b2 i hi
      have ht : R2.bd.there (i : Int) = true := by simp only [Bd.there, decide_eq_true_eq]; omega
      have := At_ok R2.bd (i : Int)
      rw [ht, if_pos rfl, l3] at this
      exact this
    have hsk : skip d (k : Int) = snN k d := skip_eq d k hd0 hd1 (by omega)
    simp -implicitDefEqProofs only [go_sem, dnW_ite, reduceIte, Nat.reduceAdd, Nat.reduceLeDiff, Nat.reduceMul, Nat.reduceEqDiff, Int.reduceLT, Int.reduceLE, Int.reduceToNat, Nat.reduceSub, Nat.reduceLT, Int.reduceEq, BitVec.reduceOfInt, BitVec.reduceOfNat, Int.reduceGT, Int.reduceGE, Int.reduceBEq, Int.reduceBNe, Nat.reduceGT, Nat.reduceBEq, Nat.reduceBNe, Int.reduceAdd, Int.reduceSub, Int.reduceNeg, dcp awake09 rfl, dcp hy (by simp [ipureL, hc.pure]), hlen, h0', w1, tm, w6, w2, w3, w4, w5, ↓hs.symm, dcp hnw (by simp [ipureL, hyl.pure]), dcp hr1' (by simp [ipureL, ipure, bdc_pure]), dcp hr2' (by simp [ipureL, ipure, bdc_pure]), rs_one _ _ hu1.one, rs_one _ _ hu2.one, ipureL, ipure, grp, mkE, List.headD, dcp hA1 (by simp [ipureL, ipure, bdc_pure]), dn_loop]
    refine rolls_k0 y X hyl hX hXv out k hkX hol hov s d 2 3 4 R1 R2 u1 u2 (below (snN (k - 1) d) s) _ rfl rfl rfl rfl hA2 hsum a1 b1 hbr.1 hbr.2 (by rw [a2, hsk]) K hT
end Go.Proofs.Ythihgfkpdbgogaa.G
