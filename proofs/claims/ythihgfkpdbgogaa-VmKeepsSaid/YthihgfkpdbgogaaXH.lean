/- Joined: W9 to W9. -/
import Derived.Test.YthihgfkpdbgogaaXG
set_option linter.unusedVariables false
set_option linter.unusedSimpArgs false
namespace Go.Proofs.Ythihgfkpdbgogaa.G
open Go
set_option linter.unusedSimpArgs false
set_option linter.unusedVariables false
set_option maxRecDepth 20000
set_option maxHeartbeats 2000000
theorem keeps_run {E : Me} (hE : E.ok) (l : List Cd) (hw : ∀ x ∈ l, x.wf) (b : Bd) (hb : b.ok) (d : Int) (ns : Bool) (hn : ns = true → ∀ x ∈ l, isStore x = false) :
    ((runF E l b d).err ≠ 0 → (runF E l b d).bd = b ∧ (runF E l b d).dice = d ∧ (runF E l b d).touched = 0#64 ∧ (runF E l b d).used ≤ 400) ∧
    ((runF E l b d).err = 0 → ∃ m : Mc, KP b ns m ∧ (runF E l b d).bd = m.bd ∧ (runF E l b d).touched = m.touched) := by
  unfold runF
  split
  · exact ⟨fun _ => ⟨rfl, rfl, rfl, Nat.zero_le _⟩, fun h => by cases h⟩
  · rename_i hR
    have hall : l.length ≤ 96 ∧ ∀ x ∈ l, x.right l.length b.l.length E.moves.length = true := by
      simpa [rightL] using hR
    have hst : (start E b d).ok b.l.length l.length := ⟨fun i hi => by
      have : ((start E b d).r.at i).v = 0 := by
        show ((regs0 E.all).at i).v = 0
        rw [rg_at _ hi]; simp only [regs0, List.getElem_replicate]
      rw [this]; exact I32_0, hb, rfl, Nat.zero_le _⟩
    split
    · refine ⟨fun _ => ⟨rfl, rfl, rfl, ?_⟩, fun h => absurd h (by assumption)⟩
      have := loop_used l hall.2 hE hw 400 (start E b d) hst
      have e : (start E b d).used = 0 := rfl
      show (loopF E l 400 (start E b d)).used ≤ 400
      omega
    · exact ⟨fun h => absurd rfl h, fun _ => ⟨loopF E l 400 (start E b d), KP.loop l hall.2 hn 400 _ (KP.start d), rfl, rfl⟩⟩
/-- a bit that is looked at -/
theorem bit_test (t : BitVec 64) (i : Nat) : (Int.tmod ((t >>> i).toNat : Int) 2 == 0) = !t.getLsbD i := by
  have e : Int.tmod ((t >>> i).toNat : Int) 2 = (((t >>> i).toNat % 2 : Nat) : Int) := rfl
  rw [e]
  have h : t.getLsbD i = (t >>> i).toNat.testBit 0 := by
    rw [BitVec.testBit_toNat, BitVec.getLsbD_ushiftRight, Nat.add_zero]
  rw [h, Nat.testBit_zero]
  have : (t >>> i).toNat % 2 = 0 ∨ (t >>> i).toNat % 2 = 1 := by omega
  rcases this with h2 | h2 <;> rw [h2] <;> rfl
theorem shr_zero {t : BitVec 64} {n : Nat} (h : ∀ i, n ≤ i → t.getLsbD i = false) : t >>> n = 0#64 := by
  apply BitVec.eq_of_getLsbD_eq
  intro i hi
  rw [BitVec.getLsbD_ushiftRight, h (n + i) (by omega)]; simp
theorem bd_at {b : Bd} {i : Nat} {c : Cl} (h : b.l[i]? = some c) : b.at (i : Int) = c := by simp [Bd.at, List.getD_eq_getElem?_getD, h]
/-- Does one store? -/
theorem keeps_k0 (z : IV) (L : List Cd) (hz : Ls 6 z (L.map Cd.e)) (hl : L.length ≤ 96) (c : IV) (J : JH) (h2 : J.size ≥ 3) (K : Out IV → JH → Prop)
    (hK : ∀ J', Fr J J' [] → WP (dn BI l_law09_VmKeeps_k3 [c, .ptr 2 0 0, .bool (L.any isStore)] J') K) :
    WP (dn BI l_law09_VmKeeps_k4 [z, c, .ptr 2 0 0] J) K := by
  unfold l_law09_VmKeeps_k4
  simp -implicitDefEqProofs only [go_sem, dnW_ite, reduceIte, Nat.reduceAdd, Nat.reduceLeDiff, Nat.reduceMul, Nat.reduceEqDiff, Int.reduceLT, Int.reduceLE, Int.reduceToNat, Nat.reduceSub, Nat.reduceLT, Int.reduceEq, BitVec.reduceOfInt, BitVec.reduceOfNat, Int.reduceGT, Int.reduceGE, Int.reduceBEq, Int.reduceBNe, Nat.reduceGT, Nat.reduceBEq, Nat.reduceBNe, Int.reduceAdd, Int.reduceSub, Int.reduceNeg, hz.lenF, List.length_map, dn_loop]
  refine WP_range (by decide) L.length (fun i vs J' => vs = [c, .ptr 2 0 0, .bool ((L.take i).any isStore), z, nI L.length, nI i] ∧ Fr J J' []) ?_ ⟨rfl, .refl _ _⟩
  rintro i vs J1 ⟨rfl, hf⟩ hi K1 g1 g2 g3
  unfold l_law09_VmKeeps_k0
  by_cases h : i < L.length
  · have hat := fun J => hz.at (i := i) (by simpa using h) (J := J)
    simp only [List.getElem_map, Cd.e, Cd.cs] at hat
    rw [List.take_succ_eq_append_getElem h, List.any_append] at g1
    have fin : ∀ b J', b = ((L.take i).any isStore || isStore L[i]) → Fr J1 J' [] → K1 (.goto 2 [c, .ptr 2 0 0, .bool b, z, nI L.length, nI (i + 1)]) J' := fun b J' hb hf' => g1 h _ _ ⟨by rw [hb]; simp, hf.trans hf' (by simp)⟩
    cases hs : (L.take i).any isStore with
    | true =>
      simp -implicitDefEqProofs only [go_sem, dnW_ite, reduceIte, Nat.reduceAdd, Nat.reduceLeDiff, Nat.reduceMul, Nat.reduceEqDiff, Int.reduceLT, Int.reduceLE, Int.reduceToNat, Nat.reduceSub, Nat.reduceLT, Int.reduceEq, BitVec.reduceOfInt, BitVec.reduceOfNat, Int.reduceGT, Int.reduceGE, Int.reduceBEq, Int.reduceBNe, Nat.reduceGT, Nat.reduceBEq, Nat.reduceBNe, Int.reduceAdd, Int.reduceSub, Int.reduceNeg, show ((i : Int) < (L.length : Int)) by omega, hat, wrapS h (show L.length ≤ 9223372036854775807 by omega)]
      exact fin _ _ (by simp [hs]) (.push _ _ _)
    | false =>
      by_cases o3 : L[i].op = 3
      · simp -implicitDefEqProofs only [go_sem, dnW_ite, reduceIte, Nat.reduceAdd, Nat.reduceLeDiff, Nat.reduceMul, Nat.reduceEqDiff, Int.reduceLT, Int.reduceLE, Int.reduceToNat, Nat.reduceSub, Nat.reduceLT, Int.reduceEq, BitVec.reduceOfInt, BitVec.reduceOfNat, Int.reduceGT, Int.reduceGE, Int.reduceBEq, Int.reduceBNe, Nat.reduceGT, Nat.reduceBEq, Nat.reduceBNe, Int.reduceAdd, Int.reduceSub, Int.reduceNeg, show ((i : Int) < (L.length : Int)) by omega, hat, wrapS h (show L.length ≤ 9223372036854775807 by omega), natBeqc, natBeqD, o3]
        exact fin _ _ (by simp [isStore, o3]) (.push _ _ _)
      · by_cases o5 : L[i].op = 5
        · simp -implicitDefEqProofs only [go_sem, dnW_ite, reduceIte, Nat.reduceAdd, Nat.reduceLeDiff, Nat.reduceMul, Nat.reduceEqDiff, Int.reduceLT, Int.reduceLE, Int.reduceToNat, Nat.reduceSub, Nat.reduceLT, Int.reduceEq, BitVec.reduceOfInt, BitVec.reduceOfNat, Int.reduceGT, Int.reduceGE, Int.reduceBEq, Int.reduceBNe, Nat.reduceGT, Nat.reduceBEq, Nat.reduceBNe, Int.reduceAdd, Int.reduceSub, Int.reduceNeg, show ((i : Int) < (L.length : Int)) by omega, hat, wrapS h (show L.length ≤ 9223372036854775807 by omega), natBeqc, natBeqD, o3, o5]
          exact fin _ _ (by simp [isStore, o5]) (.push _ _ _)
        · simp -implicitDefEqProofs only [go_sem, dnW_ite, reduceIte, Nat.reduceAdd, Nat.reduceLeDiff, Nat.reduceMul, Nat.reduceEqDiff, Int.reduceLT, Int.reduceLE, Int.reduceToNat, Nat.reduceSub, Nat.reduceLT, Int.reduceEq, BitVec.reduceOfInt, BitVec.reduceOfNat, Int.reduceGT, Int.reduceGE, Int.reduceBEq, Int.reduceBNe, Nat.reduceGT, Nat.reduceBEq, Nat.reduceBNe, Int.reduceAdd, Int.reduceSub, Int.reduceNeg, show ((i : Int) < (L.length : Int)) by omega, hat, wrapS h (show L.length ≤ 9223372036854775807 by omega), natBeqc, natBeqD, o3, o5]
          exact fin _ _ (by rw [hs, isStore, natBeqD, natBeqD, natBeqD]; simp [o3, o5]) (.push _ _ _)
  · simp -implicitDefEqProofs only [go_sem, dnW_ite, reduceIte, Nat.reduceAdd, Nat.reduceLeDiff, Nat.reduceMul, Nat.reduceEqDiff, Int.reduceLT, Int.reduceLE, Int.reduceToNat, Nat.reduceSub, Nat.reduceLT, Int.reduceEq, BitVec.reduceOfInt, BitVec.reduceOfNat, Int.reduceGT, Int.reduceGE, Int.reduceBEq, Int.reduceBNe, Nat.reduceGT, Nat.reduceBEq, Nat.reduceBNe, Int.reduceAdd, Int.reduceSub, Int.reduceNeg, show ¬ ((i : Int) < (L.length : Int)) by omega]
    refine g2 _ _ ?_
    have := hK J1 hf
    rw [List.take_of_length_le (by omega)]
    exact this
theorem eqAgg_cl (a b : Cl) : iaggEq [.int .i32 a.v, m32 a.s] [.int .i32 b.v, m32 b.s] = some (decide (a = b)) := by
  simp only [iaggEq, if_true, beqB, Bool.and_true]
  congr 1
  rw [Bool.eq_iff_iff]
  cases a; cases b
  simp
theorem keeps_k1 (y : IV) (C : List Cl) (hC : C.length ≤ 48) (hy : Ls 2 y (C.map Cl.e)) (R : Rs) (u : IV) (ns : Bool) (J : JH) (h2 : J[2]? = some (.cells 0 (resC R u) false)) (hk : ∃ m : Mc, KP ⟨C, hC⟩ ns m ∧ R.bd = m.bd ∧ R.touched = m.touched) (st : Bool) (hst : st = !ns) (K : Out IV → JH → Prop)
    (hK : ∀ J', K (.ret [.bool true]) J') :
    WP (dn BI l_law09_VmKeeps_k3 [y, .ptr 2 0 0, .bool st] J) K := by
  obtain ⟨m, hm, hb, ht⟩ := hk
  unfold l_law09_VmKeeps_k3
  simp -implicitDefEqProofs only [go_sem, dnW_ite, reduceIte, Nat.reduceAdd, Nat.reduceLeDiff, Nat.reduceMul, Nat.reduceEqDiff, Int.reduceLT, Int.reduceLE, Int.reduceToNat, Nat.reduceSub, Nat.reduceLT, Int.reduceEq, BitVec.reduceOfInt, BitVec.reduceOfNat, Int.reduceGT, Int.reduceGE, Int.reduceBEq, Int.reduceBNe, Nat.reduceGT, Nat.reduceBEq, Nat.reduceBNe, Int.reduceAdd, Int.reduceSub, Int.reduceNeg, hy.lenF, List.length_map, dn_loop]
  refine WP_range (by decide) C.length (fun i vs J' => vs = [y, .ptr 2 0 0, .bool st, y, nI C.length, nI i] ∧ Fr J J' []) ?_ ⟨rfl, .refl _ _⟩
  rintro i vs J1 ⟨rfl, hf⟩ hi K1 g1 g2 g3
  have h21 : J1[2]? = some (.cells 0 (resC R u) false) := by rw [hf.2 2 (lt_get h2) (by simp)]; exact h2
  have hin := inb h21
  by_cases h : i < C.length
  · have hat := fun J => hy.at (i := i) (by simpa using h) (J := J)
    simp only [List.getElem_map, Cl.e, Cl.c] at hat
    have hth : R.bd.there (i : Int) = true := by
      have : m.bd.l.length = C.length := hm.len
      rw [hb]; simp only [Bd.there, decide_eq_true_eq]; omega
    have hA := At_ok R.bd (i : Int)
    rw [hth] at hA
    simp only [if_true, Cl.c] at hA
    have fin : ∀ J', Fr J1 J' [] → K1 (.goto 3 [y, .ptr 2 0 0, .bool st, y, nI C.length, nI (i + 1)]) J' := fun J' hf' => g1 h _ _ ⟨rfl, hf.trans hf' (by simp)⟩
    have hci : (⟨C, hC⟩ : Bd).l[i]? = some C[i] := by simp [h]
    have hrem : IntKind.u64.wrap 0 = 0 := rfl
    have hbt := bit_test R.touched i
    have hkept : R.touched.getLsbD i = false → R.bd.at (i : Int) = C[i] := fun e => by
      rw [ht] at e
      have := hm.kept i e
      rw [hb]; exact bd_at (this.trans hci)
    have hlab : ns = true → (R.bd.at (i : Int)).v = C[i].v ∧ within C[i].s (R.bd.at (i : Int)).s = true := fun e => by
      obtain ⟨c', k1, k2, k3⟩ := hm.lab e i C[i] hci
      rw [hb, bd_at k1]; exact ⟨k2, k3⟩
    generalize R.bd.at (i : Int) = c' at *
    unfold l_law09_VmKeeps_k1
    have ff : Fr J1 ((J1.push (IB.cells 0 [IV.int .i32 C[i].v, m32 C[i].s] false)).push (IB.cells 0 [IV.int .i32 c'.v, m32 c'.s] false)) [] := (Fr.push _ _ []).trans (.push _ _ []) (by simp)
    cases hb2 : R.touched.getLsbD i with
    | false =>
      rw [hb2] at hbt
      have he := hkept hb2
      have heq := eqAgg_cl C[i] c'
      rw [he] at heq
      cases ns with
      | true =>
        obtain ⟨l1, l2⟩ := hlab rfl
        have hw := Within_ok C[i].s c'.s
        rw [l2, he] at hw
        subst hst
        simp -implicitDefEqProofs only [go_sem, dnW_ite, reduceIte, Nat.reduceAdd, Nat.reduceLeDiff, Nat.reduceMul, Nat.reduceEqDiff, Int.reduceLT, Int.reduceLE, Int.reduceToNat, Nat.reduceSub, Nat.reduceLT, Int.reduceEq, BitVec.reduceOfInt, BitVec.reduceOfNat, Int.reduceGT, Int.reduceGE, Int.reduceBEq, Int.reduceBNe, Nat.reduceGT, Nat.reduceBEq, Nat.reduceBNe, Int.reduceAdd, Int.reduceSub, Int.reduceNeg, show ((i : Int) < (C.length : Int)) by omega, hat, h21, Array.getElem?_push, hin, dcp hA (by simp [ipureL, ipure, bdc_pure]), show ¬ (i : Int) < 0 by omega, show min i 64 = i by omega, hbt, he, heq, dcp hw rfl, wrapS h (show C.length ≤ 9223372036854775807 by omega), bne_self_eq_false, show ¬ ((2 : Int) = 0) by decide]
        rw [he] at ff
        exact fin _ ff
      | false =>
        subst hst
        simp -implicitDefEqProofs only [go_sem, dnW_ite, reduceIte, Nat.reduceAdd, Nat.reduceLeDiff, Nat.reduceMul, Nat.reduceEqDiff, Int.reduceLT, Int.reduceLE, Int.reduceToNat, Nat.reduceSub, Nat.reduceLT, Int.reduceEq, BitVec.reduceOfInt, BitVec.reduceOfNat, Int.reduceGT, Int.reduceGE, Int.reduceBEq, Int.reduceBNe, Nat.reduceGT, Nat.reduceBEq, Nat.reduceBNe, Int.reduceAdd, Int.reduceSub, Int.reduceNeg, show ((i : Int) < (C.length : Int)) by omega, hat, h21, Array.getElem?_push, hin, dcp hA (by simp [ipureL, ipure, bdc_pure]), show ¬ (i : Int) < 0 by omega, show min i 64 = i by omega, hbt, he, heq, wrapS h (show C.length ≤ 9223372036854775807 by omega), bne_self_eq_false, show ¬ ((2 : Int) = 0) by decide]
        rw [he] at ff
        exact fin _ ff
    | true =>
      rw [hb2] at hbt
      cases ns with
      | true =>
        obtain ⟨l1, l2⟩ := hlab rfl
        have hw := Within_ok C[i].s c'.s
        rw [l2] at hw
        subst hst
        simp -implicitDefEqProofs only [go_sem, dnW_ite, reduceIte, Nat.reduceAdd, Nat.reduceLeDiff, Nat.reduceMul, Nat.reduceEqDiff, Int.reduceLT, Int.reduceLE, Int.reduceToNat, Nat.reduceSub, Nat.reduceLT, Int.reduceEq, BitVec.reduceOfInt, BitVec.reduceOfNat, Int.reduceGT, Int.reduceGE, Int.reduceBEq, Int.reduceBNe, Nat.reduceGT, Nat.reduceBEq, Nat.reduceBNe, Int.reduceAdd, Int.reduceSub, Int.reduceNeg, show ((i : Int) < (C.length : Int)) by omega, hat, h21, Array.getElem?_push, hin, dcp hA (by simp [ipureL, ipure, bdc_pure]), show ¬ (i : Int) < 0 by omega, show min i 64 = i by omega, hbt, l1, dcp hw rfl, wrapS h (show C.length ≤ 9223372036854775807 by omega), bne_self_eq_false, show ¬ ((2 : Int) = 0) by decide]
        rw [l1] at ff
        exact fin _ ff
      | false =>
        subst hst
        simp -implicitDefEqProofs only [go_sem, dnW_ite, reduceIte, Nat.reduceAdd, Nat.reduceLeDiff, Nat.reduceMul, Nat.reduceEqDiff, Int.reduceLT, Int.reduceLE, Int.reduceToNat, Nat.reduceSub, Nat.reduceLT, Int.reduceEq, BitVec.reduceOfInt, BitVec.reduceOfNat, Int.reduceGT, Int.reduceGE, Int.reduceBEq, Int.reduceBNe, Nat.reduceGT, Nat.reduceBEq, Nat.reduceBNe, Int.reduceAdd, Int.reduceSub, Int.reduceNeg, show ((i : Int) < (C.length : Int)) by omega, hat, h21, Array.getElem?_push, hin, dcp hA (by simp [ipureL, ipure, bdc_pure]), show ¬ (i : Int) < 0 by omega, show min i 64 = i by omega, hbt, wrapS h (show C.length ≤ 9223372036854775807 by omega), bne_self_eq_false, show ¬ ((2 : Int) = 0) by decide]
        exact fin _ ff
  · unfold l_law09_VmKeeps_k1
    simp -implicitDefEqProofs only [go_sem, dnW_ite, reduceIte, Nat.reduceAdd, Nat.reduceLeDiff, Nat.reduceMul, Nat.reduceEqDiff, Int.reduceLT, Int.reduceLE, Int.reduceToNat, Nat.reduceSub, Nat.reduceLT, Int.reduceEq, BitVec.reduceOfInt, BitVec.reduceOfNat, Int.reduceGT, Int.reduceGE, Int.reduceBEq, Int.reduceBNe, Nat.reduceGT, Nat.reduceBEq, Nat.reduceBNe, Int.reduceAdd, Int.reduceSub, Int.reduceNeg, show ¬ ((i : Int) < (C.length : Int)) by omega]
    refine g2 _ _ ?_
    unfold l_law09_VmKeeps_k2
    have hsh := shr_zero (t := R.touched) (n := C.length) (fun i hi => by rw [ht]; exact hm.high i hi)
    have hl : R.bd.l.length = C.length := by rw [hb]; exact hm.len
    simp -implicitDefEqProofs only [go_sem, dnW_ite, reduceIte, Nat.reduceAdd, Nat.reduceLeDiff, Nat.reduceMul, Nat.reduceEqDiff, Int.reduceLT, Int.reduceLE, Int.reduceToNat, Nat.reduceSub, Nat.reduceLT, Int.reduceEq, BitVec.reduceOfInt, BitVec.reduceOfNat, Int.reduceGT, Int.reduceGE, Int.reduceBEq, Int.reduceBNe, Nat.reduceGT, Nat.reduceBEq, Nat.reduceBNe, Int.reduceAdd, Int.reduceSub, Int.reduceNeg, h21, dcp (Len_ok R.bd) (by simp [ipureL, ipure, bdc_pure]), hy.lenF, List.length_map, hl, show ¬ (C.length : Int) < 0 by omega, show min C.length 64 = C.length by omega, hsh]
    exact hK _
theorem playersF_len (l : List Int) : (playersF l).length ≤ 6 := by
  unfold playersF; split <;> simp; omega
theorem playersF_rng {l : List Int} (h : ∀ v ∈ l, I32 v) : ∀ v ∈ playersF l, I32 v := by
  unfold playersF; split
  · intro v hv; simp at hv; subst hv; exact I32_0
  · exact fun v hv => h v (List.mem_of_mem_take hv)
theorem Keeps_ok (x c mv : IV) (l : List Cd) (cl : List Cl) (d : Int) (ms : List Int) (hx : Ls 6 x (l.map Cd.e)) (hc : Ls 2 c (cl.map Cl.e)) (hm : Ls 1 mv (ms.map (IV.int .i32))) (hw : ∀ q ∈ l, q.wf) (hv : ∀ q ∈ cl, I32 q.v) (hmr : ∀ v ∈ ms, I32 v) (hb : l.length ≤ 9223372036854775807) (hb2 : cl.length ≤ 9223372036854775807) (hb3 : ms.length ≤ 9223372036854775807) :
    pc BI F_law09_VmKeeps [x, c, .agg [.int .u64 d], mv] = some (.bool true) := by
  refine pcE fn_law09_VmKeeps rfl fun K hK => ?_
  obtain ⟨y, hy, hyl⟩ := few_ok c cl hc hb2
  obtain ⟨q, hq, hql⟩ := players_ok mv ms hm hb3
  obtain ⟨_, hz, z1, z2, rfl, hz1, hz2⟩ := codes_ok x l hx hb
  have hw' : ∀ q ∈ l.take 96, q.wf := fun q hq => hw q (List.mem_of_mem_take hq)
  have hl96 : (l.take 96).length ≤ 96 := by simp; omega
  generalize l.take 96 = L at *
  have hn := New48 y cl hyl
  have hE : (⟨q, playersF ms, 3, allM 8⟩ : Me).ok := ⟨hql, playersF_rng hmr, by have := playersF_len ms; show (playersF ms).length ≤ _; omega⟩
  obtain ⟨_, hr, s, hs, rfl⟩ := Run_ok z1 L hz1 hw' (by omega) (bd48 cl) (bd48_ok hv) d ⟨q, playersF ms, 3, allM 8⟩ hE
  have hr' : pc BI F_vm_Run [z1, .agg (bdc (bd48 cl)), .agg [.int .u64 d], q, .int .u32 3, m32 (allM 8)] = _ := hr
  have ha : pc BI F_mask_All [.int .i64 8] = some (m32 (allM 8)) := All_ok 8
  obtain ⟨k1, k2⟩ := keeps_run hE L hw' (bd48 cl) (bd48_ok hv) d (!L.any isStore) (fun e => by simpa using e)
  have hbd : bd48 cl = ⟨cl.take 48, (bd48 cl).h⟩ := rfl
  generalize runF ⟨q, playersF ms, 3, allM 8⟩ L (bd48 cl) d = R at *
  unfold l_law09_VmKeeps
  by_cases he : R.err = 0
  · have he' : ((R.err : Int) != 0) = false := by simp [he]
    simp -implicitDefEqProofs only [go_sem, dnW_ite, reduceIte, Nat.reduceAdd, Nat.reduceLeDiff, Nat.reduceMul, Nat.reduceEqDiff, Int.reduceLT, Int.reduceLE, Int.reduceToNat, Nat.reduceSub, Nat.reduceLT, Int.reduceEq, BitVec.reduceOfInt, BitVec.reduceOfNat, Int.reduceGT, Int.reduceGE, Int.reduceBEq, Int.reduceBNe, Nat.reduceGT, Nat.reduceBEq, Nat.reduceBNe, Int.reduceAdd, Int.reduceSub, Int.reduceNeg, dcp awake09 rfl, dcp hy (by simp [ipureL, hc.pure]), dcp hq (by simp [ipureL, hm.pure]), dcp hz (by simp [ipureL, hx.pure]), dcp hn (by simp [ipureL, hyl.pure]), dcp ha rfl, dcp hr' (by simp [ipureL, ipure, hz1.pure, hql.pure, bdc_pure]), rs_one _ _ hs.one, he']
    refine keeps_k0 z1 L hz1 hl96 y _ (by simp) K fun J' hf => ?_
    refine keeps_k1 y (cl.take 48) (bd48 cl).h hyl R s (!L.any isStore) J' ?_ (k2 he) _ (by simp) K (fun J2 => hK _ _ (frzE rfl rfl))
    rw [hf.2 2 (by simp) (by simp)]; rfl
  · have he' : ((R.err : Int) != 0) = true := by simp; omega
    obtain ⟨b1, b2, b3, b4⟩ := k1 he
    simp -implicitDefEqProofs only [go_sem, dnW_ite, reduceIte, Nat.reduceAdd, Nat.reduceLeDiff, Nat.reduceMul, Nat.reduceEqDiff, Int.reduceLT, Int.reduceLE, Int.reduceToNat, Nat.reduceSub, Nat.reduceLT, Int.reduceEq, BitVec.reduceOfInt, BitVec.reduceOfNat, Int.reduceGT, Int.reduceGE, Int.reduceBEq, Int.reduceBNe, Nat.reduceGT, Nat.reduceBEq, Nat.reduceBNe, Int.reduceAdd, Int.reduceSub, Int.reduceNeg, dcp awake09 rfl, dcp hy (by simp [ipureL, hc.pure]), dcp hq (by simp [ipureL, hm.pure]), dcp hz (by simp [ipureL, hx.pure]), dcp hn (by simp [ipureL, hyl.pure]), dcp ha rfl, dcp hr' (by simp [ipureL, ipure, hz1.pure, hql.pure, bdc_pure]), rs_one _ _ hs.one, he', b1, b2, b3, eq_one, show ((R.used : Int) ≤ 400) by omega]
    exact hK _ _ (frzE rfl rfl)
end Go.Proofs.Ythihgfkpdbgogaa.G
