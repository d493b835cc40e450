/- The law DiceOrders. -/
import Derived.Test.YtdclinhgekbejaaD2
import Derived.Test.YtdclinhgekbejaaI11
namespace Go.Proofs.Ytdclinhgekbejaa.G
open Go
set_option linter.unusedSimpArgs false
set_option linter.unusedVariables false

/-! ### plain -/
def snN : Nat → Int → Int
  | 0, s => s
  | i + 1, s => snN i (sn s)
theorem shufL_state : ∀ (i : Nat) (s : Int) (ys : List Int), (shufL s i ys).2 = snN i s
  | 0, _, _ => rfl
  | i + 1, s, ys => by rw [shufL, shufL_state i]; rfl
theorem shufL_length : ∀ (i : Nat) (s : Int) (ys : List Int), (shufL s i ys).1.length = ys.length
  | 0, _, _ => rfl
  | i + 1, s, ys => by rw [shufL, shufL_length i]; simp
theorem shufL_map (f : Int → Int) : ∀ (i : Nat) (s : Int) (ys : List Int), i < ys.length → i < 1000000 → (shufL s i (ys.map f)).1 = (shufL s i ys).1.map f
  | 0, _, _, _, _ => rfl
  | i + 1, s, ys, h, hb => by
    obtain ⟨h0, h1⟩ := below_rng s ((i : Int) + 2) (by omega) (by omega)
    have hk : (below s ((i : Int) + 2)).toNat < ys.length := by omega
    rw [shufL, shufL, ← shufL_map f i _ _ (by simp; omega) (by omega)]
    congr 2
    simp [List.map_set, hk, h]
theorem shufL_mem : ∀ (i : Nat) (s : Int) (ys : List Int), i < ys.length → i < 1000000 → ∀ x ∈ (shufL s i ys).1, x ∈ ys
  | 0, s, ys, _, _, x, hx => hx
  | i + 1, s, ys, h, hb, x, hx => by
    obtain ⟨h0, h1⟩ := below_rng s ((i : Int) + 2) (by omega) (by omega)
    have hk : (below s ((i : Int) + 2)).toNat < ys.length := by omega
    rw [shufL] at hx
    have := shufL_mem i _ _ (by simp; omega) (by omega) x hx
    rcases List.mem_or_eq_of_mem_set this with h2 | rfl
    · rcases List.mem_or_eq_of_mem_set h2 with h3 | rfl
      · exact h3
      · simp [hk]
    · simp [h]
theorem snN_eq : ∀ (i : Nat) (s : Int), 0 ≤ s → s < 18446744073709551616 → snN i s = (s + 11400714819323198485 * (i : Int)) % 18446744073709551616
  | 0, s, h0, h1 => by simp only [snN]; omega
  | i + 1, s, h0, h1 => by
    have e : sn s = (s + 11400714819323198485) % 18446744073709551616 := by unfold sn; rw [wrap_u64_eq]
    rw [snN, snN_eq i _ (by rw [e]; omega) (by rw [e]; omega), e]
    omega
theorem skip_eq (s : Int) (n : Nat) (h0 : 0 ≤ s) (h1 : s < 18446744073709551616) (hn : n < 1000000) : skip s (n : Int) = snN n s := by
  rw [snN_eq n s h0 h1]
  unfold skip
  split
  · rw [wrap_u64_eq, wrap_u64_eq, wrap_u64_eq]
    omega
  · obtain rfl : n = 0 := by omega
    omega
def places (m k : Nat) : List Int := (List.range k).map (fun i : Nat => (i : Int)) ++ List.replicate (m - k) 0
theorem places_length {m k : Nat} (h : k ≤ m) : (places m k).length = m := by simp [places]; omega
theorem places_0 (m : Nat) : places m 0 = List.replicate m 0 := by simp [places]
theorem places_set {m k : Nat} (h : k < m) : (places m k).set k (k : Int) = places m (k + 1) := by
  unfold places
  obtain ⟨d, rfl⟩ : ∃ d, m = k + 1 + d := ⟨m - (k + 1), by omega⟩
  rw [show k + 1 + d - k = d + 1 by omega, show k + 1 + d - (k + 1) = d by omega, List.set_append_right _ _ (by simp)]
  simp [List.range_succ, List.replicate_succ]
theorem places_full (m : Nat) : places m m = (List.range m).map (fun i : Nat => (i : Int)) := by simp [places]

/-! ### the law's parts -/
theorem awake03 : pc BI F_law03_awake [] = some (.bool true) := by
  have h := Next_ok 0
  have h1 : nx 0 = 3793791033 := by decide +kernel
  have h2 : sn 0 = 11400714819323198485 := by decide +kernel
  rw [h1, h2] at h
  unfold dice at h
  refine pc_run fn_law03_awake rfl ?_
  unfold l_law03_awake
  simp -implicitDefEqProofs only [dn_o, dn_om, dn_oc, dn_ite, dn_ret, dn_join, dn_goto, iexec, evI_0, evI_succ, evI_int, evI_bool, evI_nilsl, evI_nilp, List.cons_append, List.nil_append, scal2_sc, abin, aun, ilift_some, thenI_some, onIf_bool, onJoin_goto, onJoin_ret, onJoin_ite, thenI_ite, Option.map_some, Option.map_none, decide_eq_true_eq, List.map_cons, List.map_nil, reduceIte, if_true, if_false, Bool.false_eq_true, inew, iload, istore, iwr, ird, icells, ione, one, List.getElem?_toArray, List.getElem?_cons_zero, List.getElem?_cons_succ, List.push_toArray, List.size_toArray, List.length_cons, List.length_nil, List.setIfInBounds_toArray, List.set_cons_zero, List.set_cons_succ, isplice_cons, List.drop_succ_cons, List.drop_zero, List.take_succ_cons, List.take_zero, List.drop_nil, List.take_nil, List.append_nil, List.all_cons, List.all_nil, Bool.and_true, Bool.true_and, Bool.and_self, Nat.zero_add, Nat.add_zero, Nat.reduceAdd, Nat.reduceLeDiff, Nat.reduceMul, Nat.le_refl, true_and, and_true, and_self, List.getElem?_nil, BI_zc, BI_zv, BI_co, zcT, zvT, coT, not_true_eq_false, not_false_eq_true, Bool.not_true, Bool.not_false, stepI', wantsI, ifill, ievs, Nat.reduceEqDiff, itup, Nat.le_add_left, Nat.le_add_right, iaggEq, List.foldl, iminI, iminF, imin2, min2, iisNil, isNil, ilen, Option.isNone_none, Option.isNone_some, Nat.zero_le, decide_true, decide_false, ireps, List.replicate, List.flatten_cons, List.flatten_nil, ichk, itouch, ctouch, ilooks, isame, untouched, Option.isSome_some, Bool.or_true, Bool.true_or, List.contains_nil, Int.reduceLT, Int.reduceLE, blkOf, IntKind.bits, iasNat, asNat, Int.toNat_natCast, Int.natCast_nonneg, List.length_map, endP_ret, endP_ite, Int.reduceToNat, iscells, ibnd, islice, capOf, Option.isSome_none, Bool.false_and, Bool.and_false, Bool.or_false, Bool.false_or, bne_self_eq_false, Nat.not_lt_zero, Nat.mul_one, Nat.one_mul, Nat.zero_mul, Nat.mul_zero, onJoin_out, beq_self_eq_true, Nat.sub_zero, Nat.reduceSub, List.length_set, false_implies, implies_true, forall_const, dcp h rfl, Int.reduceBEq, Int.reduceBNe, bne_iff_ne, Int.reduceNe, decide_eq_true_eq]
  exact frzP rfl

def oH (L : List Int) (q : Bool) (ys : List Int) : JH := [IB.cells 0 (L.map (IV.int .i32)) q, IB.cells 0 (ys.map (IV.int .i32)) false].toArray
theorem fill_step (s : Int) (L : List Int) (n k : Nat) (hk : k < n) (hb : n ≤ 1000) (ys : List Int) (hy : ys.length = n) :
    dn BI l_law03_DiceOrders_k0 [.int .u64 s, .sl 0 0 0 n (UNK + 1) 1, .sl 1 0 0 n n 1, .int .i64 n, .int .i64 k] (oH L false ys) =
    some (.goto 1 [.int .u64 s, .sl 0 0 0 n (UNK + 1) 1, .sl 1 0 0 n n 1, .int .i64 n, .int .i64 ((k + 1 : Nat) : Int)], oH L false (ys.set k k)) := by
  have hw : IntKind.i64.wrap ((k : Int) + 1) = ((k + 1 : Nat) : Int) := by rw [wrap_i64 (by omega) (by omega)]; omega
  have hw2 : IntKind.i32.wrap (k : Int) = (k : Int) := wrap_i32 (by omega) (by omega)
  have hlt : (k : Int) < (n : Int) := by omega
  have hky : k < ys.length := by omega
  have hky1 : k + 1 ≤ ys.length := by omega
  unfold l_law03_DiceOrders_k0 oH
  simp -implicitDefEqProofs only [dn_o, dn_om, dn_oc, dn_ite, dn_ret, dn_join, dn_goto, iexec, evI_0, evI_succ, evI_int, evI_bool, evI_nilsl, evI_nilp, List.cons_append, List.nil_append, scal2_sc, abin, aun, ilift_some, thenI_some, onIf_bool, onJoin_goto, onJoin_ret, onJoin_ite, thenI_ite, Option.map_some, Option.map_none, decide_eq_true_eq, List.map_cons, List.map_nil, reduceIte, if_true, if_false, Bool.false_eq_true, inew, iload, istore, iwr, ird, icells, ione, one, List.getElem?_toArray, List.getElem?_cons_zero, List.getElem?_cons_succ, List.push_toArray, List.size_toArray, List.length_cons, List.length_nil, List.setIfInBounds_toArray, List.set_cons_zero, List.set_cons_succ, isplice_cons, List.drop_succ_cons, List.drop_zero, List.take_succ_cons, List.take_zero, List.drop_nil, List.take_nil, List.append_nil, List.all_cons, List.all_nil, Bool.and_true, Bool.true_and, Bool.and_self, Nat.zero_add, Nat.add_zero, Nat.reduceAdd, Nat.reduceLeDiff, Nat.reduceMul, Nat.le_refl, true_and, and_true, and_self, List.getElem?_nil, BI_zc, BI_zv, BI_co, zcT, zvT, coT, not_true_eq_false, not_false_eq_true, Bool.not_true, Bool.not_false, stepI', wantsI, ifill, ievs, Nat.reduceEqDiff, itup, Nat.le_add_left, Nat.le_add_right, iaggEq, List.foldl, iminI, iminF, imin2, min2, iisNil, isNil, ilen, Option.isNone_none, Option.isNone_some, Nat.zero_le, decide_true, decide_false, ireps, List.replicate, List.flatten_cons, List.flatten_nil, ichk, itouch, ctouch, ilooks, isame, untouched, Option.isSome_some, Bool.or_true, Bool.true_or, List.contains_nil, Int.reduceLT, Int.reduceLE, blkOf, IntKind.bits, iasNat, asNat, Int.toNat_natCast, Int.natCast_nonneg, List.length_map, endP_ret, endP_ite, Int.reduceToNat, iscells, ibnd, islice, capOf, Option.isSome_none, Bool.false_and, Bool.and_false, Bool.or_false, Bool.false_or, bne_self_eq_false, Nat.not_lt_zero, Nat.mul_one, Nat.one_mul, Nat.zero_mul, Nat.mul_zero, onJoin_out, beq_self_eq_true, Nat.sub_zero, Nat.reduceSub, List.length_set, false_implies, implies_true, forall_const, hw, hw2, hlt, hk, hky, hky1, isplice_ints]
theorem fill_loop (s : Int) (L : List Int) (n : Nat) (hb : n ≤ 1000) (r : Nat) : ∀ k, k + r = n →
    iter (dn BI l_law03_DiceOrders_k0) 1 [.int .u64 s, .sl 0 0 0 n (UNK + 1) 1, .sl 1 0 0 n n 1, .int .i64 n, .int .i64 (k : Nat)] (oH L false (places n k)) =
    some (.goto 0 [.int .u64 s, .sl 0 0 0 n (UNK + 1) 1, .sl 1 0 0 n n 1], oH L false (places n n)) := by
  induction r with
  | zero =>
    intro k hk
    obtain rfl : k = n := by omega
    refine iter_out ?_ (by decide)
    have hlt : ¬ ((k : Int) < (k : Int)) := by omega
    unfold l_law03_DiceOrders_k0
    simp -implicitDefEqProofs only [dn_o, dn_om, dn_oc, dn_ite, dn_ret, dn_join, dn_goto, iexec, evI_0, evI_succ, evI_int, evI_bool, evI_nilsl, evI_nilp, List.cons_append, List.nil_append, scal2_sc, abin, aun, ilift_some, thenI_some, onIf_bool, onJoin_goto, onJoin_ret, onJoin_ite, thenI_ite, Option.map_some, Option.map_none, decide_eq_true_eq, List.map_cons, List.map_nil, reduceIte, if_true, if_false, Bool.false_eq_true, inew, iload, istore, iwr, ird, icells, ione, one, List.getElem?_toArray, List.getElem?_cons_zero, List.getElem?_cons_succ, List.push_toArray, List.size_toArray, List.length_cons, List.length_nil, List.setIfInBounds_toArray, List.set_cons_zero, List.set_cons_succ, isplice_cons, List.drop_succ_cons, List.drop_zero, List.take_succ_cons, List.take_zero, List.drop_nil, List.take_nil, List.append_nil, List.all_cons, List.all_nil, Bool.and_true, Bool.true_and, Bool.and_self, Nat.zero_add, Nat.add_zero, Nat.reduceAdd, Nat.reduceLeDiff, Nat.reduceMul, Nat.le_refl, true_and, and_true, and_self, List.getElem?_nil, BI_zc, BI_zv, BI_co, zcT, zvT, coT, not_true_eq_false, not_false_eq_true, Bool.not_true, Bool.not_false, stepI', wantsI, ifill, ievs, Nat.reduceEqDiff, itup, Nat.le_add_left, Nat.le_add_right, iaggEq, List.foldl, iminI, iminF, imin2, min2, iisNil, isNil, ilen, Option.isNone_none, Option.isNone_some, Nat.zero_le, decide_true, decide_false, ireps, List.replicate, List.flatten_cons, List.flatten_nil, ichk, itouch, ctouch, ilooks, isame, untouched, Option.isSome_some, Bool.or_true, Bool.true_or, List.contains_nil, Int.reduceLT, Int.reduceLE, blkOf, IntKind.bits, iasNat, asNat, Int.toNat_natCast, Int.natCast_nonneg, List.length_map, endP_ret, endP_ite, Int.reduceToNat, iscells, ibnd, islice, capOf, Option.isSome_none, Bool.false_and, Bool.and_false, Bool.or_false, Bool.false_or, bne_self_eq_false, Nat.not_lt_zero, Nat.mul_one, Nat.one_mul, Nat.zero_mul, Nat.mul_zero, onJoin_out, beq_self_eq_true, Nat.sub_zero, Nat.reduceSub, List.length_set, false_implies, implies_true, forall_const, hlt]
  | succ r ih =>
    intro k hk
    have h := fill_step s L n k (by omega) hb (places n k) (places_length (by omega))
    rw [places_set (by omega)] at h
    exact iter_step h (ih (k + 1) (by omega))

def eH (L : List Int) (b1 : IB) (s x : Int) : JH := [IB.cells 0 (L.map (IV.int .i32)) true, b1, IB.cells 0 [.int .u64 s] false, IB.cells 0 [.int .u64 x] false, IB.cells 0 [.int .u64 x] false].toArray
def eSt (n : Nat) (A B : List Int) (c : Nat) : List IV := [.sl 0 0 0 n (UNK + 1) 1, .ptr 2 0 0, .lst 1 false (A.map (IV.int .i32)), .ptr 3 0 0, .lst 1 false (B.map (IV.int .i32)), .ptr 4 0 0, .lst 1 false (A.map (IV.int .i32)), .int .i64 n, .int .i64 (c : Nat)]
theorem cmp_step (L A B : List Int) (b1 : IB) (s x : Int) (n c : Nat) (hb : n ≤ 1000) (hc : c < n) (hA : A.length = n) (hB : B.length = n) (hL : L.length = n) (a : Int) (ha : A[c]? = some a) (h0 : 0 ≤ a) (h1 : a.toNat < n) (hBc : B[c]? = some (L.getD a.toNat 0)) :
    dn BI l_law03_DiceOrders_k1 (eSt n A B c) (eH L b1 s x) = some (.goto 2 (eSt n A B (c + 1)), eH L b1 s x) := by
  have hw : IntKind.i64.wrap ((c : Int) + 1) = ((c + 1 : Nat) : Int) := by rw [wrap_i64 (by omega) (by omega)]; omega
  have hlt : (c : Int) < (n : Int) := by omega
  have h1L : a.toNat < L.length := by omega
  have h1L2 : a.toNat + 1 ≤ L.length := by omega
  unfold l_law03_DiceOrders_k1 eSt eH
  simp -implicitDefEqProofs only [dn_o, dn_om, dn_oc, dn_ite, dn_ret, dn_join, dn_goto, iexec, evI_0, evI_succ, evI_int, evI_bool, evI_nilsl, evI_nilp, List.cons_append, List.nil_append, scal2_sc, abin, aun, ilift_some, thenI_some, onIf_bool, onJoin_goto, onJoin_ret, onJoin_ite, thenI_ite, Option.map_some, Option.map_none, decide_eq_true_eq, List.map_cons, List.map_nil, reduceIte, if_true, if_false, Bool.false_eq_true, inew, iload, istore, iwr, ird, icells, ione, one, List.getElem?_toArray, List.getElem?_cons_zero, List.getElem?_cons_succ, List.push_toArray, List.size_toArray, List.length_cons, List.length_nil, List.setIfInBounds_toArray, List.set_cons_zero, List.set_cons_succ, isplice_cons, List.drop_succ_cons, List.drop_zero, List.take_succ_cons, List.take_zero, List.drop_nil, List.take_nil, List.append_nil, List.all_cons, List.all_nil, Bool.and_true, Bool.true_and, Bool.and_self, Nat.zero_add, Nat.add_zero, Nat.reduceAdd, Nat.reduceLeDiff, Nat.reduceMul, Nat.le_refl, true_and, and_true, and_self, List.getElem?_nil, BI_zc, BI_zv, BI_co, zcT, zvT, coT, not_true_eq_false, not_false_eq_true, Bool.not_true, Bool.not_false, stepI', wantsI, ifill, ievs, Nat.reduceEqDiff, itup, Nat.le_add_left, Nat.le_add_right, iaggEq, List.foldl, iminI, iminF, imin2, min2, iisNil, isNil, ilen, Option.isNone_none, Option.isNone_some, Nat.zero_le, decide_true, decide_false, ireps, List.replicate, List.flatten_cons, List.flatten_nil, ichk, itouch, ctouch, ilooks, isame, untouched, Option.isSome_some, Bool.or_true, Bool.true_or, List.contains_nil, Int.reduceLT, Int.reduceLE, blkOf, IntKind.bits, iasNat, asNat, Int.toNat_natCast, Int.natCast_nonneg, List.length_map, endP_ret, endP_ite, Int.reduceToNat, iscells, ibnd, islice, capOf, Option.isSome_none, Bool.false_and, Bool.and_false, Bool.or_false, Bool.false_or, bne_self_eq_false, Nat.not_lt_zero, Nat.mul_one, Nat.one_mul, Nat.zero_mul, Nat.mul_zero, onJoin_out, beq_self_eq_true, Nat.sub_zero, Nat.reduceSub, List.length_set, false_implies, implies_true, forall_const, hw, hlt, List.getElem?_map, ha, hBc, h0, h1, h1L, h1L2, take1_ints, bne_self_eq_false]
theorem cmp_loop (L A B : List Int) (b1 : IB) (s x : Int) (n : Nat) (hb : n ≤ 1000) (hA : A.length = n) (hB : B.length = n) (hL : L.length = n) (h : ∀ c, c < n → ∃ a, A[c]? = some a ∧ 0 ≤ a ∧ a.toNat < n ∧ B[c]? = some (L.getD a.toNat 0)) (r : Nat) : ∀ c, c + r = n →
    iter (dn BI l_law03_DiceOrders_k1) 2 (eSt n A B c) (eH L b1 s x) = some (.goto 1 [.sl 0 0 0 n (UNK + 1) 1, .ptr 2 0 0, .lst 1 false (A.map (IV.int .i32)), .ptr 3 0 0, .ptr 4 0 0], eH L b1 s x) := by
  induction r with
  | zero =>
    intro c hc
    obtain rfl : c = n := by omega
    refine iter_out ?_ (by decide)
    have hlt : ¬ ((c : Int) < (c : Int)) := by omega
    unfold l_law03_DiceOrders_k1 eSt
    simp -implicitDefEqProofs only [dn_o, dn_om, dn_oc, dn_ite, dn_ret, dn_join, dn_goto, iexec, evI_0, evI_succ, evI_int, evI_bool, evI_nilsl, evI_nilp, List.cons_append, List.nil_append, scal2_sc, abin, aun, ilift_some, thenI_some, onIf_bool, onJoin_goto, onJoin_ret, onJoin_ite, thenI_ite, Option.map_some, Option.map_none, decide_eq_true_eq, List.map_cons, List.map_nil, reduceIte, if_true, if_false, Bool.false_eq_true, inew, iload, istore, iwr, ird, icells, ione, one, List.getElem?_toArray, List.getElem?_cons_zero, List.getElem?_cons_succ, List.push_toArray, List.size_toArray, List.length_cons, List.length_nil, List.setIfInBounds_toArray, List.set_cons_zero, List.set_cons_succ, isplice_cons, List.drop_succ_cons, List.drop_zero, List.take_succ_cons, List.take_zero, List.drop_nil, List.take_nil, List.append_nil, List.all_cons, List.all_nil, Bool.and_true, Bool.true_and, Bool.and_self, Nat.zero_add, Nat.add_zero, Nat.reduceAdd, Nat.reduceLeDiff, Nat.reduceMul, Nat.le_refl, true_and, and_true, and_self, List.getElem?_nil, BI_zc, BI_zv, BI_co, zcT, zvT, coT, not_true_eq_false, not_false_eq_true, Bool.not_true, Bool.not_false, stepI', wantsI, ifill, ievs, Nat.reduceEqDiff, itup, Nat.le_add_left, Nat.le_add_right, iaggEq, List.foldl, iminI, iminF, imin2, min2, iisNil, isNil, ilen, Option.isNone_none, Option.isNone_some, Nat.zero_le, decide_true, decide_false, ireps, List.replicate, List.flatten_cons, List.flatten_nil, ichk, itouch, ctouch, ilooks, isame, untouched, Option.isSome_some, Bool.or_true, Bool.true_or, List.contains_nil, Int.reduceLT, Int.reduceLE, blkOf, IntKind.bits, iasNat, asNat, Int.toNat_natCast, Int.natCast_nonneg, List.length_map, endP_ret, endP_ite, Int.reduceToNat, iscells, ibnd, islice, capOf, Option.isSome_none, Bool.false_and, Bool.and_false, Bool.or_false, Bool.false_or, bne_self_eq_false, Nat.not_lt_zero, Nat.mul_one, Nat.one_mul, Nat.zero_mul, Nat.mul_zero, onJoin_out, beq_self_eq_true, Nat.sub_zero, Nat.reduceSub, List.length_set, false_implies, implies_true, forall_const, hlt]
  | succ r ih =>
    intro c hc
    obtain ⟨a, h1, h2, h3, h4⟩ := h c (by omega)
    exact iter_step (cmp_step L A B b1 s x n c hb (by omega) hA hB hL a h1 h2 h3 h4) (ih (c + 1) (by omega))
end Go.Proofs.Ytdclinhgekbejaa.G
