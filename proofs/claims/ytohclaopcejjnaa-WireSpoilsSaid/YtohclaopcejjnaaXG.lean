/- Joined: E6 to E15. -/
import Derived.Test.YtohclaopcejjnaaXF
set_option linter.unusedVariables false
set_option linter.unusedSimpArgs false
namespace Go.Proofs.Ytohclaopcejjnaa.G
open Go
set_option linter.unusedSimpArgs false
set_option linter.unusedVariables false
def encY (Y : List (IV × Int)) : List (List IV) := Y.map fun y => [y.1, .int .i64 y.2]
theorem encY_2 (Y : List (IV × Int)) : ∀ e ∈ encY Y, e.length = 2 := by
  intro e he
  obtain ⟨y, _, rfl⟩ := List.mem_map.1 he
  rfl
theorem encY_len (Y : List (IV × Int)) : (encY Y).length = Y.length := by simp [encY]
theorem encY_at {Y : List (IV × Int)} {i : Nat} (h : i < Y.length) (h' : i < (encY Y).length) : (encY Y)[i] = [Y[i].1, .int .i64 Y[i].2] := by simp [encY]
theorem gone_ok (y : IV × Int) (h : ione y.1 = true) : pc BI F_wire_Wire_Take_1 [.agg [y.1, .int .i64 y.2]] = some (.bool (decide (y.2 < 0))) := by
  refine pcE fn_wire_Wire_Take_1 rfl fun K hK => ?_
  unfold l_wire_Wire_Take_1
  simp -implicitDefEqProofs only [dn_ret, dn_goto, iexec, evI_0, evI_succ, evI_int, evI_bool, evI_nilsl, evI_nilp, List.cons_append, List.nil_append, scal2_sc, abin, aun, ilift_some, Option.map_some, Option.map_none, decide_eq_true_eq, List.map_cons, List.map_nil, reduceIte, if_true, if_false, Bool.false_eq_true, inew, iload, istore, iwr, ird, icells, ione, one, List.getElem?_toArray, List.getElem?_cons_zero, List.getElem?_cons_succ, List.push_toArray, List.size_toArray, List.length_cons, List.length_nil, List.setIfInBounds_toArray, List.set_cons_zero, List.set_cons_succ, isplice_cons, List.drop_succ_cons, List.drop_zero, List.take_succ_cons, List.take_zero, List.drop_nil, List.take_nil, List.append_nil, List.all_cons, List.all_nil, Bool.and_true, Bool.true_and, Bool.and_self, Nat.zero_add, Nat.add_zero, Nat.reduceAdd, Nat.reduceLeDiff, Nat.reduceMul, Nat.le_refl, true_and, and_true, and_self, List.getElem?_nil, BI_zc, BI_zv, BI_co, zcT, zvT, coT, not_true_eq_false, not_false_eq_true, Bool.not_true, Bool.not_false, stepI', wantsI, ifill, ievs, Nat.reduceEqDiff, itup, Nat.le_add_left, Nat.le_add_right, iaggEq, List.foldl, iminI, iminF, imin2, min2, iisNil, isNil, ilen, Option.isNone_none, Option.isNone_some, Nat.zero_le, decide_true, decide_false, ireps, List.replicate, List.flatten_cons, List.flatten_nil, ichk, itouch, ctouch, ilooks, isame, untouched, Option.isSome_some, Bool.or_true, Bool.true_or, List.contains_nil, Int.reduceLT, Int.reduceLE, blkOf, IntKind.bits, iasNat, asNat, Int.toNat_natCast, Int.natCast_nonneg, List.length_map, Int.reduceToNat, iscells, ibnd, islice, capOf, Option.isSome_none, Bool.false_and, Bool.and_false, Bool.or_false, Bool.false_or, bne_self_eq_false, Nat.not_lt_zero, Nat.mul_one, Nat.one_mul, Nat.zero_mul, Nat.mul_zero, beq_self_eq_true, Nat.sub_zero, Nat.reduceSub, List.length_set, false_implies, implies_true, forall_const, ↓dnW_oca, Nat.reduceLT, evI_fn, Nat.zero_lt_one, dnW_o, dnW_om, dnW_oc, dnW_ite, dnW_join, thenD_some, thenD_ite, onIfD_bool, onJoinD_out, onJoinD_ret, onJoinD_ite, Int.reduceEq, WP_some, WP_ite, byOut_goto, byOut_ret, ↓iexec_len, ↓iexec_iaddr, ↓iexec_append, ↓iexec_store, storeF_ptr, lenF_nil, lenF_lst, lenF_sl, lenF_str, iaddrF_sl, iaddrF_lst, ↓h]
  exact hK _ _ (frzE rfl rfl)
def Yok (Y : List (IV × Int)) : Prop := ∀ y ∈ Y, ione y.1 = true ∧ ipure y.1 = true
theorem load2 {Y : List (IV × Int)} {full rest : List IV} (hf : full = (encY Y).flatten ++ rest) {i : Nat} (h : i < Y.length) : (full.drop (i * 2)).take 2 = [Y[i].1, .int .i64 Y[i].2] ∧ i * 2 + 2 ≤ full.length := by
  subst hf
  refine ⟨?_, ?_⟩
  · rw [flat_at (encY_2 Y) (by rw [encY_len]; exact h), encY_at h]
  · rw [List.length_append, flat_len (encY_2 Y), encY_len]; omega
theorem md119 : BI.md F_wire_Wire_Take_1 = .pure := rfl
theorem index_step (c v : Nat) (Y : List (IV × Int)) (hY : Yok Y) (full rest : List IV) (hf : full = (encY Y).flatten ++ rest) (i : Nat) (hi : i ≤ Y.length) (hb : Y.length ≤ 1000000) (J : JH) (hJ : J[c]? = some (.cells v full false)) (K : Out IV → JH → Prop)
    (h0 : i = Y.length → K (.goto 0 []) J)
    (h1 : ∀ (h : i < Y.length), Y[i].2 < 0 → K (.ret [.int .i64 (i : Int)]) J)
    (h2 : ∀ (h : i < Y.length), ¬ Y[i].2 < 0 → K (.goto 1 [.sl c v 0 Y.length (UNK + 2) 2, .fn F_wire_Wire_Take_1 [] [], .int .i64 ((Y.length : Nat) : Int), .int .i64 ((i + 1 : Nat) : Int)]) J) :
    WP (dn BI l_slices_IndexFunc_Lwire_waiting_wire_waiting_k0 [.sl c v 0 Y.length (UNK + 2) 2, .fn F_wire_Wire_Take_1 [] [], .int .i64 ((Y.length : Nat) : Int), .int .i64 (i : Int)] J) K := by
  by_cases h : i < Y.length
  · have hw : IntKind.i64.wrap ((i : Int) + 1) = ((i + 1 : Nat) : Int) := by rw [wrap_i64 (by omega) (by omega)]; omega
    obtain ⟨e1, e2⟩ := load2 hf h
    obtain ⟨o1, o2⟩ := hY _ (List.getElem_mem h)
    have hg := gone_ok Y[i] o1
    unfold l_slices_IndexFunc_Lwire_waiting_wire_waiting_k0
    simp -implicitDefEqProofs only [dn_ret, dn_goto, iexec, evI_0, evI_succ, evI_int, evI_bool, evI_nilsl, evI_nilp, List.cons_append, List.nil_append, scal2_sc, abin, aun, ilift_some, Option.map_some, Option.map_none, decide_eq_true_eq, List.map_cons, List.map_nil, reduceIte, if_true, if_false, Bool.false_eq_true, inew, iload, istore, iwr, ird, icells, ione, one, List.getElem?_toArray, List.getElem?_cons_zero, List.getElem?_cons_succ, List.push_toArray, List.size_toArray, List.length_cons, List.length_nil, List.setIfInBounds_toArray, List.set_cons_zero, List.set_cons_succ, isplice_cons, List.drop_succ_cons, List.drop_zero, List.take_succ_cons, List.take_zero, List.drop_nil, List.take_nil, List.append_nil, List.all_cons, List.all_nil, Bool.and_true, Bool.true_and, Bool.and_self, Nat.zero_add, Nat.add_zero, Nat.reduceAdd, Nat.reduceLeDiff, Nat.reduceMul, Nat.le_refl, true_and, and_true, and_self, List.getElem?_nil, BI_zc, BI_zv, BI_co, zcT, zvT, coT, not_true_eq_false, not_false_eq_true, Bool.not_true, Bool.not_false, stepI', wantsI, ifill, ievs, Nat.reduceEqDiff, itup, Nat.le_add_left, Nat.le_add_right, iaggEq, List.foldl, iminI, iminF, imin2, min2, iisNil, isNil, ilen, Option.isNone_none, Option.isNone_some, Nat.zero_le, decide_true, decide_false, ireps, List.replicate, List.flatten_cons, List.flatten_nil, ichk, itouch, ctouch, ilooks, isame, untouched, Option.isSome_some, Bool.or_true, Bool.true_or, List.contains_nil, Int.reduceLT, Int.reduceLE, blkOf, IntKind.bits, iasNat, asNat, Int.toNat_natCast, Int.natCast_nonneg, List.length_map, Int.reduceToNat, iscells, ibnd, islice, capOf, Option.isSome_none, Bool.false_and, Bool.and_false, Bool.or_false, Bool.false_or, bne_self_eq_false, Nat.not_lt_zero, Nat.mul_one, Nat.one_mul, Nat.zero_mul, Nat.mul_zero, beq_self_eq_true, Nat.sub_zero, Nat.reduceSub, List.length_set, false_implies, implies_true, forall_const, ↓dnW_oca, Nat.reduceLT, evI_fn, Nat.zero_lt_one, dnW_o, dnW_om, dnW_oc, dnW_ite, dnW_join, thenD_some, thenD_ite, onIfD_bool, onJoinD_out, onJoinD_ret, onJoinD_ite, Int.reduceEq, WP_some, WP_ite, byOut_goto, byOut_ret, ↓iexec_len, ↓iexec_iaddr, ↓iexec_append, ↓iexec_store, storeF_ptr, lenF_nil, lenF_lst, lenF_sl, lenF_str, iaddrF_sl, iaddrF_lst, show ((i : Int) < (Y.length : Int)) by omega, h, hJ, e1, e2, md119, dcp hg (by simp [ipureL, ipure, o2])]
    by_cases hl : Y[i].2 < 0
    · simp -implicitDefEqProofs only [dn_ret, dn_goto, iexec, evI_0, evI_succ, evI_int, evI_bool, evI_nilsl, evI_nilp, List.cons_append, List.nil_append, scal2_sc, abin, aun, ilift_some, Option.map_some, Option.map_none, decide_eq_true_eq, List.map_cons, List.map_nil, reduceIte, if_true, if_false, Bool.false_eq_true, inew, iload, istore, iwr, ird, icells, ione, one, List.getElem?_toArray, List.getElem?_cons_zero, List.getElem?_cons_succ, List.push_toArray, List.size_toArray, List.length_cons, List.length_nil, List.setIfInBounds_toArray, List.set_cons_zero, List.set_cons_succ, isplice_cons, List.drop_succ_cons, List.drop_zero, List.take_succ_cons, List.take_zero, List.drop_nil, List.take_nil, List.append_nil, List.all_cons, List.all_nil, Bool.and_true, Bool.true_and, Bool.and_self, Nat.zero_add, Nat.add_zero, Nat.reduceAdd, Nat.reduceLeDiff, Nat.reduceMul, Nat.le_refl, true_and, and_true, and_self, List.getElem?_nil, BI_zc, BI_zv, BI_co, zcT, zvT, coT, not_true_eq_false, not_false_eq_true, Bool.not_true, Bool.not_false, stepI', wantsI, ifill, ievs, Nat.reduceEqDiff, itup, Nat.le_add_left, Nat.le_add_right, iaggEq, List.foldl, iminI, iminF, imin2, min2, iisNil, isNil, ilen, Option.isNone_none, Option.isNone_some, Nat.zero_le, decide_true, decide_false, ireps, List.replicate, List.flatten_cons, List.flatten_nil, ichk, itouch, ctouch, ilooks, isame, untouched, Option.isSome_some, Bool.or_true, Bool.true_or, List.contains_nil, Int.reduceLT, Int.reduceLE, blkOf, IntKind.bits, iasNat, asNat, Int.toNat_natCast, Int.natCast_nonneg, List.length_map, Int.reduceToNat, iscells, ibnd, islice, capOf, Option.isSome_none, Bool.false_and, Bool.and_false, Bool.or_false, Bool.false_or, bne_self_eq_false, Nat.not_lt_zero, Nat.mul_one, Nat.one_mul, Nat.zero_mul, Nat.mul_zero, beq_self_eq_true, Nat.sub_zero, Nat.reduceSub, List.length_set, false_implies, implies_true, forall_const, ↓dnW_oca, Nat.reduceLT, evI_fn, Nat.zero_lt_one, dnW_o, dnW_om, dnW_oc, dnW_ite, dnW_join, thenD_some, thenD_ite, onIfD_bool, onJoinD_out, onJoinD_ret, onJoinD_ite, Int.reduceEq, WP_some, WP_ite, byOut_goto, byOut_ret, ↓iexec_len, ↓iexec_iaddr, ↓iexec_append, ↓iexec_store, storeF_ptr, lenF_nil, lenF_lst, lenF_sl, lenF_str, iaddrF_sl, iaddrF_lst, hl]; exact h1 h hl
    · simp -implicitDefEqProofs only [dn_ret, dn_goto, iexec, evI_0, evI_succ, evI_int, evI_bool, evI_nilsl, evI_nilp, List.cons_append, List.nil_append, scal2_sc, abin, aun, ilift_some, Option.map_some, Option.map_none, decide_eq_true_eq, List.map_cons, List.map_nil, reduceIte, if_true, if_false, Bool.false_eq_true, inew, iload, istore, iwr, ird, icells, ione, one, List.getElem?_toArray, List.getElem?_cons_zero, List.getElem?_cons_succ, List.push_toArray, List.size_toArray, List.length_cons, List.length_nil, List.setIfInBounds_toArray, List.set_cons_zero, List.set_cons_succ, isplice_cons, List.drop_succ_cons, List.drop_zero, List.take_succ_cons, List.take_zero, List.drop_nil, List.take_nil, List.append_nil, List.all_cons, List.all_nil, Bool.and_true, Bool.true_and, Bool.and_self, Nat.zero_add, Nat.add_zero, Nat.reduceAdd, Nat.reduceLeDiff, Nat.reduceMul, Nat.le_refl, true_and, and_true, and_self, List.getElem?_nil, BI_zc, BI_zv, BI_co, zcT, zvT, coT, not_true_eq_false, not_false_eq_true, Bool.not_true, Bool.not_false, stepI', wantsI, ifill, ievs, Nat.reduceEqDiff, itup, Nat.le_add_left, Nat.le_add_right, iaggEq, List.foldl, iminI, iminF, imin2, min2, iisNil, isNil, ilen, Option.isNone_none, Option.isNone_some, Nat.zero_le, decide_true, decide_false, ireps, List.replicate, List.flatten_cons, List.flatten_nil, ichk, itouch, ctouch, ilooks, isame, untouched, Option.isSome_some, Bool.or_true, Bool.true_or, List.contains_nil, Int.reduceLT, Int.reduceLE, blkOf, IntKind.bits, iasNat, asNat, Int.toNat_natCast, Int.natCast_nonneg, List.length_map, Int.reduceToNat, iscells, ibnd, islice, capOf, Option.isSome_none, Bool.false_and, Bool.and_false, Bool.or_false, Bool.false_or, bne_self_eq_false, Nat.not_lt_zero, Nat.mul_one, Nat.one_mul, Nat.zero_mul, Nat.mul_zero, beq_self_eq_true, Nat.sub_zero, Nat.reduceSub, List.length_set, false_implies, implies_true, forall_const, ↓dnW_oca, Nat.reduceLT, evI_fn, Nat.zero_lt_one, dnW_o, dnW_om, dnW_oc, dnW_ite, dnW_join, thenD_some, thenD_ite, onIfD_bool, onJoinD_out, onJoinD_ret, onJoinD_ite, Int.reduceEq, WP_some, WP_ite, byOut_goto, byOut_ret, ↓iexec_len, ↓iexec_iaddr, ↓iexec_append, ↓iexec_store, storeF_ptr, lenF_nil, lenF_lst, lenF_sl, lenF_str, iaddrF_sl, iaddrF_lst, hl, hw]; exact h2 h hl
  · unfold l_slices_IndexFunc_Lwire_waiting_wire_waiting_k0
    simp -implicitDefEqProofs only [dn_ret, dn_goto, iexec, evI_0, evI_succ, evI_int, evI_bool, evI_nilsl, evI_nilp, List.cons_append, List.nil_append, scal2_sc, abin, aun, ilift_some, Option.map_some, Option.map_none, decide_eq_true_eq, List.map_cons, List.map_nil, reduceIte, if_true, if_false, Bool.false_eq_true, inew, iload, istore, iwr, ird, icells, ione, one, List.getElem?_toArray, List.getElem?_cons_zero, List.getElem?_cons_succ, List.push_toArray, List.size_toArray, List.length_cons, List.length_nil, List.setIfInBounds_toArray, List.set_cons_zero, List.set_cons_succ, isplice_cons, List.drop_succ_cons, List.drop_zero, List.take_succ_cons, List.take_zero, List.drop_nil, List.take_nil, List.append_nil, List.all_cons, List.all_nil, Bool.and_true, Bool.true_and, Bool.and_self, Nat.zero_add, Nat.add_zero, Nat.reduceAdd, Nat.reduceLeDiff, Nat.reduceMul, Nat.le_refl, true_and, and_true, and_self, List.getElem?_nil, BI_zc, BI_zv, BI_co, zcT, zvT, coT, not_true_eq_false, not_false_eq_true, Bool.not_true, Bool.not_false, stepI', wantsI, ifill, ievs, Nat.reduceEqDiff, itup, Nat.le_add_left, Nat.le_add_right, iaggEq, List.foldl, iminI, iminF, imin2, min2, iisNil, isNil, ilen, Option.isNone_none, Option.isNone_some, Nat.zero_le, decide_true, decide_false, ireps, List.replicate, List.flatten_cons, List.flatten_nil, ichk, itouch, ctouch, ilooks, isame, untouched, Option.isSome_some, Bool.or_true, Bool.true_or, List.contains_nil, Int.reduceLT, Int.reduceLE, blkOf, IntKind.bits, iasNat, asNat, Int.toNat_natCast, Int.natCast_nonneg, List.length_map, Int.reduceToNat, iscells, ibnd, islice, capOf, Option.isSome_none, Bool.false_and, Bool.and_false, Bool.or_false, Bool.false_or, bne_self_eq_false, Nat.not_lt_zero, Nat.mul_one, Nat.one_mul, Nat.zero_mul, Nat.mul_zero, beq_self_eq_true, Nat.sub_zero, Nat.reduceSub, List.length_set, false_implies, implies_true, forall_const, ↓dnW_oca, Nat.reduceLT, evI_fn, Nat.zero_lt_one, dnW_o, dnW_om, dnW_oc, dnW_ite, dnW_join, thenD_some, thenD_ite, onIfD_bool, onJoinD_out, onJoinD_ret, onJoinD_ite, Int.reduceEq, WP_some, WP_ite, byOut_goto, byOut_ret, ↓iexec_len, ↓iexec_iaddr, ↓iexec_append, ↓iexec_store, storeF_ptr, lenF_nil, lenF_lst, lenF_sl, lenF_str, iaddrF_sl, iaddrF_lst, show ¬ ((i : Int) < (Y.length : Int)) by omega]
    exact h0 (by omega)
theorem index_ok (c v : Nat) (Y : List (IV × Int)) (hY : Yok Y) (full rest : List IV) (hf : full = (encY Y).flatten ++ rest) (hb : Y.length ≤ 1000000) (J : JH) (hJ : J[c]? = some (.cells v full false)) :
    RP (ic BI F_slices_IndexFunc_Lwire_waiting_wire_waiting [.sl c v 0 Y.length (UNK + 2) 2, .fn F_wire_Wire_Take_1 [] []] J) fun r J' => J' = J ∧ ((r = .int .i64 (-1) ∧ ∀ y ∈ Y, ¬ y.2 < 0) ∨ ∃ i, ∃ (h : i < Y.length), r = .int .i64 (i : Int) ∧ (∀ y ∈ Y.take i, ¬ y.2 < 0) ∧ Y[i].2 < 0) := by
  refine RP_run fn_slices_IndexFunc_Lwire_waiting_wire_waiting rfl fun K hK => ?_
  unfold l_slices_IndexFunc_Lwire_waiting_wire_waiting
  simp -implicitDefEqProofs only [dn_ret, dn_goto, iexec, evI_0, evI_succ, evI_int, evI_bool, evI_nilsl, evI_nilp, List.cons_append, List.nil_append, scal2_sc, abin, aun, ilift_some, Option.map_some, Option.map_none, decide_eq_true_eq, List.map_cons, List.map_nil, reduceIte, if_true, if_false, Bool.false_eq_true, inew, iload, istore, iwr, ird, icells, ione, one, List.getElem?_toArray, List.getElem?_cons_zero, List.getElem?_cons_succ, List.push_toArray, List.size_toArray, List.length_cons, List.length_nil, List.setIfInBounds_toArray, List.set_cons_zero, List.set_cons_succ, isplice_cons, List.drop_succ_cons, List.drop_zero, List.take_succ_cons, List.take_zero, List.drop_nil, List.take_nil, List.append_nil, List.all_cons, List.all_nil, Bool.and_true, Bool.true_and, Bool.and_self, Nat.zero_add, Nat.add_zero, Nat.reduceAdd, Nat.reduceLeDiff, Nat.reduceMul, Nat.le_refl, true_and, and_true, and_self, List.getElem?_nil, BI_zc, BI_zv, BI_co, zcT, zvT, coT, not_true_eq_false, not_false_eq_true, Bool.not_true, Bool.not_false, stepI', wantsI, ifill, ievs, Nat.reduceEqDiff, itup, Nat.le_add_left, Nat.le_add_right, iaggEq, List.foldl, iminI, iminF, imin2, min2, iisNil, isNil, ilen, Option.isNone_none, Option.isNone_some, Nat.zero_le, decide_true, decide_false, ireps, List.replicate, List.flatten_cons, List.flatten_nil, ichk, itouch, ctouch, ilooks, isame, untouched, Option.isSome_some, Bool.or_true, Bool.true_or, List.contains_nil, Int.reduceLT, Int.reduceLE, blkOf, IntKind.bits, iasNat, asNat, Int.toNat_natCast, Int.natCast_nonneg, List.length_map, Int.reduceToNat, iscells, ibnd, islice, capOf, Option.isSome_none, Bool.false_and, Bool.and_false, Bool.or_false, Bool.false_or, bne_self_eq_false, Nat.not_lt_zero, Nat.mul_one, Nat.one_mul, Nat.zero_mul, Nat.mul_zero, beq_self_eq_true, Nat.sub_zero, Nat.reduceSub, List.length_set, false_implies, implies_true, forall_const, ↓dnW_oca, Nat.reduceLT, evI_fn, Nat.zero_lt_one, dnW_o, dnW_om, dnW_oc, dnW_ite, dnW_join, thenD_some, thenD_ite, onIfD_bool, onJoinD_out, onJoinD_ret, onJoinD_ite, Int.reduceEq, WP_some, WP_ite, byOut_goto, byOut_ret, ↓iexec_len, ↓iexec_iaddr, ↓iexec_append, ↓iexec_store, storeF_ptr, lenF_nil, lenF_lst, lenF_sl, lenF_str, iaddrF_sl, iaddrF_lst, dn_loop]
  refine WP_loop (by decide) (fun m vs J' => ∃ i : Nat, i + m = Y.length ∧ J' = J ∧ vs = [.sl c v 0 Y.length (UNK + 2) 2, .fn F_wire_Wire_Take_1 [] [], .int .i64 ((Y.length : Nat) : Int), .int .i64 (i : Int)] ∧ ∀ y ∈ Y.take i, ¬ y.2 < 0) ?_ Y.length _ _ ⟨0, by omega, rfl, rfl, by simp⟩
  rintro m vs J' ⟨i, hi, rfl, rfl, ha⟩ K1 g1 g2 g3
  refine index_step c v Y hY full rest hf i (by omega) hb _ hJ K1 (fun he => ?_) (fun h hl => ?_) (fun h hl => ?_)
  · refine g2 _ _ ?_
    unfold l_slices_IndexFunc_Lwire_waiting_wire_waiting_k1
    simp -implicitDefEqProofs only [dn_ret, dn_goto, iexec, evI_0, evI_succ, evI_int, evI_bool, evI_nilsl, evI_nilp, List.cons_append, List.nil_append, scal2_sc, abin, aun, ilift_some, Option.map_some, Option.map_none, decide_eq_true_eq, List.map_cons, List.map_nil, reduceIte, if_true, if_false, Bool.false_eq_true, inew, iload, istore, iwr, ird, icells, ione, one, List.getElem?_toArray, List.getElem?_cons_zero, List.getElem?_cons_succ, List.push_toArray, List.size_toArray, List.length_cons, List.length_nil, List.setIfInBounds_toArray, List.set_cons_zero, List.set_cons_succ, isplice_cons, List.drop_succ_cons, List.drop_zero, List.take_succ_cons, List.take_zero, List.drop_nil, List.take_nil, List.append_nil, List.all_cons, List.all_nil, Bool.and_true, Bool.true_and, Bool.and_self, Nat.zero_add, Nat.add_zero, Nat.reduceAdd, Nat.reduceLeDiff, Nat.reduceMul, Nat.le_refl, true_and, and_true, and_self, List.getElem?_nil, BI_zc, BI_zv, BI_co, zcT, zvT, coT, not_true_eq_false, not_false_eq_true, Bool.not_true, Bool.not_false, stepI', wantsI, ifill, ievs, Nat.reduceEqDiff, itup, Nat.le_add_left, Nat.le_add_right, iaggEq, List.foldl, iminI, iminF, imin2, min2, iisNil, isNil, ilen, Option.isNone_none, Option.isNone_some, Nat.zero_le, decide_true, decide_false, ireps, List.replicate, List.flatten_cons, List.flatten_nil, ichk, itouch, ctouch, ilooks, isame, untouched, Option.isSome_some, Bool.or_true, Bool.true_or, List.contains_nil, Int.reduceLT, Int.reduceLE, blkOf, IntKind.bits, iasNat, asNat, Int.toNat_natCast, Int.natCast_nonneg, List.length_map, Int.reduceToNat, iscells, ibnd, islice, capOf, Option.isSome_none, Bool.false_and, Bool.and_false, Bool.or_false, Bool.false_or, bne_self_eq_false, Nat.not_lt_zero, Nat.mul_one, Nat.one_mul, Nat.zero_mul, Nat.mul_zero, beq_self_eq_true, Nat.sub_zero, Nat.reduceSub, List.length_set, false_implies, implies_true, forall_const, ↓dnW_oca, Nat.reduceLT, evI_fn, Nat.zero_lt_one, dnW_o, dnW_om, dnW_oc, dnW_ite, dnW_join, thenD_some, thenD_ite, onIfD_bool, onJoinD_out, onJoinD_ret, onJoinD_ite, Int.reduceEq, WP_some, WP_ite, byOut_goto, byOut_ret, ↓iexec_len, ↓iexec_iaddr, ↓iexec_append, ↓iexec_store, storeF_ptr, lenF_nil, lenF_lst, lenF_sl, lenF_str, iaddrF_sl, iaddrF_lst]
    refine hK _ _ ⟨rfl, .inl ⟨rfl, ?_⟩⟩
    rw [List.take_of_length_le (by omega)] at ha
    exact ha
  · exact g3 _ _ (hK _ _ ⟨rfl, .inr ⟨i, h, rfl, ha, hl⟩⟩)
  · refine g1 _ (m - 1) _ (by omega) ⟨i + 1, by omega, rfl, rfl, ?_⟩
    rw [List.take_succ_eq_append_getElem h]
    intro y hy
    rcases List.mem_append.1 hy with hy | hy
    · exact ha y hy
    · rw [List.mem_singleton] at hy; rw [hy]; exact hl
theorem encY_set {Y : List (IV × Int)} {i : Nat} {y : IV × Int} : (encY Y).set i [y.1, .int .i64 y.2] = encY (Y.set i y) := by simp [encY, List.map_set]
theorem store2 {Y : List (IV × Int)} {full rest : List IV} (hf : full = (encY Y).flatten ++ rest) {i : Nat} (h : i < Y.length) (y : IV × Int) : isplice full (i * 2) [y.1, .int .i64 y.2] = (encY (Y.set i y)).flatten ++ rest := by
  have := flat_splice (rest := rest) (vs := [y.1, .int .i64 y.2]) (k := 0) (encY_2 Y) (i := i) (by rw [encY_len]; exact h) (by simp)
  rw [Nat.add_zero] at this
  rw [hf, this, ← encY_set, encY_at h]
  rfl
theorem delete_step (c v : Nat) (Y : List (IV × Int)) (hY : Yok Y) (rest full : List IV) (hf : full = (encY Y).flatten ++ rest) (n : Nat) (hn : Y.length = n) (i j : Nat) (hij : i ≤ j) (hj : j ≤ n) (hb : Y.length ≤ 1000000) (J : JH) (hJ : J[c]? = some (.cells v full false)) (K : Out IV → JH → Prop)
    (h0 : j = n → K (.goto 0 [.sl c v 0 n (UNK + 2) 2, .int .i64 (i : Int)]) J)
    (h1 : ∀ (h : j < Y.length), Y[j].2 < 0 → ∀ J', Fr J J' [] → K (.goto 1 [.sl c v 0 n (UNK + 2) 2, .fn F_wire_Wire_Take_1 [] [], .int .i64 (i : Int), .int .i64 ((j + 1 : Nat) : Int)]) J')
    (h2 : ∀ (h : j < Y.length), ¬ Y[j].2 < 0 → ∀ J', J'[c]? = some (.cells v ((encY (Y.set i Y[j])).flatten ++ rest) false) → Fr J J' [c] → K (.goto 1 [.sl c v 0 n (UNK + 2) 2, .fn F_wire_Wire_Take_1 [] [], .int .i64 ((i + 1 : Nat) : Int), .int .i64 ((j + 1 : Nat) : Int)]) J') :
    WP (dn BI l_slices_DeleteFunc_Lwire_waiting_wire_waiting_k0 [.sl c v 0 n (UNK + 2) 2, .fn F_wire_Wire_Take_1 [] [], .int .i64 (i : Int), .int .i64 (j : Int)] J) K := by
  subst hn
  by_cases h : j < Y.length
  · have hw : IntKind.i64.wrap ((j : Int) + 1) = ((j + 1 : Nat) : Int) := by rw [wrap_i64 (by omega) (by omega)]; omega
    have hw' : IntKind.i64.wrap ((i : Int) + 1) = ((i + 1 : Nat) : Int) := by rw [wrap_i64 (by omega) (by omega)]; omega
    have hi : i < Y.length := by omega
    obtain ⟨e1, e2⟩ := load2 hf h
    obtain ⟨_, e3⟩ := load2 hf hi
    have e4 := store2 hf hi Y[j]
    obtain ⟨o1, o2⟩ := hY _ (List.getElem_mem h)
    have hg := gone_ok Y[j] o1
    have hin := inb hJ
    unfold l_slices_DeleteFunc_Lwire_waiting_wire_waiting_k0
    by_cases hl : Y[j].2 < 0
    · simp -implicitDefEqProofs only [dn_ret, dn_goto, iexec, evI_0, evI_succ, evI_int, evI_bool, evI_nilsl, evI_nilp, List.cons_append, List.nil_append, scal2_sc, abin, aun, ilift_some, Option.map_some, Option.map_none, decide_eq_true_eq, List.map_cons, List.map_nil, reduceIte, if_true, if_false, Bool.false_eq_true, inew, iload, istore, iwr, ird, icells, ione, one, List.getElem?_toArray, List.getElem?_cons_zero, List.getElem?_cons_succ, List.push_toArray, List.size_toArray, List.length_cons, List.length_nil, List.setIfInBounds_toArray, List.set_cons_zero, List.set_cons_succ, isplice_cons, List.drop_succ_cons, List.drop_zero, List.take_succ_cons, List.take_zero, List.drop_nil, List.take_nil, List.append_nil, List.all_cons, List.all_nil, Bool.and_true, Bool.true_and, Bool.and_self, Nat.zero_add, Nat.add_zero, Nat.reduceAdd, Nat.reduceLeDiff, Nat.reduceMul, Nat.le_refl, true_and, and_true, and_self, List.getElem?_nil, BI_zc, BI_zv, BI_co, zcT, zvT, coT, not_true_eq_false, not_false_eq_true, Bool.not_true, Bool.not_false, stepI', wantsI, ifill, ievs, Nat.reduceEqDiff, itup, Nat.le_add_left, Nat.le_add_right, iaggEq, List.foldl, iminI, iminF, imin2, min2, iisNil, isNil, ilen, Option.isNone_none, Option.isNone_some, Nat.zero_le, decide_true, decide_false, ireps, List.replicate, List.flatten_cons, List.flatten_nil, ichk, itouch, ctouch, ilooks, isame, untouched, Option.isSome_some, Bool.or_true, Bool.true_or, List.contains_nil, Int.reduceLT, Int.reduceLE, blkOf, IntKind.bits, iasNat, asNat, Int.toNat_natCast, Int.natCast_nonneg, List.length_map, Int.reduceToNat, iscells, ibnd, islice, capOf, Option.isSome_none, Bool.false_and, Bool.and_false, Bool.or_false, Bool.false_or, bne_self_eq_false, Nat.not_lt_zero, Nat.mul_one, Nat.one_mul, Nat.zero_mul, Nat.mul_zero, beq_self_eq_true, Nat.sub_zero, Nat.reduceSub, List.length_set, false_implies, implies_true, forall_const, ↓dnW_oca, Nat.reduceLT, evI_fn, Nat.zero_lt_one, dnW_o, dnW_om, dnW_oc, dnW_ite, dnW_join, thenD_some, thenD_ite, onIfD_bool, onJoinD_out, onJoinD_ret, onJoinD_ite, Int.reduceEq, WP_some, WP_ite, byOut_goto, byOut_ret, ↓iexec_len, ↓iexec_iaddr, ↓iexec_append, ↓iexec_store, storeF_ptr, lenF_nil, lenF_lst, lenF_sl, lenF_str, iaddrF_sl, iaddrF_lst, show ((j : Int) < (Y.length : Int)) by omega, h, hJ, e1, e2, md119, dcp hg (by simp [ipureL, ipure, o2]), ↓o1, push_set, Array.getElem?_push, Array.size_push, hin, hl, hw]
      exact h1 h hl _ (.push _ _ _)
    · simp -implicitDefEqProofs only [dn_ret, dn_goto, iexec, evI_0, evI_succ, evI_int, evI_bool, evI_nilsl, evI_nilp, List.cons_append, List.nil_append, scal2_sc, abin, aun, ilift_some, Option.map_some, Option.map_none, decide_eq_true_eq, List.map_cons, List.map_nil, reduceIte, if_true, if_false, Bool.false_eq_true, inew, iload, istore, iwr, ird, icells, ione, one, List.getElem?_toArray, List.getElem?_cons_zero, List.getElem?_cons_succ, List.push_toArray, List.size_toArray, List.length_cons, List.length_nil, List.setIfInBounds_toArray, List.set_cons_zero, List.set_cons_succ, isplice_cons, List.drop_succ_cons, List.drop_zero, List.take_succ_cons, List.take_zero, List.drop_nil, List.take_nil, List.append_nil, List.all_cons, List.all_nil, Bool.and_true, Bool.true_and, Bool.and_self, Nat.zero_add, Nat.add_zero, Nat.reduceAdd, Nat.reduceLeDiff, Nat.reduceMul, Nat.le_refl, true_and, and_true, and_self, List.getElem?_nil, BI_zc, BI_zv, BI_co, zcT, zvT, coT, not_true_eq_false, not_false_eq_true, Bool.not_true, Bool.not_false, stepI', wantsI, ifill, ievs, Nat.reduceEqDiff, itup, Nat.le_add_left, Nat.le_add_right, iaggEq, List.foldl, iminI, iminF, imin2, min2, iisNil, isNil, ilen, Option.isNone_none, Option.isNone_some, Nat.zero_le, decide_true, decide_false, ireps, List.replicate, List.flatten_cons, List.flatten_nil, ichk, itouch, ctouch, ilooks, isame, untouched, Option.isSome_some, Bool.or_true, Bool.true_or, List.contains_nil, Int.reduceLT, Int.reduceLE, blkOf, IntKind.bits, iasNat, asNat, Int.toNat_natCast, Int.natCast_nonneg, List.length_map, Int.reduceToNat, iscells, ibnd, islice, capOf, Option.isSome_none, Bool.false_and, Bool.and_false, Bool.or_false, Bool.false_or, bne_self_eq_false, Nat.not_lt_zero, Nat.mul_one, Nat.one_mul, Nat.zero_mul, Nat.mul_zero, beq_self_eq_true, Nat.sub_zero, Nat.reduceSub, List.length_set, false_implies, implies_true, forall_const, ↓dnW_oca, Nat.reduceLT, evI_fn, Nat.zero_lt_one, dnW_o, dnW_om, dnW_oc, dnW_ite, dnW_join, thenD_some, thenD_ite, onIfD_bool, onJoinD_out, onJoinD_ret, onJoinD_ite, Int.reduceEq, WP_some, WP_ite, byOut_goto, byOut_ret, ↓iexec_len, ↓iexec_iaddr, ↓iexec_append, ↓iexec_store, storeF_ptr, lenF_nil, lenF_lst, lenF_sl, lenF_str, iaddrF_sl, iaddrF_lst, show ((j : Int) < (Y.length : Int)) by omega, h, hi, hJ, e1, e2, e3, e4, md119, dcp hg (by simp [ipureL, ipure, o2]), ↓o1, push_set, Array.getElem?_push, Array.size_push, hin, hl, hw, hw']
      refine h2 h hl _ ?_ ?_
      · simp [Nat.lt_succ_of_lt (lt_get hJ)]
      · exact Fr.trans (Fr.push _ _ [c]) (Fr.set _ _ (S := [c]) (by simp)) (by simp)
  · unfold l_slices_DeleteFunc_Lwire_waiting_wire_waiting_k0
    simp -implicitDefEqProofs only [dn_ret, dn_goto, iexec, evI_0, evI_succ, evI_int, evI_bool, evI_nilsl, evI_nilp, List.cons_append, List.nil_append, scal2_sc, abin, aun, ilift_some, Option.map_some, Option.map_none, decide_eq_true_eq, List.map_cons, List.map_nil, reduceIte, if_true, if_false, Bool.false_eq_true, inew, iload, istore, iwr, ird, icells, ione, one, List.getElem?_toArray, List.getElem?_cons_zero, List.getElem?_cons_succ, List.push_toArray, List.size_toArray, List.length_cons, List.length_nil, List.setIfInBounds_toArray, List.set_cons_zero, List.set_cons_succ, isplice_cons, List.drop_succ_cons, List.drop_zero, List.take_succ_cons, List.take_zero, List.drop_nil, List.take_nil, List.append_nil, List.all_cons, List.all_nil, Bool.and_true, Bool.true_and, Bool.and_self, Nat.zero_add, Nat.add_zero, Nat.reduceAdd, Nat.reduceLeDiff, Nat.reduceMul, Nat.le_refl, true_and, and_true, and_self, List.getElem?_nil, BI_zc, BI_zv, BI_co, zcT, zvT, coT, not_true_eq_false, not_false_eq_true, Bool.not_true, Bool.not_false, stepI', wantsI, ifill, ievs, Nat.reduceEqDiff, itup, Nat.le_add_left, Nat.le_add_right, iaggEq, List.foldl, iminI, iminF, imin2, min2, iisNil, isNil, ilen, Option.isNone_none, Option.isNone_some, Nat.zero_le, decide_true, decide_false, ireps, List.replicate, List.flatten_cons, List.flatten_nil, ichk, itouch, ctouch, ilooks, isame, untouched, Option.isSome_some, Bool.or_true, Bool.true_or, List.contains_nil, Int.reduceLT, Int.reduceLE, blkOf, IntKind.bits, iasNat, asNat, Int.toNat_natCast, Int.natCast_nonneg, List.length_map, Int.reduceToNat, iscells, ibnd, islice, capOf, Option.isSome_none, Bool.false_and, Bool.and_false, Bool.or_false, Bool.false_or, bne_self_eq_false, Nat.not_lt_zero, Nat.mul_one, Nat.one_mul, Nat.zero_mul, Nat.mul_zero, beq_self_eq_true, Nat.sub_zero, Nat.reduceSub, List.length_set, false_implies, implies_true, forall_const, ↓dnW_oca, Nat.reduceLT, evI_fn, Nat.zero_lt_one, dnW_o, dnW_om, dnW_oc, dnW_ite, dnW_join, thenD_some, thenD_ite, onIfD_bool, onJoinD_out, onJoinD_ret, onJoinD_ite, Int.reduceEq, WP_some, WP_ite, byOut_goto, byOut_ret, ↓iexec_len, ↓iexec_iaddr, ↓iexec_append, ↓iexec_store, storeF_ptr, lenF_nil, lenF_lst, lenF_sl, lenF_str, iaddrF_sl, iaddrF_lst, show ¬ ((j : Int) < (Y.length : Int)) by omega]
    exact h0 (by omega)
def keepY (Y : List (IV × Int)) : List (IV × Int) := Y.filter fun y => decide (¬ y.2 < 0)
theorem encY_refs {Y : List (IV × Int)} (h : Yok Y) : irefsL (encY Y).flatten = [] := by
  apply irefsL_pure
  rw [ipureL_iff]
  intro x hx
  obtain ⟨e, he, hx⟩ := List.mem_flatten.1 hx
  obtain ⟨y, hy, rfl⟩ := List.mem_map.1 he
  rcases List.mem_cons.1 hx with rfl | hx
  · exact (h y hy).2
  · rw [List.mem_singleton] at hx; subst hx; rfl
theorem delete_sl (c v : Nat) (Y : List (IV × Int)) (hY : Yok Y) (rest : List IV) (hrest : irefsL rest = []) (hb : Y.length ≤ 1000000) (J : JH) (hJ : J[c]? = some (.cells v ((encY Y).flatten ++ rest) false)) :
    RP (ic BI F_slices_DeleteFunc_Lwire_waiting_wire_waiting [.sl c v 0 Y.length (UNK + 2) 2, .fn F_wire_Wire_Take_1 [] []] J) fun s' J' => ∃ r', s' = .sl c v 0 (keepY Y).length (UNK + 2) 2 ∧ J'[c]? = some (.cells v ((encY (keepY Y)).flatten ++ r') false) ∧ Fr J J' [c] ∧ irefsL r' = [] := by
  refine RP_run fn_slices_DeleteFunc_Lwire_waiting_wire_waiting rfl fun K hK => ?_
  unfold l_slices_DeleteFunc_Lwire_waiting_wire_waiting
  simp -implicitDefEqProofs only [dn_ret, dn_goto, iexec, evI_0, evI_succ, evI_int, evI_bool, evI_nilsl, evI_nilp, List.cons_append, List.nil_append, scal2_sc, abin, aun, ilift_some, Option.map_some, Option.map_none, decide_eq_true_eq, List.map_cons, List.map_nil, reduceIte, if_true, if_false, Bool.false_eq_true, inew, iload, istore, iwr, ird, icells, ione, one, List.getElem?_toArray, List.getElem?_cons_zero, List.getElem?_cons_succ, List.push_toArray, List.size_toArray, List.length_cons, List.length_nil, List.setIfInBounds_toArray, List.set_cons_zero, List.set_cons_succ, isplice_cons, List.drop_succ_cons, List.drop_zero, List.take_succ_cons, List.take_zero, List.drop_nil, List.take_nil, List.append_nil, List.all_cons, List.all_nil, Bool.and_true, Bool.true_and, Bool.and_self, Nat.zero_add, Nat.add_zero, Nat.reduceAdd, Nat.reduceLeDiff, Nat.reduceMul, Nat.le_refl, true_and, and_true, and_self, List.getElem?_nil, BI_zc, BI_zv, BI_co, zcT, zvT, coT, not_true_eq_false, not_false_eq_true, Bool.not_true, Bool.not_false, stepI', wantsI, ifill, ievs, Nat.reduceEqDiff, itup, Nat.le_add_left, Nat.le_add_right, iaggEq, List.foldl, iminI, iminF, imin2, min2, iisNil, isNil, ilen, Option.isNone_none, Option.isNone_some, Nat.zero_le, decide_true, decide_false, ireps, List.replicate, List.flatten_cons, List.flatten_nil, ichk, itouch, ctouch, ilooks, isame, untouched, Option.isSome_some, Bool.or_true, Bool.true_or, List.contains_nil, Int.reduceLT, Int.reduceLE, blkOf, IntKind.bits, iasNat, asNat, Int.toNat_natCast, Int.natCast_nonneg, List.length_map, Int.reduceToNat, iscells, ibnd, islice, capOf, Option.isSome_none, Bool.false_and, Bool.and_false, Bool.or_false, Bool.false_or, bne_self_eq_false, Nat.not_lt_zero, Nat.mul_one, Nat.one_mul, Nat.zero_mul, Nat.mul_zero, beq_self_eq_true, Nat.sub_zero, Nat.reduceSub, List.length_set, false_implies, implies_true, forall_const, ↓dnW_oca, Nat.reduceLT, evI_fn, Nat.zero_lt_one, dnW_o, dnW_om, dnW_oc, dnW_ite, dnW_join, thenD_some, thenD_ite, onIfD_bool, onJoinD_out, onJoinD_ret, onJoinD_ite, Int.reduceEq, WP_some, WP_ite, byOut_goto, byOut_ret, ↓iexec_len, ↓iexec_iaddr, ↓iexec_append, ↓iexec_store, storeF_ptr, lenF_nil, lenF_lst, lenF_sl, lenF_str, iaddrF_sl, iaddrF_lst]
  refine WP_call (index_ok c v Y hY _ rest rfl hb J hJ) fun r J1 hr => ?_
  obtain ⟨rfl, hr⟩ := hr
  rcases hr with ⟨rfl, ha⟩ | ⟨i0, hi0, rfl, ha, hlt⟩
  · simp -implicitDefEqProofs only [dn_ret, dn_goto, iexec, evI_0, evI_succ, evI_int, evI_bool, evI_nilsl, evI_nilp, List.cons_append, List.nil_append, scal2_sc, abin, aun, ilift_some, Option.map_some, Option.map_none, decide_eq_true_eq, List.map_cons, List.map_nil, reduceIte, if_true, if_false, Bool.false_eq_true, inew, iload, istore, iwr, ird, icells, ione, one, List.getElem?_toArray, List.getElem?_cons_zero, List.getElem?_cons_succ, List.push_toArray, List.size_toArray, List.length_cons, List.length_nil, List.setIfInBounds_toArray, List.set_cons_zero, List.set_cons_succ, isplice_cons, List.drop_succ_cons, List.drop_zero, List.take_succ_cons, List.take_zero, List.drop_nil, List.take_nil, List.append_nil, List.all_cons, List.all_nil, Bool.and_true, Bool.true_and, Bool.and_self, Nat.zero_add, Nat.add_zero, Nat.reduceAdd, Nat.reduceLeDiff, Nat.reduceMul, Nat.le_refl, true_and, and_true, and_self, List.getElem?_nil, BI_zc, BI_zv, BI_co, zcT, zvT, coT, not_true_eq_false, not_false_eq_true, Bool.not_true, Bool.not_false, stepI', wantsI, ifill, ievs, Nat.reduceEqDiff, itup, Nat.le_add_left, Nat.le_add_right, iaggEq, List.foldl, iminI, iminF, imin2, min2, iisNil, isNil, ilen, Option.isNone_none, Option.isNone_some, Nat.zero_le, decide_true, decide_false, ireps, List.replicate, List.flatten_cons, List.flatten_nil, ichk, itouch, ctouch, ilooks, isame, untouched, Option.isSome_some, Bool.or_true, Bool.true_or, List.contains_nil, Int.reduceLT, Int.reduceLE, blkOf, IntKind.bits, iasNat, asNat, Int.toNat_natCast, Int.natCast_nonneg, List.length_map, Int.reduceToNat, iscells, ibnd, islice, capOf, Option.isSome_none, Bool.false_and, Bool.and_false, Bool.or_false, Bool.false_or, bne_self_eq_false, Nat.not_lt_zero, Nat.mul_one, Nat.one_mul, Nat.zero_mul, Nat.mul_zero, beq_self_eq_true, Nat.sub_zero, Nat.reduceSub, List.length_set, false_implies, implies_true, forall_const, ↓dnW_oca, Nat.reduceLT, evI_fn, Nat.zero_lt_one, dnW_o, dnW_om, dnW_oc, dnW_ite, dnW_join, thenD_some, thenD_ite, onIfD_bool, onJoinD_out, onJoinD_ret, onJoinD_ite, Int.reduceEq, WP_some, WP_ite, byOut_goto, byOut_ret, ↓iexec_len, ↓iexec_iaddr, ↓iexec_append, ↓iexec_store, storeF_ptr, lenF_nil, lenF_lst, lenF_sl, lenF_str, iaddrF_sl, iaddrF_lst, beq_self_eq_true]
    have hk : keepY Y = Y := by
      unfold keepY
      rw [List.filter_eq_self]
      intro y hy
      simpa using ha y hy
    exact hK _ _ ⟨rest, by rw [hk]; rfl, by rw [hk]; exact hJ, .refl _ _, hrest⟩
  · have hne : ((i0 : Int) == -1) = false := by rw [beq_eq_false_iff_ne]; omega
    have hw : IntKind.i64.wrap ((i0 : Int) + 1) = ((i0 + 1 : Nat) : Int) := by rw [wrap_i64 (by omega) (by omega)]; omega
    simp -implicitDefEqProofs only [dn_ret, dn_goto, iexec, evI_0, evI_succ, evI_int, evI_bool, evI_nilsl, evI_nilp, List.cons_append, List.nil_append, scal2_sc, abin, aun, ilift_some, Option.map_some, Option.map_none, decide_eq_true_eq, List.map_cons, List.map_nil, reduceIte, if_true, if_false, Bool.false_eq_true, inew, iload, istore, iwr, ird, icells, ione, one, List.getElem?_toArray, List.getElem?_cons_zero, List.getElem?_cons_succ, List.push_toArray, List.size_toArray, List.length_cons, List.length_nil, List.setIfInBounds_toArray, List.set_cons_zero, List.set_cons_succ, isplice_cons, List.drop_succ_cons, List.drop_zero, List.take_succ_cons, List.take_zero, List.drop_nil, List.take_nil, List.append_nil, List.all_cons, List.all_nil, Bool.and_true, Bool.true_and, Bool.and_self, Nat.zero_add, Nat.add_zero, Nat.reduceAdd, Nat.reduceLeDiff, Nat.reduceMul, Nat.le_refl, true_and, and_true, and_self, List.getElem?_nil, BI_zc, BI_zv, BI_co, zcT, zvT, coT, not_true_eq_false, not_false_eq_true, Bool.not_true, Bool.not_false, stepI', wantsI, ifill, ievs, Nat.reduceEqDiff, itup, Nat.le_add_left, Nat.le_add_right, iaggEq, List.foldl, iminI, iminF, imin2, min2, iisNil, isNil, ilen, Option.isNone_none, Option.isNone_some, Nat.zero_le, decide_true, decide_false, ireps, List.replicate, List.flatten_cons, List.flatten_nil, ichk, itouch, ctouch, ilooks, isame, untouched, Option.isSome_some, Bool.or_true, Bool.true_or, List.contains_nil, Int.reduceLT, Int.reduceLE, blkOf, IntKind.bits, iasNat, asNat, Int.toNat_natCast, Int.natCast_nonneg, List.length_map, Int.reduceToNat, iscells, ibnd, islice, capOf, Option.isSome_none, Bool.false_and, Bool.and_false, Bool.or_false, Bool.false_or, bne_self_eq_false, Nat.not_lt_zero, Nat.mul_one, Nat.one_mul, Nat.zero_mul, Nat.mul_zero, beq_self_eq_true, Nat.sub_zero, Nat.reduceSub, List.length_set, false_implies, implies_true, forall_const, ↓dnW_oca, Nat.reduceLT, evI_fn, Nat.zero_lt_one, dnW_o, dnW_om, dnW_oc, dnW_ite, dnW_join, thenD_some, thenD_ite, onIfD_bool, onJoinD_out, onJoinD_ret, onJoinD_ite, Int.reduceEq, WP_some, WP_ite, byOut_goto, byOut_ret, ↓iexec_len, ↓iexec_iaddr, ↓iexec_append, ↓iexec_store, storeF_ptr, lenF_nil, lenF_lst, lenF_sl, lenF_str, iaddrF_sl, iaddrF_lst, hne, dn_loop, hw]
    refine WP_loop (by decide) (fun m vs J' => ∃ (i j : Nat) (Z : List (IV × Int)), j + m = Y.length ∧ i ≤ j ∧ vs = [.sl c v 0 Y.length (UNK + 2) 2, .fn F_wire_Wire_Take_1 [] [], .int .i64 (i : Int), .int .i64 (j : Int)] ∧ Z.length = Y.length ∧ Z.take i = keepY (Y.take j) ∧ Z.drop j = Y.drop j ∧ Yok Z ∧ J'[c]? = some (.cells v ((encY Z).flatten ++ rest) false) ∧ Fr J1 J' [c]) ?_ (Y.length - (i0 + 1)) _ _ ⟨i0, i0 + 1, Y, by omega, by omega, rfl, rfl, ?_, rfl, hY, hJ, .refl _ _⟩
    · rintro m vs J' ⟨i, j, Z, hm, hij, rfl, hZ, ht, hd, hok, hJ', hfr⟩ K1 g1 g2 g3
      have hst := delete_step c v Z hok rest _ rfl Y.length hZ i j hij (by omega) (by omega) J' hJ' K1
      have hget : ∀ (h : j < Y.length) (h' : j < Z.length), Z[j] = Y[j] := fun h h' => by
        have h1 := List.drop_eq_getElem_cons h
        have h2 := List.drop_eq_getElem_cons h'
        rw [hd, h1] at h2
        exact (List.cons.inj h2).1.symm
      have hdr : ∀ (h : j < Y.length), Z.drop (j + 1) = Y.drop (j + 1) := fun h => by
        rw [← List.drop_drop, hd, List.drop_drop]
      refine hst (fun he => ?_) (fun hz hl J2 hf2 => ?_) (fun hz hl J2 hJ2 hf2 => ?_)
      · refine g2 _ _ ?_
        have hi : i ≤ Z.length := by omega
        have hk : Z.take i = keepY Y := by rw [ht, List.take_of_length_le (by omega)]
        have hkl : (keepY Y).length = i := by rw [← hk, List.length_take]; omega
        unfold l_slices_DeleteFunc_Lwire_waiting_wire_waiting_k1
        have hin := inb hJ'
        have hil : i ≤ Y.length := by omega
        have hlf : ((encY Z).flatten ++ rest).length = Y.length * 2 + rest.length := by rw [List.length_append, flat_len (encY_2 Z), encY_len, hZ]
        have hrl : ∀ z : List IV, z.length = 2 → (List.replicate (Y.length - i) z).flatten.length = (Y.length - i) * 2 := fun z hz => by simp [hz]
        have hro : ∀ z : List IV, z.all ione = true → (List.replicate (Y.length - i) z).flatten.all ione = true := fun z hz => by
          rw [List.all_eq_true] at hz ⊢
          intro x hx
          obtain ⟨w, hw, hx⟩ := List.mem_flatten.1 hx
          rw [(List.mem_replicate.1 hw).2] at hx
          exact hz x hx
        have htk : ((encY Z).flatten ++ rest).take (i * 2) = (encY (keepY Y)).flatten := by
          rw [flat_take (encY_2 Z) (by rw [encY_len]; exact hi), ← hk]
          simp [encY, List.map_take]
        have hr1 := hrl [IV.sc (.slice none 0 0), IV.sc (.int .i64 0)] rfl
        have hr2 := hro [IV.sc (.slice none 0 0), IV.sc (.int .i64 0)] rfl
        have hfr0 : irefsL ((encY Z).flatten ++ rest) = [] := by rw [irefsL_append, encY_refs hok, hrest]; rfl
        generalize (encY Z).flatten ++ rest = full at *
        have hfl : i * 2 + (Y.length - i) * 2 ≤ full.length := by omega
        by_cases h0 : Y.length - i = 0
        · simp -implicitDefEqProofs only [dn_ret, dn_goto, iexec, evI_0, evI_succ, evI_int, evI_bool, evI_nilsl, evI_nilp, List.cons_append, List.nil_append, scal2_sc, abin, aun, ilift_some, Option.map_some, Option.map_none, decide_eq_true_eq, List.map_cons, List.map_nil, reduceIte, if_true, if_false, Bool.false_eq_true, inew, iload, istore, iwr, ird, icells, ione, one, List.getElem?_toArray, List.getElem?_cons_zero, List.getElem?_cons_succ, List.push_toArray, List.size_toArray, List.length_cons, List.length_nil, List.setIfInBounds_toArray, List.set_cons_zero, List.set_cons_succ, isplice_cons, List.drop_succ_cons, List.drop_zero, List.take_succ_cons, List.take_zero, List.drop_nil, List.take_nil, List.append_nil, List.all_cons, List.all_nil, Bool.and_true, Bool.true_and, Bool.and_self, Nat.zero_add, Nat.add_zero, Nat.reduceAdd, Nat.reduceLeDiff, Nat.reduceMul, Nat.le_refl, true_and, and_true, and_self, List.getElem?_nil, BI_zc, BI_zv, BI_co, zcT, zvT, coT, not_true_eq_false, not_false_eq_true, Bool.not_true, Bool.not_false, stepI', wantsI, ifill, ievs, Nat.reduceEqDiff, itup, Nat.le_add_left, Nat.le_add_right, iaggEq, List.foldl, iminI, iminF, imin2, min2, iisNil, isNil, ilen, Option.isNone_none, Option.isNone_some, Nat.zero_le, decide_true, decide_false, ireps, List.replicate, List.flatten_cons, List.flatten_nil, ichk, itouch, ctouch, ilooks, isame, untouched, Option.isSome_some, Bool.or_true, Bool.true_or, List.contains_nil, Int.reduceLT, Int.reduceLE, blkOf, IntKind.bits, iasNat, asNat, Int.toNat_natCast, Int.natCast_nonneg, List.length_map, Int.reduceToNat, iscells, ibnd, islice, capOf, Option.isSome_none, Bool.false_and, Bool.and_false, Bool.or_false, Bool.false_or, bne_self_eq_false, Nat.not_lt_zero, Nat.mul_one, Nat.one_mul, Nat.zero_mul, Nat.mul_zero, beq_self_eq_true, Nat.sub_zero, Nat.reduceSub, List.length_set, false_implies, implies_true, forall_const, ↓dnW_oca, Nat.reduceLT, evI_fn, Nat.zero_lt_one, dnW_o, dnW_om, dnW_oc, dnW_ite, dnW_join, thenD_some, thenD_ite, onIfD_bool, onJoinD_out, onJoinD_ret, onJoinD_ite, Int.reduceEq, WP_some, WP_ite, byOut_goto, byOut_ret, ↓iexec_len, ↓iexec_iaddr, ↓iexec_append, ↓iexec_store, storeF_ptr, lenF_nil, lenF_lst, lenF_sl, lenF_str, iaddrF_sl, iaddrF_lst, hil, capOf, h0, iclearS]
          refine hK _ _ ⟨full.drop (i * 2), by rw [hkl]; rfl, ?_, hfr, irefsL_drop hfr0 _⟩
          rw [hJ', ← htk, List.take_append_drop]
        · simp -implicitDefEqProofs only [dn_ret, dn_goto, iexec, evI_0, evI_succ, evI_int, evI_bool, evI_nilsl, evI_nilp, List.cons_append, List.nil_append, scal2_sc, abin, aun, ilift_some, Option.map_some, Option.map_none, decide_eq_true_eq, List.map_cons, List.map_nil, reduceIte, if_true, if_false, Bool.false_eq_true, inew, iload, istore, iwr, ird, icells, ione, one, List.getElem?_toArray, List.getElem?_cons_zero, List.getElem?_cons_succ, List.push_toArray, List.size_toArray, List.length_cons, List.length_nil, List.setIfInBounds_toArray, List.set_cons_zero, List.set_cons_succ, isplice_cons, List.drop_succ_cons, List.drop_zero, List.take_succ_cons, List.take_zero, List.drop_nil, List.take_nil, List.append_nil, List.all_cons, List.all_nil, Bool.and_true, Bool.true_and, Bool.and_self, Nat.zero_add, Nat.add_zero, Nat.reduceAdd, Nat.reduceLeDiff, Nat.reduceMul, Nat.le_refl, true_and, and_true, and_self, List.getElem?_nil, BI_zc, BI_zv, BI_co, zcT, zvT, coT, not_true_eq_false, not_false_eq_true, Bool.not_true, Bool.not_false, stepI', wantsI, ifill, ievs, Nat.reduceEqDiff, itup, Nat.le_add_left, Nat.le_add_right, iaggEq, List.foldl, iminI, iminF, imin2, min2, iisNil, isNil, ilen, Option.isNone_none, Option.isNone_some, Nat.zero_le, decide_true, decide_false, ireps, List.replicate, List.flatten_cons, List.flatten_nil, ichk, itouch, ctouch, ilooks, isame, untouched, Option.isSome_some, Bool.or_true, Bool.true_or, List.contains_nil, Int.reduceLT, Int.reduceLE, blkOf, IntKind.bits, iasNat, asNat, Int.toNat_natCast, Int.natCast_nonneg, List.length_map, Int.reduceToNat, iscells, ibnd, islice, capOf, Option.isSome_none, Bool.false_and, Bool.and_false, Bool.or_false, Bool.false_or, bne_self_eq_false, Nat.not_lt_zero, Nat.mul_one, Nat.one_mul, Nat.zero_mul, Nat.mul_zero, beq_self_eq_true, Nat.sub_zero, Nat.reduceSub, List.length_set, false_implies, implies_true, forall_const, ↓dnW_oca, Nat.reduceLT, evI_fn, Nat.zero_lt_one, dnW_o, dnW_om, dnW_oc, dnW_ite, dnW_join, thenD_some, thenD_ite, onIfD_bool, onJoinD_out, onJoinD_ret, onJoinD_ite, Int.reduceEq, WP_some, WP_ite, byOut_goto, byOut_ret, ↓iexec_len, ↓iexec_iaddr, ↓iexec_append, ↓iexec_store, storeF_ptr, lenF_nil, lenF_lst, lenF_sl, lenF_str, iaddrF_sl, iaddrF_lst, hil, capOf, h0, hJ', iclearS, hr1, hr2, hfl]
          refine hK _ _ ⟨(isplice full (i * 2) (List.replicate (Y.length - i) [IV.sc (.slice none 0 0), IV.sc (.int .i64 0)]).flatten).drop (i * 2), by rw [hkl]; rfl, ?_, hfr.trans (Fr.set _ _ (S := [c]) (by simp)) (by simp), ?_⟩
          rotate_left
          · apply irefsL_drop
            unfold isplice
            rw [irefsL_append, irefsL_append, irefsL_take hfr0, irefsL_drop hfr0, irefsL_pure _ (ipureL_iff.2 fun x hx => by
              obtain ⟨w, hw, hx⟩ := List.mem_flatten.1 hx
              rw [(List.mem_replicate.1 hw).2] at hx
              simp at hx
              rcases hx with rfl | rfl <;> rfl)]
            rfl
          rw [← htk]
          have : full.take (i * 2) = (isplice full (i * 2) (List.replicate (Y.length - i) [IV.sc (.slice none 0 0), IV.sc (.int .i64 0)]).flatten).take (i * 2) := by
            unfold isplice
            rw [List.append_assoc, List.take_append_of_le_length (by rw [List.length_take]; omega), List.take_take, Nat.min_self]
          rw [this, List.take_append_drop]
          simp [lt_get hJ']
      · have h : j < Y.length := by omega
        refine g1 _ (m - 1) _ (by omega) ⟨i, j + 1, Z, by omega, by omega, rfl, hZ, ?_, hdr h, hok, ?_, hfr.trans hf2 (by simp)⟩
        · rw [List.take_succ_eq_append_getElem h, ht]
          have : Y[j].2 < 0 := by rw [← hget h (by omega)]; exact hl
          unfold keepY; rw [List.filter_append]; simp only [List.filter_cons, this]; simp
        · rw [hf2.2 c (lt_get hJ') (by simp)]; exact hJ'
      · have hjZ : j < Z.length := by omega
        have h : j < Y.length := by omega
        refine g1 _ (m - 1) _ (by omega) ⟨i + 1, j + 1, Z.set i Z[j], by omega, by omega, rfl, by simpa using hZ, ?_, ?_, ?_, hJ2, hfr.trans hf2 (by simp)⟩
        · rw [List.take_succ_eq_append_getElem h]
          have h2 : ¬ Y[j].2 < 0 := by rw [← hget h (by omega)]; exact hl
          have h3 : keepY (Y.take j ++ [Y[j]]) = keepY (Y.take j) ++ [Y[j]] := by unfold keepY; rw [List.filter_append]; simp only [List.filter_cons, h2]; simp
          rw [h3, ← ht, List.take_succ_eq_append_getElem (by simp; omega), List.take_set_of_le (Nat.le_refl _), List.getElem_set_self, hget h hjZ]
        · rw [List.drop_set_of_lt (by omega)]; exact hdr h
        · intro y hy
          rcases List.mem_or_eq_of_mem_set hy with hy | rfl
          · exact hok y hy
          · exact hok _ (List.getElem_mem hjZ)
    · rw [List.take_succ_eq_append_getElem hi0]
      have h1 : keepY (Y.take i0) = Y.take i0 := by
        unfold keepY
        rw [List.filter_eq_self]
        intro y hy
        simpa using ha y hy
      have h2 : keepY (Y.take i0 ++ [Y[i0]]) = keepY (Y.take i0) := by unfold keepY; rw [List.filter_append]; simp only [List.filter_cons, hlt]; simp
      rw [h2, h1]
end Go.Proofs.Ytohclaopcejjnaa.G
namespace Go.Proofs.Ytohclaopcejjnaa.G
open Go
set_option linter.unusedSimpArgs false
set_option linter.unusedVariables false
theorem delete_nil (J : JH) : ic BI F_slices_DeleteFunc_Lwire_waiting_wire_waiting [.sc (.slice none 0 0), .fn F_wire_Wire_Take_1 [] []] J = some (.sc (.slice none 0 0), J) := by
  have hi : ic BI F_slices_IndexFunc_Lwire_waiting_wire_waiting [.sc (.slice none 0 0), .fn F_wire_Wire_Take_1 [] []] J = some (.int .i64 (-1), J) := by
    refine ic_run fn_slices_IndexFunc_Lwire_waiting_wire_waiting rfl (vs := [.int .i64 (-1)]) ?_
    have hl : iter (dn BI l_slices_IndexFunc_Lwire_waiting_wire_waiting_k0) 1 [.sc (.slice none 0 0), .fn F_wire_Wire_Take_1 [] [], .int .i64 ((0 : Nat) : Int), .int .i64 0] J = some (.goto 0 [], J) := by
      refine iter_out ?_ (by decide)
      unfold l_slices_IndexFunc_Lwire_waiting_wire_waiting_k0
      simp -implicitDefEqProofs only [dn_o, dn_om, dn_oc, dn_ite, dn_ret, dn_join, dn_goto, iexec, evI_0, evI_succ, evI_int, evI_bool, evI_nilsl, evI_nilp, List.cons_append, List.nil_append, scal2_sc, abin, aun, ilift_some, thenI_some, onIf_bool, onJoin_goto, onJoin_ret, onJoin_ite, thenI_ite, Option.map_some, Option.map_none, decide_eq_true_eq, List.map_cons, List.map_nil, reduceIte, if_true, if_false, Bool.false_eq_true, inew, iload, istore, iwr, ird, icells, ione, one, List.getElem?_toArray, List.getElem?_cons_zero, List.getElem?_cons_succ, List.push_toArray, List.size_toArray, List.length_cons, List.length_nil, List.setIfInBounds_toArray, List.set_cons_zero, List.set_cons_succ, isplice_cons, List.drop_succ_cons, List.drop_zero, List.take_succ_cons, List.take_zero, List.drop_nil, List.take_nil, List.append_nil, List.all_cons, List.all_nil, Bool.and_true, Bool.true_and, Bool.and_self, Nat.zero_add, Nat.add_zero, Nat.reduceAdd, Nat.reduceLeDiff, Nat.reduceMul, Nat.le_refl, true_and, and_true, and_self, List.getElem?_nil, BI_zc, BI_zv, BI_co, zcT, zvT, coT, not_true_eq_false, not_false_eq_true, Bool.not_true, Bool.not_false, stepI', wantsI, ifill, ievs, Nat.reduceEqDiff, itup, Nat.le_add_left, Nat.le_add_right, iaggEq, List.foldl, iminI, iminF, imin2, min2, iisNil, isNil, ilen, Option.isNone_none, Option.isNone_some, Nat.zero_le, decide_true, decide_false, ireps, List.replicate, List.flatten_cons, List.flatten_nil, ichk, itouch, ctouch, ilooks, isame, untouched, Option.isSome_some, Bool.or_true, Bool.true_or, List.contains_nil, Int.reduceLT, Int.reduceLE, blkOf, IntKind.bits, iasNat, asNat, Int.toNat_natCast, Int.natCast_nonneg, List.length_map, endP_ret, endP_ite, Int.reduceToNat, iscells, ibnd, islice, capOf, Option.isSome_none, Bool.false_and, Bool.and_false, Bool.or_false, Bool.false_or, bne_self_eq_false, Nat.not_lt_zero, Nat.mul_one, Nat.one_mul, Nat.zero_mul, Nat.mul_zero, onJoin_out, beq_self_eq_true, Nat.sub_zero, Nat.reduceSub, List.length_set, false_implies, implies_true, forall_const, Int.natCast_zero, Int.lt_irrefl]
    unfold l_slices_IndexFunc_Lwire_waiting_wire_waiting l_slices_IndexFunc_Lwire_waiting_wire_waiting_k1
    simp -implicitDefEqProofs only [dn_o, dn_om, dn_oc, dn_ite, dn_ret, dn_join, dn_goto, iexec, evI_0, evI_succ, evI_int, evI_bool, evI_nilsl, evI_nilp, List.cons_append, List.nil_append, scal2_sc, abin, aun, ilift_some, thenI_some, onIf_bool, onJoin_goto, onJoin_ret, onJoin_ite, thenI_ite, Option.map_some, Option.map_none, decide_eq_true_eq, List.map_cons, List.map_nil, reduceIte, if_true, if_false, Bool.false_eq_true, inew, iload, istore, iwr, ird, icells, ione, one, List.getElem?_toArray, List.getElem?_cons_zero, List.getElem?_cons_succ, List.push_toArray, List.size_toArray, List.length_cons, List.length_nil, List.setIfInBounds_toArray, List.set_cons_zero, List.set_cons_succ, isplice_cons, List.drop_succ_cons, List.drop_zero, List.take_succ_cons, List.take_zero, List.drop_nil, List.take_nil, List.append_nil, List.all_cons, List.all_nil, Bool.and_true, Bool.true_and, Bool.and_self, Nat.zero_add, Nat.add_zero, Nat.reduceAdd, Nat.reduceLeDiff, Nat.reduceMul, Nat.le_refl, true_and, and_true, and_self, List.getElem?_nil, BI_zc, BI_zv, BI_co, zcT, zvT, coT, not_true_eq_false, not_false_eq_true, Bool.not_true, Bool.not_false, stepI', wantsI, ifill, ievs, Nat.reduceEqDiff, itup, Nat.le_add_left, Nat.le_add_right, iaggEq, List.foldl, iminI, iminF, imin2, min2, iisNil, isNil, ilen, Option.isNone_none, Option.isNone_some, Nat.zero_le, decide_true, decide_false, ireps, List.replicate, List.flatten_cons, List.flatten_nil, ichk, itouch, ctouch, ilooks, isame, untouched, Option.isSome_some, Bool.or_true, Bool.true_or, List.contains_nil, Int.reduceLT, Int.reduceLE, blkOf, IntKind.bits, iasNat, asNat, Int.toNat_natCast, Int.natCast_nonneg, List.length_map, endP_ret, endP_ite, Int.reduceToNat, iscells, ibnd, islice, capOf, Option.isSome_none, Bool.false_and, Bool.and_false, Bool.or_false, Bool.false_or, bne_self_eq_false, Nat.not_lt_zero, Nat.mul_one, Nat.one_mul, Nat.zero_mul, Nat.mul_zero, onJoin_out, beq_self_eq_true, Nat.sub_zero, Nat.reduceSub, List.length_set, false_implies, implies_true, forall_const, dn_loop, hl]
  refine ic_run fn_slices_DeleteFunc_Lwire_waiting_wire_waiting rfl (vs := [.sc (.slice none 0 0)]) ?_
  unfold l_slices_DeleteFunc_Lwire_waiting_wire_waiting
  simp -implicitDefEqProofs only [dn_o, dn_om, dn_oc, dn_ite, dn_ret, dn_join, dn_goto, iexec, evI_0, evI_succ, evI_int, evI_bool, evI_nilsl, evI_nilp, List.cons_append, List.nil_append, scal2_sc, abin, aun, ilift_some, thenI_some, onIf_bool, onJoin_goto, onJoin_ret, onJoin_ite, thenI_ite, Option.map_some, Option.map_none, decide_eq_true_eq, List.map_cons, List.map_nil, reduceIte, if_true, if_false, Bool.false_eq_true, inew, iload, istore, iwr, ird, icells, ione, one, List.getElem?_toArray, List.getElem?_cons_zero, List.getElem?_cons_succ, List.push_toArray, List.size_toArray, List.length_cons, List.length_nil, List.setIfInBounds_toArray, List.set_cons_zero, List.set_cons_succ, isplice_cons, List.drop_succ_cons, List.drop_zero, List.take_succ_cons, List.take_zero, List.drop_nil, List.take_nil, List.append_nil, List.all_cons, List.all_nil, Bool.and_true, Bool.true_and, Bool.and_self, Nat.zero_add, Nat.add_zero, Nat.reduceAdd, Nat.reduceLeDiff, Nat.reduceMul, Nat.le_refl, true_and, and_true, and_self, List.getElem?_nil, BI_zc, BI_zv, BI_co, zcT, zvT, coT, not_true_eq_false, not_false_eq_true, Bool.not_true, Bool.not_false, stepI', wantsI, ifill, ievs, Nat.reduceEqDiff, itup, Nat.le_add_left, Nat.le_add_right, iaggEq, List.foldl, iminI, iminF, imin2, min2, iisNil, isNil, ilen, Option.isNone_none, Option.isNone_some, Nat.zero_le, decide_true, decide_false, ireps, List.replicate, List.flatten_cons, List.flatten_nil, ichk, itouch, ctouch, ilooks, isame, untouched, Option.isSome_some, Bool.or_true, Bool.true_or, List.contains_nil, Int.reduceLT, Int.reduceLE, blkOf, IntKind.bits, iasNat, asNat, Int.toNat_natCast, Int.natCast_nonneg, List.length_map, endP_ret, endP_ite, Int.reduceToNat, iscells, ibnd, islice, capOf, Option.isSome_none, Bool.false_and, Bool.and_false, Bool.or_false, Bool.false_or, bne_self_eq_false, Nat.not_lt_zero, Nat.mul_one, Nat.one_mul, Nat.zero_mul, Nat.mul_zero, onJoin_out, beq_self_eq_true, Nat.sub_zero, Nat.reduceSub, List.length_set, false_implies, implies_true, forall_const, dcr hi, beq_self_eq_true]
theorem store1 {Y : List (IV × Int)} {full rest : List IV} (hf : full = (encY Y).flatten ++ rest) {i : Nat} (h : i < Y.length) (m : Int) : isplice full (i * 2 + 1) [.int .i64 m] = (encY (Y.set i (Y[i].1, m))).flatten ++ rest := by
  have := flat_splice (rest := rest) (vs := [IV.int .i64 m]) (k := 1) (encY_2 Y) (i := i) (by rw [encY_len]; exact h) (by simp)
  rw [hf, this, ← encY_set, encY_at h]
  rfl
theorem load1 {Y : List (IV × Int)} {full rest : List IV} (hf : full = (encY Y).flatten ++ rest) {i : Nat} (h : i < Y.length) : (full.drop (i * 2)).take 1 = [Y[i].1] ∧ (full.drop (i * 2 + 1)).take 1 = [.int .i64 Y[i].2] ∧ i * 2 + 1 ≤ full.length ∧ i * 2 + 1 + 1 ≤ full.length := by
  have h' : i < (encY Y).length := by rw [encY_len]; exact h
  have e := encY_at h h'
  obtain ⟨_, h2⟩ := load2 hf h
  subst hf
  refine ⟨?_, ?_, by omega, by omega⟩
  · have := flat_at1 (rest := rest) (k := 0) (encY_2 Y) h' (by rw [e]; simp)
    rw [Nat.add_zero] at this
    rw [this]
    simp [e]
  · have := flat_at1 (rest := rest) (k := 1) (encY_2 Y) h' (by rw [e]; simp)
    rw [this]
    simp [e]
theorem fits24 {n : Nat} (h : n ≤ 1000000) : fits n 24 = true := by
  simp only [fits, Bool.and_eq_true, decide_eq_true_eq]
  omega
theorem take_step (b c v n i : Nat) (Z : List (IV × Int)) (hn : Z.length = n) (hY : Yok Z) (hsm : ∀ y ∈ Z, -10 ≤ y.2 ∧ y.2 ≤ 1000000) (hic : ∀ y ∈ Z, icells y.1 = [y.1]) (rest full : List IV) (hf : full = (encY Z).flatten ++ rest) (hi : i ≤ n) (hb : n ≤ 100000) (J : JH) (hJb : J[b]? = some (.cells 0 [.sl c v 0 n (UNK + 2) 2] false)) (hJ : J[c]? = some (.cells v full false)) (hbc : b ≠ c) (out : IV) (cs : List IV) (hg : Grow J out 1 cs) (hcs : cs.length ≤ i) (hob : b ∉ blk out) (hoc : c ∉ blk out) (K : Out IV → JH → Prop)
    (h0 : i = n → K (.goto 0 [.ptr b 0 0, out]) J)
    (h1 : ∀ (h : i < Z.length) out' J', Grow J' out' 1 (cs ++ if Z[i].2 = 0 then [Z[i].1] else []) → (∀ d ∈ blk out', d ∈ blk out ∨ J.size ≤ d) → J'[b]? = some (.cells 0 [.sl c v 0 n (UNK + 2) 2] false) → J'[c]? = some (.cells v ((encY (Z.set i (Z[i].1, Z[i].2 - 1))).flatten ++ rest) false) → Fr J J' (c :: blk out) → K (.goto 1 [.ptr b 0 0, out', .int .i64 ((n : Nat) : Int), .int .i64 ((i + 1 : Nat) : Int)]) J') :
    WP (dn BI l_wire_Wire_Take_k1 [.ptr b 0 0, out, .int .i64 ((n : Nat) : Int), .int .i64 (i : Int)] J) K := by
  by_cases h : i < n
  · have hw : IntKind.i64.wrap ((i : Int) + 1) = ((i + 1 : Nat) : Int) := by rw [wrap_i64 (by omega) (by omega)]; omega
    have hz : i < Z.length := by omega
    obtain ⟨a1, a2, a3, a4⟩ := load1 hf hz
    have a5 := store1 hf hz (Z[i].2 - 1)
    obtain ⟨o1, o2⟩ := hY _ (List.getElem_mem hz)
    obtain ⟨s1, s2⟩ := hsm _ (List.getElem_mem hz)
    have hc1 := hic _ (List.getElem_mem hz)
    have hw2 : IntKind.i64.wrap (Z[i].2 - 1) = Z[i].2 - 1 := wrap_i64 (by omega) (by omega)
    have h1' := h1 hz
    unfold l_wire_Wire_Take_k1 l_wire_Wire_Take_k0
    by_cases hl : Z[i].2 = 0
    · rw [if_pos hl] at h1'
      have hw3 : IntKind.i64.wrap (0 - 1) = 0 - 1 := rfl
      rw [hl] at hw2 a2 a5 h1'
      simp -implicitDefEqProofs only [dn_ret, dn_goto, iexec, evI_0, evI_succ, evI_int, evI_bool, evI_nilsl, evI_nilp, List.cons_append, List.nil_append, scal2_sc, abin, aun, ilift_some, Option.map_some, Option.map_none, decide_eq_true_eq, List.map_cons, List.map_nil, reduceIte, if_true, if_false, Bool.false_eq_true, inew, iload, istore, iwr, ird, icells, ione, one, List.getElem?_toArray, List.getElem?_cons_zero, List.getElem?_cons_succ, List.push_toArray, List.size_toArray, List.length_cons, List.length_nil, List.setIfInBounds_toArray, List.set_cons_zero, List.set_cons_succ, isplice_cons, List.drop_succ_cons, List.drop_zero, List.take_succ_cons, List.take_zero, List.drop_nil, List.take_nil, List.append_nil, List.all_cons, List.all_nil, Bool.and_true, Bool.true_and, Bool.and_self, Nat.zero_add, Nat.add_zero, Nat.reduceAdd, Nat.reduceLeDiff, Nat.reduceMul, Nat.le_refl, true_and, and_true, and_self, List.getElem?_nil, BI_zc, BI_zv, BI_co, zcT, zvT, coT, not_true_eq_false, not_false_eq_true, Bool.not_true, Bool.not_false, stepI', wantsI, ifill, ievs, Nat.reduceEqDiff, itup, Nat.le_add_left, Nat.le_add_right, iaggEq, List.foldl, iminI, iminF, imin2, min2, iisNil, isNil, ilen, Option.isNone_none, Option.isNone_some, Nat.zero_le, decide_true, decide_false, ireps, List.replicate, List.flatten_cons, List.flatten_nil, ichk, itouch, ctouch, ilooks, isame, untouched, Option.isSome_some, Bool.or_true, Bool.true_or, List.contains_nil, Int.reduceLT, Int.reduceLE, blkOf, IntKind.bits, iasNat, asNat, Int.toNat_natCast, Int.natCast_nonneg, List.length_map, Int.reduceToNat, iscells, ibnd, islice, capOf, Option.isSome_none, Bool.false_and, Bool.and_false, Bool.or_false, Bool.false_or, bne_self_eq_false, Nat.not_lt_zero, Nat.mul_one, Nat.one_mul, Nat.zero_mul, Nat.mul_zero, beq_self_eq_true, Nat.sub_zero, Nat.reduceSub, List.length_set, false_implies, implies_true, forall_const, ↓dnW_oca, Nat.reduceLT, evI_fn, Nat.zero_lt_one, dnW_o, dnW_om, dnW_oc, dnW_ite, dnW_join, thenD_some, thenD_ite, onIfD_bool, onJoinD_out, onJoinD_ret, onJoinD_ite, Int.reduceEq, WP_some, WP_ite, byOut_goto, byOut_ret, ↓iexec_len, ↓iexec_iaddr, ↓iexec_append, ↓iexec_store, storeF_ptr, lenF_nil, lenF_lst, lenF_sl, lenF_str, iaddrF_sl, iaddrF_lst, show ((i : Int) < (n : Int)) by omega, h, hJb, hJ, a1, a2, a3, a4, beq_self_eq_true, ↓o1, ↓o2, ↓hc1, ipureL, grp, mkE, List.headD, one_lt_UNK]
      refine WP_join fun K1 g1 g2 g3 => WP_bind (hg.app (m := 1) (ds := [Z[i].1]) (by omega) (by simp [iscells, hc1]) rfl rfl (by rw [List.all_cons, o1]; rfl) (fits24 (n := cs.length + 1) (by omega))) fun out' J' hs => ?_
      obtain ⟨k1, k2, k3⟩ := hs
      simp -implicitDefEqProofs only [dn_ret, dn_goto, iexec, evI_0, evI_succ, evI_int, evI_bool, evI_nilsl, evI_nilp, List.cons_append, List.nil_append, scal2_sc, abin, aun, ilift_some, Option.map_some, Option.map_none, decide_eq_true_eq, List.map_cons, List.map_nil, reduceIte, if_true, if_false, Bool.false_eq_true, inew, iload, istore, iwr, ird, icells, ione, one, List.getElem?_toArray, List.getElem?_cons_zero, List.getElem?_cons_succ, List.push_toArray, List.size_toArray, List.length_cons, List.length_nil, List.setIfInBounds_toArray, List.set_cons_zero, List.set_cons_succ, isplice_cons, List.drop_succ_cons, List.drop_zero, List.take_succ_cons, List.take_zero, List.drop_nil, List.take_nil, List.append_nil, List.all_cons, List.all_nil, Bool.and_true, Bool.true_and, Bool.and_self, Nat.zero_add, Nat.add_zero, Nat.reduceAdd, Nat.reduceLeDiff, Nat.reduceMul, Nat.le_refl, true_and, and_true, and_self, List.getElem?_nil, BI_zc, BI_zv, BI_co, zcT, zvT, coT, not_true_eq_false, not_false_eq_true, Bool.not_true, Bool.not_false, stepI', wantsI, ifill, ievs, Nat.reduceEqDiff, itup, Nat.le_add_left, Nat.le_add_right, iaggEq, List.foldl, iminI, iminF, imin2, min2, iisNil, isNil, ilen, Option.isNone_none, Option.isNone_some, Nat.zero_le, decide_true, decide_false, ireps, List.replicate, List.flatten_cons, List.flatten_nil, ichk, itouch, ctouch, ilooks, isame, untouched, Option.isSome_some, Bool.or_true, Bool.true_or, List.contains_nil, Int.reduceLT, Int.reduceLE, blkOf, IntKind.bits, iasNat, asNat, Int.toNat_natCast, Int.natCast_nonneg, List.length_map, Int.reduceToNat, iscells, ibnd, islice, capOf, Option.isSome_none, Bool.false_and, Bool.and_false, Bool.or_false, Bool.false_or, bne_self_eq_false, Nat.not_lt_zero, Nat.mul_one, Nat.one_mul, Nat.zero_mul, Nat.mul_zero, beq_self_eq_true, Nat.sub_zero, Nat.reduceSub, List.length_set, false_implies, implies_true, forall_const, ↓dnW_oca, Nat.reduceLT, evI_fn, Nat.zero_lt_one, dnW_o, dnW_om, dnW_oc, dnW_ite, dnW_join, thenD_some, thenD_ite, onIfD_bool, onJoinD_out, onJoinD_ret, onJoinD_ite, Int.reduceEq, WP_some, WP_ite, byOut_goto, byOut_ret, ↓iexec_len, ↓iexec_iaddr, ↓iexec_append, ↓iexec_store, storeF_ptr, lenF_nil, lenF_lst, lenF_sl, lenF_str, iaddrF_sl, iaddrF_lst]
      refine g1 _ _ ?_
      have hb2 : J'[b]? = some (.cells 0 [.sl c v 0 n (UNK + 2) 2] false) := by rw [k2.2 b (lt_get hJb) hob]; exact hJb
      have hc2 : J'[c]? = some (.cells v full false) := by rw [k2.2 c (lt_get hJ) hoc]; exact hJ
      have hco : c ∉ blk out' := fun hm => by
        rcases k3 c hm with h | h
        · exact hoc h
        · have := lt_get hJ; omega
      simp -implicitDefEqProofs only [dn_ret, dn_goto, iexec, evI_0, evI_succ, evI_int, evI_bool, evI_nilsl, evI_nilp, List.cons_append, List.nil_append, scal2_sc, abin, aun, ilift_some, Option.map_some, Option.map_none, decide_eq_true_eq, List.map_cons, List.map_nil, reduceIte, if_true, if_false, Bool.false_eq_true, inew, iload, istore, iwr, ird, icells, ione, one, List.getElem?_toArray, List.getElem?_cons_zero, List.getElem?_cons_succ, List.push_toArray, List.size_toArray, List.length_cons, List.length_nil, List.setIfInBounds_toArray, List.set_cons_zero, List.set_cons_succ, isplice_cons, List.drop_succ_cons, List.drop_zero, List.take_succ_cons, List.take_zero, List.drop_nil, List.take_nil, List.append_nil, List.all_cons, List.all_nil, Bool.and_true, Bool.true_and, Bool.and_self, Nat.zero_add, Nat.add_zero, Nat.reduceAdd, Nat.reduceLeDiff, Nat.reduceMul, Nat.le_refl, true_and, and_true, and_self, List.getElem?_nil, BI_zc, BI_zv, BI_co, zcT, zvT, coT, not_true_eq_false, not_false_eq_true, Bool.not_true, Bool.not_false, stepI', wantsI, ifill, ievs, Nat.reduceEqDiff, itup, Nat.le_add_left, Nat.le_add_right, iaggEq, List.foldl, iminI, iminF, imin2, min2, iisNil, isNil, ilen, Option.isNone_none, Option.isNone_some, Nat.zero_le, decide_true, decide_false, ireps, List.replicate, List.flatten_cons, List.flatten_nil, ichk, itouch, ctouch, ilooks, isame, untouched, Option.isSome_some, Bool.or_true, Bool.true_or, List.contains_nil, Int.reduceLT, Int.reduceLE, blkOf, IntKind.bits, iasNat, asNat, Int.toNat_natCast, Int.natCast_nonneg, List.length_map, Int.reduceToNat, iscells, ibnd, islice, capOf, Option.isSome_none, Bool.false_and, Bool.and_false, Bool.or_false, Bool.false_or, bne_self_eq_false, Nat.not_lt_zero, Nat.mul_one, Nat.one_mul, Nat.zero_mul, Nat.mul_zero, beq_self_eq_true, Nat.sub_zero, Nat.reduceSub, List.length_set, false_implies, implies_true, forall_const, ↓dnW_oca, Nat.reduceLT, evI_fn, Nat.zero_lt_one, dnW_o, dnW_om, dnW_oc, dnW_ite, dnW_join, thenD_some, thenD_ite, onIfD_bool, onJoinD_out, onJoinD_ret, onJoinD_ite, Int.reduceEq, WP_some, WP_ite, byOut_goto, byOut_ret, ↓iexec_len, ↓iexec_iaddr, ↓iexec_append, ↓iexec_store, storeF_ptr, lenF_nil, lenF_lst, lenF_sl, lenF_str, iaddrF_sl, iaddrF_lst, hb2, hc2, h, a2, a4, hw3, hw]
      rw [a5]
      refine h1' out' _ (k1.fr (Fr.set J' _ (S := [c]) (by simp)) (fun d hd hm => ?_)) k3 ?_ ?_ (Fr.trans (J1 := J') ⟨k2.1, fun d hd hm => k2.2 d hd fun h => hm (by simp [h])⟩ (Fr.set J' _ (S := [c]) (by simp)) (fun d _ h => by simp at h; simp [h]))
      · rw [List.mem_singleton] at hm; exact hco (hm ▸ hd)
      · rw [Array.getElem?_setIfInBounds, if_neg (fun e => hbc e.symm)]; exact hb2
      · simp [lt_get hc2]
    · rw [if_neg hl, List.append_nil] at h1'
      have hl' : (Z[i].2 == 0) = false := by simpa using hl
      simp -implicitDefEqProofs only [dn_ret, dn_goto, iexec, evI_0, evI_succ, evI_int, evI_bool, evI_nilsl, evI_nilp, List.cons_append, List.nil_append, scal2_sc, abin, aun, ilift_some, Option.map_some, Option.map_none, decide_eq_true_eq, List.map_cons, List.map_nil, reduceIte, if_true, if_false, Bool.false_eq_true, inew, iload, istore, iwr, ird, icells, ione, one, List.getElem?_toArray, List.getElem?_cons_zero, List.getElem?_cons_succ, List.push_toArray, List.size_toArray, List.length_cons, List.length_nil, List.setIfInBounds_toArray, List.set_cons_zero, List.set_cons_succ, isplice_cons, List.drop_succ_cons, List.drop_zero, List.take_succ_cons, List.take_zero, List.drop_nil, List.take_nil, List.append_nil, List.all_cons, List.all_nil, Bool.and_true, Bool.true_and, Bool.and_self, Nat.zero_add, Nat.add_zero, Nat.reduceAdd, Nat.reduceLeDiff, Nat.reduceMul, Nat.le_refl, true_and, and_true, and_self, List.getElem?_nil, BI_zc, BI_zv, BI_co, zcT, zvT, coT, not_true_eq_false, not_false_eq_true, Bool.not_true, Bool.not_false, stepI', wantsI, ifill, ievs, Nat.reduceEqDiff, itup, Nat.le_add_left, Nat.le_add_right, iaggEq, List.foldl, iminI, iminF, imin2, min2, iisNil, isNil, ilen, Option.isNone_none, Option.isNone_some, Nat.zero_le, decide_true, decide_false, ireps, List.replicate, List.flatten_cons, List.flatten_nil, ichk, itouch, ctouch, ilooks, isame, untouched, Option.isSome_some, Bool.or_true, Bool.true_or, List.contains_nil, Int.reduceLT, Int.reduceLE, blkOf, IntKind.bits, iasNat, asNat, Int.toNat_natCast, Int.natCast_nonneg, List.length_map, Int.reduceToNat, iscells, ibnd, islice, capOf, Option.isSome_none, Bool.false_and, Bool.and_false, Bool.or_false, Bool.false_or, bne_self_eq_false, Nat.not_lt_zero, Nat.mul_one, Nat.one_mul, Nat.zero_mul, Nat.mul_zero, beq_self_eq_true, Nat.sub_zero, Nat.reduceSub, List.length_set, false_implies, implies_true, forall_const, ↓dnW_oca, Nat.reduceLT, evI_fn, Nat.zero_lt_one, dnW_o, dnW_om, dnW_oc, dnW_ite, dnW_join, thenD_some, thenD_ite, onIfD_bool, onJoinD_out, onJoinD_ret, onJoinD_ite, Int.reduceEq, WP_some, WP_ite, byOut_goto, byOut_ret, ↓iexec_len, ↓iexec_iaddr, ↓iexec_append, ↓iexec_store, storeF_ptr, lenF_nil, lenF_lst, lenF_sl, lenF_str, iaddrF_sl, iaddrF_lst, show ((i : Int) < (n : Int)) by omega, h, hJb, hJ, a1, a2, a3, a4, a5, hl', ↓o1, ↓o2, ↓hc1, hw2, hw]
      refine h1' out _ (hg.fr (Fr.set J _ (S := [c]) (by simp)) (fun d hd hm => ?_)) (fun d hd => .inl hd) ?_ ?_ (Fr.set J _ (by simp))
      · rw [List.mem_singleton] at hm; exact hoc (hm ▸ hd)
      · rw [Array.getElem?_setIfInBounds, if_neg (fun e => hbc e.symm)]; exact hJb
      · simp [lt_get hJ]
  · unfold l_wire_Wire_Take_k1
    simp -implicitDefEqProofs only [dn_ret, dn_goto, iexec, evI_0, evI_succ, evI_int, evI_bool, evI_nilsl, evI_nilp, List.cons_append, List.nil_append, scal2_sc, abin, aun, ilift_some, Option.map_some, Option.map_none, decide_eq_true_eq, List.map_cons, List.map_nil, reduceIte, if_true, if_false, Bool.false_eq_true, inew, iload, istore, iwr, ird, icells, ione, one, List.getElem?_toArray, List.getElem?_cons_zero, List.getElem?_cons_succ, List.push_toArray, List.size_toArray, List.length_cons, List.length_nil, List.setIfInBounds_toArray, List.set_cons_zero, List.set_cons_succ, isplice_cons, List.drop_succ_cons, List.drop_zero, List.take_succ_cons, List.take_zero, List.drop_nil, List.take_nil, List.append_nil, List.all_cons, List.all_nil, Bool.and_true, Bool.true_and, Bool.and_self, Nat.zero_add, Nat.add_zero, Nat.reduceAdd, Nat.reduceLeDiff, Nat.reduceMul, Nat.le_refl, true_and, and_true, and_self, List.getElem?_nil, BI_zc, BI_zv, BI_co, zcT, zvT, coT, not_true_eq_false, not_false_eq_true, Bool.not_true, Bool.not_false, stepI', wantsI, ifill, ievs, Nat.reduceEqDiff, itup, Nat.le_add_left, Nat.le_add_right, iaggEq, List.foldl, iminI, iminF, imin2, min2, iisNil, isNil, ilen, Option.isNone_none, Option.isNone_some, Nat.zero_le, decide_true, decide_false, ireps, List.replicate, List.flatten_cons, List.flatten_nil, ichk, itouch, ctouch, ilooks, isame, untouched, Option.isSome_some, Bool.or_true, Bool.true_or, List.contains_nil, Int.reduceLT, Int.reduceLE, blkOf, IntKind.bits, iasNat, asNat, Int.toNat_natCast, Int.natCast_nonneg, List.length_map, Int.reduceToNat, iscells, ibnd, islice, capOf, Option.isSome_none, Bool.false_and, Bool.and_false, Bool.or_false, Bool.false_or, bne_self_eq_false, Nat.not_lt_zero, Nat.mul_one, Nat.one_mul, Nat.zero_mul, Nat.mul_zero, beq_self_eq_true, Nat.sub_zero, Nat.reduceSub, List.length_set, false_implies, implies_true, forall_const, ↓dnW_oca, Nat.reduceLT, evI_fn, Nat.zero_lt_one, dnW_o, dnW_om, dnW_oc, dnW_ite, dnW_join, thenD_some, thenD_ite, onIfD_bool, onJoinD_out, onJoinD_ret, onJoinD_ite, Int.reduceEq, WP_some, WP_ite, byOut_goto, byOut_ret, ↓iexec_len, ↓iexec_iaddr, ↓iexec_append, ↓iexec_store, storeF_ptr, lenF_nil, lenF_lst, lenF_sl, lenF_str, iaddrF_sl, iaddrF_lst, show ¬ ((i : Int) < (n : Int)) by omega]
    exact h0 (by omega)
def decY (Y : List (IV × Int)) : List (IV × Int) := Y.map fun y => (y.1, y.2 - 1)
def nowY (Y : List (IV × Int)) : List IV := (Y.filter fun y => decide (y.2 = 0)).map (·.1)
theorem nowY_succ {Y : List (IV × Int)} {i : Nat} (h : i < Y.length) : nowY (Y.take (i + 1)) = nowY (Y.take i) ++ if Y[i].2 = 0 then [Y[i].1] else [] := by
  rw [List.take_succ_eq_append_getElem h]
  unfold nowY
  rw [List.filter_append, List.map_append]
  by_cases hl : Y[i].2 = 0 <;> simp [List.filter_cons, hl]
theorem nowY_len (Y : List (IV × Int)) : (nowY Y).length ≤ Y.length := by
  unfold nowY
  rw [List.length_map]
  exact List.length_filter_le _ _
theorem take_sl (b c v : Nat) (Y : List (IV × Int)) (hY : Yok Y) (hsm : ∀ y ∈ Y, 0 ≤ y.2 ∧ y.2 ≤ 1000) (hic : ∀ y ∈ Y, icells y.1 = [y.1]) (rest : List IV) (hrest : irefsL rest = []) (hb : Y.length ≤ 100000) (J : JH) (hJb : J[b]? = some (.cells 0 [.sl c v 0 Y.length (UNK + 2) 2] false)) (hJ : J[c]? = some (.cells v ((encY Y).flatten ++ rest) false)) (hbc : b ≠ c) :
    RP (ic BI F_wire_Wire_Take [.ptr b 0 0] J) fun out J' => ∃ r', J'[b]? = some (.cells 0 [.sl c v 0 (keepY (decY Y)).length (UNK + 2) 2] false) ∧ J'[c]? = some (.cells v ((encY (keepY (decY Y))).flatten ++ r') false) ∧ Grow J' out 1 (nowY Y) ∧ Fr J J' [b, c] ∧ (∀ d ∈ blk out, J.size ≤ d) ∧ irefsL r' = [] := by
  refine RP_run fn_wire_Wire_Take rfl fun K hK => ?_
  unfold l_wire_Wire_Take
  simp -implicitDefEqProofs only [dn_ret, dn_goto, iexec, evI_0, evI_succ, evI_int, evI_bool, evI_nilsl, evI_nilp, List.cons_append, List.nil_append, scal2_sc, abin, aun, ilift_some, Option.map_some, Option.map_none, decide_eq_true_eq, List.map_cons, List.map_nil, reduceIte, if_true, if_false, Bool.false_eq_true, inew, iload, istore, iwr, ird, icells, ione, one, List.getElem?_toArray, List.getElem?_cons_zero, List.getElem?_cons_succ, List.push_toArray, List.size_toArray, List.length_cons, List.length_nil, List.setIfInBounds_toArray, List.set_cons_zero, List.set_cons_succ, isplice_cons, List.drop_succ_cons, List.drop_zero, List.take_succ_cons, List.take_zero, List.drop_nil, List.take_nil, List.append_nil, List.all_cons, List.all_nil, Bool.and_true, Bool.true_and, Bool.and_self, Nat.zero_add, Nat.add_zero, Nat.reduceAdd, Nat.reduceLeDiff, Nat.reduceMul, Nat.le_refl, true_and, and_true, and_self, List.getElem?_nil, BI_zc, BI_zv, BI_co, zcT, zvT, coT, not_true_eq_false, not_false_eq_true, Bool.not_true, Bool.not_false, stepI', wantsI, ifill, ievs, Nat.reduceEqDiff, itup, Nat.le_add_left, Nat.le_add_right, iaggEq, List.foldl, iminI, iminF, imin2, min2, iisNil, isNil, ilen, Option.isNone_none, Option.isNone_some, Nat.zero_le, decide_true, decide_false, ireps, List.replicate, List.flatten_cons, List.flatten_nil, ichk, itouch, ctouch, ilooks, isame, untouched, Option.isSome_some, Bool.or_true, Bool.true_or, List.contains_nil, Int.reduceLT, Int.reduceLE, blkOf, IntKind.bits, iasNat, asNat, Int.toNat_natCast, Int.natCast_nonneg, List.length_map, Int.reduceToNat, iscells, ibnd, islice, capOf, Option.isSome_none, Bool.false_and, Bool.and_false, Bool.or_false, Bool.false_or, bne_self_eq_false, Nat.not_lt_zero, Nat.mul_one, Nat.one_mul, Nat.zero_mul, Nat.mul_zero, beq_self_eq_true, Nat.sub_zero, Nat.reduceSub, List.length_set, false_implies, implies_true, forall_const, ↓dnW_oca, Nat.reduceLT, evI_fn, Nat.zero_lt_one, dnW_o, dnW_om, dnW_oc, dnW_ite, dnW_join, thenD_some, thenD_ite, onIfD_bool, onJoinD_out, onJoinD_ret, onJoinD_ite, Int.reduceEq, WP_some, WP_ite, byOut_goto, byOut_ret, ↓iexec_len, ↓iexec_iaddr, ↓iexec_append, ↓iexec_store, storeF_ptr, lenF_nil, lenF_lst, lenF_sl, lenF_str, iaddrF_sl, iaddrF_lst, hJb, dn_loop]
  refine WP_loop (by decide) (fun m vs J' => ∃ (i : Nat) (out : IV), i + m = Y.length ∧ vs = [.ptr b 0 0, out, .int .i64 ((Y.length : Nat) : Int), .int .i64 (i : Int)] ∧ J'[b]? = some (.cells 0 [.sl c v 0 Y.length (UNK + 2) 2] false) ∧ J'[c]? = some (.cells v ((encY (decY (Y.take i) ++ Y.drop i)).flatten ++ rest) false) ∧ Grow J' out 1 (nowY (Y.take i)) ∧ Fr J J' [b, c] ∧ ∀ d ∈ blk out, J.size ≤ d) ?_ Y.length _ _ ⟨0, _, by omega, rfl, hJb, by simpa [decY] using hJ, .nil, .refl _ _, by simp [blk, blkOf]⟩
  rintro m vs J1 ⟨i, out, hi, rfl, hb1, hc1, hg, hfr, hlow⟩ K1 g1 g2 g3
  have hblt := lt_get hJb
  have hclt := lt_get hJ
  have hzl : (decY (Y.take i) ++ Y.drop i).length = Y.length := by simp [decY]; omega
  have hzi : ∀ (h : i < Y.length) (h' : i < (decY (Y.take i) ++ Y.drop i).length), (decY (Y.take i) ++ Y.drop i)[i] = Y[i] := fun h h' => by
    rw [List.getElem_append_right (by simp [decY, Nat.min_le_left])]
    simp [decY, Nat.min_eq_left (Nat.le_of_lt h)]
  have hmem : ∀ y ∈ decY (Y.take i) ++ Y.drop i, ∃ z ∈ Y, y.1 = z.1 ∧ (y.2 = z.2 ∨ y.2 = z.2 - 1) := fun y hy => by
    rcases List.mem_append.1 hy with hy | hy
    · obtain ⟨z, hz, rfl⟩ := List.mem_map.1 hy
      exact ⟨z, List.mem_of_mem_take hz, rfl, .inr rfl⟩
    · exact ⟨y, List.mem_of_mem_drop hy, rfl, .inl rfl⟩
  refine take_step b c v Y.length i (decY (Y.take i) ++ Y.drop i) hzl (fun y hy => ?_) (fun y hy => ?_) (fun y hy => ?_) rest _ rfl (by omega) hb J1 hb1 hc1 hbc out _ hg ?_ (fun h => ?_) (fun h => ?_) K1 (fun he => ?_) (fun hz out' J2 hg2 hb2 hJb2 hJ2 hfr2 => ?_)
  · obtain ⟨z, hz, e1, _⟩ := hmem y hy; rw [e1]; exact hY z hz
  · obtain ⟨z, hz, _, e2⟩ := hmem y hy
    have := hsm z hz
    omega
  · obtain ⟨z, hz, e1, _⟩ := hmem y hy; rw [e1]; exact hic z hz
  · have := nowY_len (Y.take i); rw [List.length_take] at this; omega
  · have := hlow b h; omega
  · have := hlow c h; omega
  · refine g2 _ _ ?_
    subst he
    rw [List.drop_length, List.append_nil, List.take_length] at hc1
    rw [List.take_length] at hg
    have hd := delete_sl c v (decY Y) (fun y hy => by
      obtain ⟨z, hz, rfl⟩ := List.mem_map.1 hy
      exact hY z hz) rest hrest (by simp [decY]; omega) J1 hc1
    rw [show (decY Y).length = Y.length by simp [decY]] at hd
    unfold l_wire_Wire_Take_k2
    simp -implicitDefEqProofs only [dn_ret, dn_goto, iexec, evI_0, evI_succ, evI_int, evI_bool, evI_nilsl, evI_nilp, List.cons_append, List.nil_append, scal2_sc, abin, aun, ilift_some, Option.map_some, Option.map_none, decide_eq_true_eq, List.map_cons, List.map_nil, reduceIte, if_true, if_false, Bool.false_eq_true, inew, iload, istore, iwr, ird, icells, ione, one, List.getElem?_toArray, List.getElem?_cons_zero, List.getElem?_cons_succ, List.push_toArray, List.size_toArray, List.length_cons, List.length_nil, List.setIfInBounds_toArray, List.set_cons_zero, List.set_cons_succ, isplice_cons, List.drop_succ_cons, List.drop_zero, List.take_succ_cons, List.take_zero, List.drop_nil, List.take_nil, List.append_nil, List.all_cons, List.all_nil, Bool.and_true, Bool.true_and, Bool.and_self, Nat.zero_add, Nat.add_zero, Nat.reduceAdd, Nat.reduceLeDiff, Nat.reduceMul, Nat.le_refl, true_and, and_true, and_self, List.getElem?_nil, BI_zc, BI_zv, BI_co, zcT, zvT, coT, not_true_eq_false, not_false_eq_true, Bool.not_true, Bool.not_false, stepI', wantsI, ifill, ievs, Nat.reduceEqDiff, itup, Nat.le_add_left, Nat.le_add_right, iaggEq, List.foldl, iminI, iminF, imin2, min2, iisNil, isNil, ilen, Option.isNone_none, Option.isNone_some, Nat.zero_le, decide_true, decide_false, ireps, List.replicate, List.flatten_cons, List.flatten_nil, ichk, itouch, ctouch, ilooks, isame, untouched, Option.isSome_some, Bool.or_true, Bool.true_or, List.contains_nil, Int.reduceLT, Int.reduceLE, blkOf, IntKind.bits, iasNat, asNat, Int.toNat_natCast, Int.natCast_nonneg, List.length_map, Int.reduceToNat, iscells, ibnd, islice, capOf, Option.isSome_none, Bool.false_and, Bool.and_false, Bool.or_false, Bool.false_or, bne_self_eq_false, Nat.not_lt_zero, Nat.mul_one, Nat.one_mul, Nat.zero_mul, Nat.mul_zero, beq_self_eq_true, Nat.sub_zero, Nat.reduceSub, List.length_set, false_implies, implies_true, forall_const, ↓dnW_oca, Nat.reduceLT, evI_fn, Nat.zero_lt_one, dnW_o, dnW_om, dnW_oc, dnW_ite, dnW_join, thenD_some, thenD_ite, onIfD_bool, onJoinD_out, onJoinD_ret, onJoinD_ite, Int.reduceEq, WP_some, WP_ite, byOut_goto, byOut_ret, ↓iexec_len, ↓iexec_iaddr, ↓iexec_append, ↓iexec_store, storeF_ptr, lenF_nil, lenF_lst, lenF_sl, lenF_str, iaddrF_sl, iaddrF_lst, hb1]
    refine WP_call hd fun s' J2 hs => ?_
    obtain ⟨r', rfl, hc2, hf2, hr2⟩ := hs
    have hb2 : J2[b]? = some (.cells 0 [.sl c v 0 Y.length (UNK + 2) 2] false) := by rw [hf2.2 b (lt_get hb1) (by simpa using hbc)]; exact hb1
    simp -implicitDefEqProofs only [dn_ret, dn_goto, iexec, evI_0, evI_succ, evI_int, evI_bool, evI_nilsl, evI_nilp, List.cons_append, List.nil_append, scal2_sc, abin, aun, ilift_some, Option.map_some, Option.map_none, decide_eq_true_eq, List.map_cons, List.map_nil, reduceIte, if_true, if_false, Bool.false_eq_true, inew, iload, istore, iwr, ird, icells, ione, one, List.getElem?_toArray, List.getElem?_cons_zero, List.getElem?_cons_succ, List.push_toArray, List.size_toArray, List.length_cons, List.length_nil, List.setIfInBounds_toArray, List.set_cons_zero, List.set_cons_succ, isplice_cons, List.drop_succ_cons, List.drop_zero, List.take_succ_cons, List.take_zero, List.drop_nil, List.take_nil, List.append_nil, List.all_cons, List.all_nil, Bool.and_true, Bool.true_and, Bool.and_self, Nat.zero_add, Nat.add_zero, Nat.reduceAdd, Nat.reduceLeDiff, Nat.reduceMul, Nat.le_refl, true_and, and_true, and_self, List.getElem?_nil, BI_zc, BI_zv, BI_co, zcT, zvT, coT, not_true_eq_false, not_false_eq_true, Bool.not_true, Bool.not_false, stepI', wantsI, ifill, ievs, Nat.reduceEqDiff, itup, Nat.le_add_left, Nat.le_add_right, iaggEq, List.foldl, iminI, iminF, imin2, min2, iisNil, isNil, ilen, Option.isNone_none, Option.isNone_some, Nat.zero_le, decide_true, decide_false, ireps, List.replicate, List.flatten_cons, List.flatten_nil, ichk, itouch, ctouch, ilooks, isame, untouched, Option.isSome_some, Bool.or_true, Bool.true_or, List.contains_nil, Int.reduceLT, Int.reduceLE, blkOf, IntKind.bits, iasNat, asNat, Int.toNat_natCast, Int.natCast_nonneg, List.length_map, Int.reduceToNat, iscells, ibnd, islice, capOf, Option.isSome_none, Bool.false_and, Bool.and_false, Bool.or_false, Bool.false_or, bne_self_eq_false, Nat.not_lt_zero, Nat.mul_one, Nat.one_mul, Nat.zero_mul, Nat.mul_zero, beq_self_eq_true, Nat.sub_zero, Nat.reduceSub, List.length_set, false_implies, implies_true, forall_const, ↓dnW_oca, Nat.reduceLT, evI_fn, Nat.zero_lt_one, dnW_o, dnW_om, dnW_oc, dnW_ite, dnW_join, thenD_some, thenD_ite, onIfD_bool, onJoinD_out, onJoinD_ret, onJoinD_ite, Int.reduceEq, WP_some, WP_ite, byOut_goto, byOut_ret, ↓iexec_len, ↓iexec_iaddr, ↓iexec_append, ↓iexec_store, storeF_ptr, lenF_nil, lenF_lst, lenF_sl, lenF_str, iaddrF_sl, iaddrF_lst, hb2]
    refine hK _ _ ⟨r', by simp [lt_get hb2], ?_, ?_, ?_, hlow, hr2⟩
    · rw [Array.getElem?_setIfInBounds, if_neg hbc]; exact hc2
    · refine (hg.fr hf2 fun d hd hm => ?_).fr (Fr.set _ _ (S := [b]) (by simp)) fun d hd hm => ?_
      · rw [List.mem_singleton] at hm; have := hlow d hd; omega
      · rw [List.mem_singleton] at hm; have := hlow d hd; omega
    · exact (hfr.trans hf2 (fun d _ h => by simp at h; simp [h])).trans (Fr.set _ _ (S := [b]) (by simp)) (fun d _ h => by simp at h; simp [h])
  · have h : i < Y.length := by omega
    have hy := hzi h hz
    rw [hy] at hg2 hJ2
    refine g1 _ (m - 1) _ (by omega) ⟨i + 1, out', by omega, rfl, hJb2, ?_, ?_, hfr.trans hfr2 (fun d hd hm => ?_), fun d hd => ?_⟩
    · have : (decY (Y.take i) ++ Y.drop i).set i (Y[i].1, Y[i].2 - 1) = decY (Y.take (i + 1)) ++ Y.drop (i + 1) := by
        rw [List.set_append_right _ _ (by simp [decY, Nat.min_le_left]), List.take_succ_eq_append_getElem h]
        simp only [decY, List.length_map, List.length_take, Nat.min_eq_left (Nat.le_of_lt h), Nat.sub_self, List.map_append, List.map_cons, List.map_nil, List.append_assoc, List.singleton_append]
        rw [List.drop_eq_getElem_cons h, List.set_cons_zero]
      rw [← this]
      exact hJ2
    · rw [nowY_succ h]; exact hg2
    · rcases List.mem_cons.1 hm with rfl | hm
      · simp
      · have := hlow d hm; omega
    · rcases hb2 d hd with h | h
      · exact hlow d h
      · exact Nat.le_trans hfr.1 h
end Go.Proofs.Ytohclaopcejjnaa.G
namespace Go.Proofs.Ytohclaopcejjnaa.G
open Go
set_option linter.unusedSimpArgs false
set_option linter.unusedVariables false
def YE : List (IV × Int) → List (List Int × Int) → Prop
  | [], [] => True
  | y :: Y, e :: E => Bs y.1 e.1 ∧ y.2 = e.2 ∧ YE Y E
  | _, _ => False
def BsA : List IV → List (List Int) → Prop
  | [], [] => True
  | x :: X, p :: P => Bs x p ∧ BsA X P
  | _, _ => False
theorem BsA.len : ∀ {X P}, BsA X P → X.length = P.length
  | [], [], _ => rfl
  | _ :: _, _ :: _, h => by simp [BsA.len h.2]
  | [], _ :: _, h => h.elim
  | _ :: _, [], h => h.elim
theorem BsA.at : ∀ {X P}, BsA X P → ∀ i (h : i < X.length) (h' : i < P.length), Bs X[i] P[i]
  | x :: X, p :: P, h, 0, _, _ => h.1
  | x :: X, p :: P, h, i + 1, h1, h2 => BsA.at h.2 i (by simpa using h1) (by simpa using h2)
  | [], _ :: _, h, _, _, _ => h.elim
  | _ :: _, [], h, _, _, _ => h.elim
  | [], [], _, _, h, _ => by simp at h
theorem BsA.pure : ∀ {X P}, BsA X P → ipureL X = true
  | [], [], _ => rfl
  | x :: X, p :: P, h => by simp [ipureL, h.1.pure, BsA.pure h.2]
  | [], _ :: _, h => h.elim
  | _ :: _, [], h => h.elim
theorem BsA.one : ∀ {X P}, BsA X P → X.all ione = true
  | [], [], _ => rfl
  | x :: X, p :: P, h => by rw [List.all_cons, h.1.one, BsA.one h.2]; rfl
  | [], _ :: _, h => h.elim
  | _ :: _, [], h => h.elim
theorem BsA.lsr {x : IV} {X P} (h : BsA X P) (hx : Ls 1 x X) : LsR 1 Bs x P := ⟨X, hx, h.len, h.at⟩
theorem EntR.ye : ∀ {cs E}, EntR cs E → ∃ Y, cs = (encY Y).flatten ∧ YE Y E
  | [], [], _ => ⟨[], rfl, trivial⟩
  | [], _ :: _, h => h.elim
  | [_], [], h => h.elim
  | [_], _ :: _, h => h.elim
  | _ :: _ :: _, [], h => h.elim
  | c :: n :: cs, e :: E, h => by
    obtain ⟨Y, hY, hE⟩ := EntR.ye h.2.2
    refine ⟨(c, e.2) :: Y, ?_, h.1, rfl, hE⟩
    rw [h.2.1, hY]
    rfl
theorem YE.ent : ∀ {Y E}, YE Y E → EntR (encY Y).flatten E
  | [], [], _ => trivial
  | y :: Y, e :: E, h => ⟨h.1, by rw [h.2.1], YE.ent h.2.2⟩
  | [], _ :: _, h => h.elim
  | _ :: _, [], h => h.elim
theorem YE.len : ∀ {Y E}, YE Y E → Y.length = E.length
  | [], [], _ => rfl
  | _ :: _, _ :: _, h => by simp [YE.len h.2.2]
  | [], _ :: _, h => h.elim
  | _ :: _, [], h => h.elim
theorem YE.mem : ∀ {Y E}, YE Y E → ∀ y ∈ Y, ∃ e ∈ E, Bs y.1 e.1 ∧ y.2 = e.2
  | [], [], _, y, hy => by simp at hy
  | y :: Y, e :: E, h, z, hz => by
    rcases List.mem_cons.1 hz with rfl | hz
    · exact ⟨e, by simp, h.1, h.2.1⟩
    · obtain ⟨f, hf, h2⟩ := YE.mem h.2.2 z hz
      exact ⟨f, by simp [hf], h2⟩
  | [], _ :: _, h, _, _ => h.elim
  | _ :: _, [], h, _, _ => h.elim
def takeE (E : List (List Int × Int)) : List (List Int × Int) := (E.map fun e => (e.1, e.2 - 1)).filter fun e => decide (¬ e.2 < 0)
def nowE (E : List (List Int × Int)) : List (List Int) := (E.filter fun e => decide (e.2 = 0)).map (·.1)
theorem YE.take : ∀ {Y E}, YE Y E → YE (keepY (decY Y)) (takeE E)
  | [], [], _ => trivial
  | y :: Y, e :: E, h => by
    have ih := YE.take h.2.2
    obtain ⟨h1, h2, _⟩ := h
    unfold keepY decY takeE at *
    rw [List.map_cons, List.map_cons, List.filter_cons, List.filter_cons]
    simp only [h2]
    split
    · exact ⟨h1, rfl, ih⟩
    · exact ih
  | [], _ :: _, h => h.elim
  | _ :: _, [], h => h.elim
theorem YE.now : ∀ {Y E}, YE Y E → BsA (nowY Y) (nowE E)
  | [], [], _ => trivial
  | y :: Y, e :: E, h => by
    have ih := YE.now h.2.2
    obtain ⟨h1, h2, _⟩ := h
    unfold nowY nowE at *
    rw [List.filter_cons, List.filter_cons]
    simp only [h2]
    split
    · exact ⟨h1, ih⟩
    · exact ih
  | [], _ :: _, h => h.elim
  | _ :: _, [], h => h.elim
theorem Take_ok (b : Nat) (s : IV) (E : List (List Int × Int)) (J : JH) (hW : WireAt J b s E) (hE : ∀ e ∈ E, 0 ≤ e.2 ∧ e.2 ≤ 1000) (hl : E.length ≤ 100000) :
    RP (ic BI F_wire_Wire_Take [.ptr b 0 0] J) fun out J' => ∃ s' xs, WireAt J' b s' (takeE E) ∧ Grow J' out 1 xs ∧ BsA xs (nowE E) ∧ Upd b J s J' s' ∧ (∀ c ∈ blk s', c ∈ blk s) ∧ ∀ d ∈ blk out, J.size ≤ d := by
  obtain ⟨hb, hbs, cs, hg, he⟩ := hW
  obtain ⟨Y, rfl, hYE⟩ := he.ye
  have hlen := hYE.len
  have hS := hg.slx (encY_2 Y) (by omega)
  rcases hS.2 with ⟨rfl, h0⟩ | ⟨c, v, rest, rfl, hc, hrest⟩
  · have hY0 : Y = [] := by simpa [encY] using h0
    subst hY0
    have hE0 : E = [] := List.eq_nil_of_length_eq_zero hlen.symm
    subst hE0
    refine RP_run fn_wire_Wire_Take rfl fun K hK => ?_
    have hl : iter (dn BI l_wire_Wire_Take_k1) 1 [.ptr b 0 0, .sc (.slice none 0 0), .int .i64 ((0 : Nat) : Int), .int .i64 0] J = some (.goto 0 [.ptr b 0 0, .sc (.slice none 0 0)], J) := by
      refine iter_out ?_ (by decide)
      unfold l_wire_Wire_Take_k1
      simp -implicitDefEqProofs only [dn_o, dn_om, dn_oc, dn_ite, dn_ret, dn_join, dn_goto, iexec, evI_0, evI_succ, evI_int, evI_bool, evI_nilsl, evI_nilp, List.cons_append, List.nil_append, scal2_sc, abin, aun, ilift_some, thenI_some, onIf_bool, onJoin_goto, onJoin_ret, onJoin_ite, thenI_ite, Option.map_some, Option.map_none, decide_eq_true_eq, List.map_cons, List.map_nil, reduceIte, if_true, if_false, Bool.false_eq_true, inew, iload, istore, iwr, ird, icells, ione, one, List.getElem?_toArray, List.getElem?_cons_zero, List.getElem?_cons_succ, List.push_toArray, List.size_toArray, List.length_cons, List.length_nil, List.setIfInBounds_toArray, List.set_cons_zero, List.set_cons_succ, isplice_cons, List.drop_succ_cons, List.drop_zero, List.take_succ_cons, List.take_zero, List.drop_nil, List.take_nil, List.append_nil, List.all_cons, List.all_nil, Bool.and_true, Bool.true_and, Bool.and_self, Nat.zero_add, Nat.add_zero, Nat.reduceAdd, Nat.reduceLeDiff, Nat.reduceMul, Nat.le_refl, true_and, and_true, and_self, List.getElem?_nil, BI_zc, BI_zv, BI_co, zcT, zvT, coT, not_true_eq_false, not_false_eq_true, Bool.not_true, Bool.not_false, stepI', wantsI, ifill, ievs, Nat.reduceEqDiff, itup, Nat.le_add_left, Nat.le_add_right, iaggEq, List.foldl, iminI, iminF, imin2, min2, iisNil, isNil, ilen, Option.isNone_none, Option.isNone_some, Nat.zero_le, decide_true, decide_false, ireps, List.replicate, List.flatten_cons, List.flatten_nil, ichk, itouch, ctouch, ilooks, isame, untouched, Option.isSome_some, Bool.or_true, Bool.true_or, List.contains_nil, Int.reduceLT, Int.reduceLE, blkOf, IntKind.bits, iasNat, asNat, Int.toNat_natCast, Int.natCast_nonneg, List.length_map, endP_ret, endP_ite, Int.reduceToNat, iscells, ibnd, islice, capOf, Option.isSome_none, Bool.false_and, Bool.and_false, Bool.or_false, Bool.false_or, bne_self_eq_false, Nat.not_lt_zero, Nat.mul_one, Nat.one_mul, Nat.zero_mul, Nat.mul_zero, onJoin_out, beq_self_eq_true, Nat.sub_zero, Nat.reduceSub, List.length_set, false_implies, implies_true, forall_const, Int.natCast_zero, Int.lt_irrefl]
    rw [Int.natCast_zero] at hl
    unfold l_wire_Wire_Take l_wire_Wire_Take_k2
    simp -implicitDefEqProofs only [dn_ret, dn_goto, iexec, evI_0, evI_succ, evI_int, evI_bool, evI_nilsl, evI_nilp, List.cons_append, List.nil_append, scal2_sc, abin, aun, ilift_some, Option.map_some, Option.map_none, decide_eq_true_eq, List.map_cons, List.map_nil, reduceIte, if_true, if_false, Bool.false_eq_true, inew, iload, istore, iwr, ird, icells, ione, one, List.getElem?_toArray, List.getElem?_cons_zero, List.getElem?_cons_succ, List.push_toArray, List.size_toArray, List.length_cons, List.length_nil, List.setIfInBounds_toArray, List.set_cons_zero, List.set_cons_succ, isplice_cons, List.drop_succ_cons, List.drop_zero, List.take_succ_cons, List.take_zero, List.drop_nil, List.take_nil, List.append_nil, List.all_cons, List.all_nil, Bool.and_true, Bool.true_and, Bool.and_self, Nat.zero_add, Nat.add_zero, Nat.reduceAdd, Nat.reduceLeDiff, Nat.reduceMul, Nat.le_refl, true_and, and_true, and_self, List.getElem?_nil, BI_zc, BI_zv, BI_co, zcT, zvT, coT, not_true_eq_false, not_false_eq_true, Bool.not_true, Bool.not_false, stepI', wantsI, ifill, ievs, Nat.reduceEqDiff, itup, Nat.le_add_left, Nat.le_add_right, iaggEq, List.foldl, iminI, iminF, imin2, min2, iisNil, isNil, ilen, Option.isNone_none, Option.isNone_some, Nat.zero_le, decide_true, decide_false, ireps, List.replicate, List.flatten_cons, List.flatten_nil, ichk, itouch, ctouch, ilooks, isame, untouched, Option.isSome_some, Bool.or_true, Bool.true_or, List.contains_nil, Int.reduceLT, Int.reduceLE, blkOf, IntKind.bits, iasNat, asNat, Int.toNat_natCast, Int.natCast_nonneg, List.length_map, Int.reduceToNat, iscells, ibnd, islice, capOf, Option.isSome_none, Bool.false_and, Bool.and_false, Bool.or_false, Bool.false_or, bne_self_eq_false, Nat.not_lt_zero, Nat.mul_one, Nat.one_mul, Nat.zero_mul, Nat.mul_zero, beq_self_eq_true, Nat.sub_zero, Nat.reduceSub, List.length_set, false_implies, implies_true, forall_const, ↓dnW_oca, Nat.reduceLT, evI_fn, Nat.zero_lt_one, dnW_o, dnW_om, dnW_oc, dnW_ite, dnW_join, thenD_some, thenD_ite, onIfD_bool, onJoinD_out, onJoinD_ret, onJoinD_ite, Int.reduceEq, WP_some, WP_ite, byOut_goto, byOut_ret, ↓iexec_len, ↓iexec_iaddr, ↓iexec_append, ↓iexec_store, storeF_ptr, lenF_nil, lenF_lst, lenF_sl, lenF_str, iaddrF_sl, iaddrF_lst, hb, dn_loop, hl, dcr (delete_nil J)]
    refine hK _ _ ?_
    exact ⟨_, [], ⟨by simp [lt_get hb], by simp [blk, blkOf], [], .nil, trivial⟩, .nil, trivial, ⟨Fr.set _ _ (by simp), fun d hd => .inl hd⟩, fun d hd => hd, by simp [blk, blkOf, itup]⟩
  · rw [encY_len] at hb hbs ⊢
    have hbc : b ≠ c := fun h => hbs (by simp [blk, blkOf, h])
    refine RP_mono (take_sl b c v Y (fun y hy => ?_) (fun y hy => ?_) (fun y hy => ?_) rest hrest (by omega) J hb hc hbc) fun out J' h => ?_
    · obtain ⟨e, _, h1, _⟩ := hYE.mem y hy; exact ⟨h1.one, h1.pure⟩
    · obtain ⟨e, h1, _, h2⟩ := hYE.mem y hy; rw [h2]; exact hE e h1
    · obtain ⟨e, _, h1, _⟩ := hYE.mem y hy; exact h1.icells
    · obtain ⟨r', q1, q2, q3, q4, q5, q6⟩ := h
      have hsl : SlX J' (.sl c v 0 (keepY (decY Y)).length (UNK + 2) 2) 2 (encY (keepY (decY Y))) := ⟨encY_2 _, .inr ⟨c, v, r', by rw [encY_len], q2, q6⟩⟩
      exact ⟨_, _, ⟨q1, by simpa [blk, blkOf] using hbc, _, hsl.grow, hYE.take.ent⟩, q3, hYE.now, ⟨q4, fun d hd => .inl hd⟩, fun d hd => hd, q5⟩
theorem Waiting_ok (b : Nat) (s : IV) (E : List (List Int × Int)) (J : JH) (hW : WireAt J b s E) : ic BI F_wire_Wire_Waiting [.ptr b 0 0] J = some (.int .i64 (E.length : Nat), J) := by
  obtain ⟨hb, hbs, cs, hg, he⟩ := hW
  obtain ⟨v, J', hv, rfl, rfl⟩ := RP_of (P := fun v J' => v = .int .i64 (E.length : Nat) ∧ J' = J) (RP_run (J := J) (args := [.ptr b 0 0]) fn_wire_Wire_Waiting rfl fun K hK => by
    have hl : ∀ J', lenF false s J' = some (.int .i64 (E.length : Nat), J') := fun J' => hg.lenF he.length (by omega)
    unfold l_wire_Wire_Waiting
    simp -implicitDefEqProofs only [dn_ret, dn_goto, iexec, evI_0, evI_succ, evI_int, evI_bool, evI_nilsl, evI_nilp, List.cons_append, List.nil_append, scal2_sc, abin, aun, ilift_some, Option.map_some, Option.map_none, decide_eq_true_eq, List.map_cons, List.map_nil, reduceIte, if_true, if_false, Bool.false_eq_true, inew, iload, istore, iwr, ird, icells, ione, one, List.getElem?_toArray, List.getElem?_cons_zero, List.getElem?_cons_succ, List.push_toArray, List.size_toArray, List.length_cons, List.length_nil, List.setIfInBounds_toArray, List.set_cons_zero, List.set_cons_succ, isplice_cons, List.drop_succ_cons, List.drop_zero, List.take_succ_cons, List.take_zero, List.drop_nil, List.take_nil, List.append_nil, List.all_cons, List.all_nil, Bool.and_true, Bool.true_and, Bool.and_self, Nat.zero_add, Nat.add_zero, Nat.reduceAdd, Nat.reduceLeDiff, Nat.reduceMul, Nat.le_refl, true_and, and_true, and_self, List.getElem?_nil, BI_zc, BI_zv, BI_co, zcT, zvT, coT, not_true_eq_false, not_false_eq_true, Bool.not_true, Bool.not_false, stepI', wantsI, ifill, ievs, Nat.reduceEqDiff, itup, Nat.le_add_left, Nat.le_add_right, iaggEq, List.foldl, iminI, iminF, imin2, min2, iisNil, isNil, ilen, Option.isNone_none, Option.isNone_some, Nat.zero_le, decide_true, decide_false, ireps, List.replicate, List.flatten_cons, List.flatten_nil, ichk, itouch, ctouch, ilooks, isame, untouched, Option.isSome_some, Bool.or_true, Bool.true_or, List.contains_nil, Int.reduceLT, Int.reduceLE, blkOf, IntKind.bits, iasNat, asNat, Int.toNat_natCast, Int.natCast_nonneg, List.length_map, Int.reduceToNat, iscells, ibnd, islice, capOf, Option.isSome_none, Bool.false_and, Bool.and_false, Bool.or_false, Bool.false_or, bne_self_eq_false, Nat.not_lt_zero, Nat.mul_one, Nat.one_mul, Nat.zero_mul, Nat.mul_zero, beq_self_eq_true, Nat.sub_zero, Nat.reduceSub, List.length_set, false_implies, implies_true, forall_const, ↓dnW_oca, Nat.reduceLT, evI_fn, Nat.zero_lt_one, dnW_o, dnW_om, dnW_oc, dnW_ite, dnW_join, thenD_some, thenD_ite, onIfD_bool, onJoinD_out, onJoinD_ret, onJoinD_ite, Int.reduceEq, WP_some, WP_ite, byOut_goto, byOut_ret, ↓iexec_len, ↓iexec_iaddr, ↓iexec_append, ↓iexec_store, storeF_ptr, lenF_nil, lenF_lst, lenF_sl, lenF_str, iaddrF_sl, iaddrF_lst, hb, hl]
    exact hK _ _ ⟨rfl, rfl⟩)
  exact hv
end Go.Proofs.Ytohclaopcejjnaa.G
namespace Go.Proofs.Ytohclaopcejjnaa.G
open Go
set_option linter.unusedSimpArgs false
set_option linter.unusedVariables false
theorem Grow.sl {J : JH} {x : IV} {cs : List IV} (h : Grow J x 1 cs) (hne : cs ≠ []) : ∃ c v full, x = .sl c v 0 cs.length (UNK + 1) 1 ∧ J[c]? = some (.cells v full false) ∧ full.take cs.length = cs ∧ cs.length ≤ full.length := by
  rcases h with ⟨rfl, h⟩ | ⟨b, v, n, full, rfl, h1, h2, h3, _⟩
  · exact absurd h hne
  · have : n = cs.length := by rw [← h3, List.length_take]; omega
    subst this
    exact ⟨b, v, full, rfl, h1, by rw [← h3]; simp, by omega⟩
theorem wire0 {J : JH} : WireAt (J.push (.cells 0 [.sc (.slice none 0 0)] false)) J.size (.sc (.slice none 0 0)) [] := ⟨by simp, by simp [blk, blkOf], [], .nil, trivial⟩
theorem BsA.one_of {X : List IV} {p : List Int} (h : BsA X [p]) : ∃ x, X = [x] ∧ Bs x p := by
  match X, h with
  | [x], h => exact ⟨x, rfl, h.1⟩
  | x :: y :: X, h => exact h.2.elim
theorem awake18 : pc BI F_law18_awake [] = some (.bool true) := by
  refine pcE fn_law18_awake rfl fun K hK => ?_
  have hf3 : FR (.agg [.int .u8 3, .int .u16 0, .int .u32 0]) ⟨3, 0, 0⟩ := ⟨rfl, by decide, by decide, by decide, by decide⟩
  unfold l_law18_awake
  simp -implicitDefEqProofs only [dn_ret, dn_goto, iexec, evI_0, evI_succ, evI_int, evI_bool, evI_nilsl, evI_nilp, List.cons_append, List.nil_append, scal2_sc, abin, aun, ilift_some, Option.map_some, Option.map_none, decide_eq_true_eq, List.map_cons, List.map_nil, reduceIte, if_true, if_false, Bool.false_eq_true, inew, iload, istore, iwr, ird, icells, ione, one, List.getElem?_toArray, List.getElem?_cons_zero, List.getElem?_cons_succ, List.push_toArray, List.size_toArray, List.length_cons, List.length_nil, List.setIfInBounds_toArray, List.set_cons_zero, List.set_cons_succ, isplice_cons, List.drop_succ_cons, List.drop_zero, List.take_succ_cons, List.take_zero, List.drop_nil, List.take_nil, List.append_nil, List.all_cons, List.all_nil, Bool.and_true, Bool.true_and, Bool.and_self, Nat.zero_add, Nat.add_zero, Nat.reduceAdd, Nat.reduceLeDiff, Nat.reduceMul, Nat.le_refl, true_and, and_true, and_self, List.getElem?_nil, BI_zc, BI_zv, BI_co, zcT, zvT, coT, not_true_eq_false, not_false_eq_true, Bool.not_true, Bool.not_false, stepI', wantsI, ifill, ievs, Nat.reduceEqDiff, itup, Nat.le_add_left, Nat.le_add_right, iaggEq, List.foldl, iminI, iminF, imin2, min2, iisNil, isNil, ilen, Option.isNone_none, Option.isNone_some, Nat.zero_le, decide_true, decide_false, ireps, List.replicate, List.flatten_cons, List.flatten_nil, ichk, itouch, ctouch, ilooks, isame, untouched, Option.isSome_some, Bool.or_true, Bool.true_or, List.contains_nil, Int.reduceLT, Int.reduceLE, blkOf, IntKind.bits, iasNat, asNat, Int.toNat_natCast, Int.natCast_nonneg, List.length_map, Int.reduceToNat, iscells, ibnd, islice, capOf, Option.isSome_none, Bool.false_and, Bool.and_false, Bool.or_false, Bool.false_or, bne_self_eq_false, Nat.not_lt_zero, Nat.mul_one, Nat.one_mul, Nat.zero_mul, Nat.mul_zero, beq_self_eq_true, Nat.sub_zero, Nat.reduceSub, List.length_set, false_implies, implies_true, forall_const, ↓dnW_oca, Nat.reduceLT, evI_fn, Nat.zero_lt_one, dnW_o, dnW_om, dnW_oc, dnW_ite, dnW_join, thenD_some, thenD_ite, onIfD_bool, onJoinD_out, onJoinD_ret, onJoinD_ite, Int.reduceEq, WP_some, WP_ite, byOut_goto, byOut_ret, ↓iexec_len, ↓iexec_iaddr, ↓iexec_append, ↓iexec_store, storeF_ptr, lenF_nil, lenF_lst, lenF_sl, lenF_str, iaddrF_sl, iaddrF_lst, ipureL, ipure, grp, mkE, List.headD, one_lt_UNK, lt_UNK (show 2 ≤ 1000000 by omega)]
  have b1 : Bs (.lst 1 true [.int .u8 1]) [1] := .lst
  have b2 : Bs (.lst 1 true [.int .u8 2]) [2] := .lst
  have hfr : LsR 1 Bs (.lst 1 true [.lst 1 true [.int .u8 1], .lst 1 true [.int .u8 2]]) [[1], [2]] := BsA.lsr (X := [.lst 1 true [.int .u8 1], .lst 1 true [.int .u8 2]]) ⟨b1, b2, trivial⟩ .lst
  have hfa : LsR 3 FR (.lst 3 true [.agg [.int .u8 3, .int .u16 0, .int .u32 0]]) [⟨3, 0, 0⟩] := ⟨_, .lst, rfl, fun i h h' => by
    have : i = 0 := by simp at h; omega
    subst this
    exact hf3⟩
  have hp := Put_ok 0 _ _ _ _ _ _ [IB.cells 0 [.sc (.slice none 0 0)] false].toArray (wire0 (J := #[])) hfr hfa (by simp) (by simp) (by simp)
  refine WP_call hp fun v J1 h => ?_
  obtain ⟨s1, w1, _⟩ := h
  have e1 : [] ++ putF [⟨3, 0, 0⟩] 0 [[1], [2]] = [([1], 1), ([2], 0)] := by decide
  rw [e1] at w1
  simp -implicitDefEqProofs only [dn_ret, dn_goto, iexec, evI_0, evI_succ, evI_int, evI_bool, evI_nilsl, evI_nilp, List.cons_append, List.nil_append, scal2_sc, abin, aun, ilift_some, Option.map_some, Option.map_none, decide_eq_true_eq, List.map_cons, List.map_nil, reduceIte, if_true, if_false, Bool.false_eq_true, inew, iload, istore, iwr, ird, icells, ione, one, List.getElem?_toArray, List.getElem?_cons_zero, List.getElem?_cons_succ, List.push_toArray, List.size_toArray, List.length_cons, List.length_nil, List.setIfInBounds_toArray, List.set_cons_zero, List.set_cons_succ, isplice_cons, List.drop_succ_cons, List.drop_zero, List.take_succ_cons, List.take_zero, List.drop_nil, List.take_nil, List.append_nil, List.all_cons, List.all_nil, Bool.and_true, Bool.true_and, Bool.and_self, Nat.zero_add, Nat.add_zero, Nat.reduceAdd, Nat.reduceLeDiff, Nat.reduceMul, Nat.le_refl, true_and, and_true, and_self, List.getElem?_nil, BI_zc, BI_zv, BI_co, zcT, zvT, coT, not_true_eq_false, not_false_eq_true, Bool.not_true, Bool.not_false, stepI', wantsI, ifill, ievs, Nat.reduceEqDiff, itup, Nat.le_add_left, Nat.le_add_right, iaggEq, List.foldl, iminI, iminF, imin2, min2, iisNil, isNil, ilen, Option.isNone_none, Option.isNone_some, Nat.zero_le, decide_true, decide_false, ireps, List.replicate, List.flatten_cons, List.flatten_nil, ichk, itouch, ctouch, ilooks, isame, untouched, Option.isSome_some, Bool.or_true, Bool.true_or, List.contains_nil, Int.reduceLT, Int.reduceLE, blkOf, IntKind.bits, iasNat, asNat, Int.toNat_natCast, Int.natCast_nonneg, List.length_map, Int.reduceToNat, iscells, ibnd, islice, capOf, Option.isSome_none, Bool.false_and, Bool.and_false, Bool.or_false, Bool.false_or, bne_self_eq_false, Nat.not_lt_zero, Nat.mul_one, Nat.one_mul, Nat.zero_mul, Nat.mul_zero, beq_self_eq_true, Nat.sub_zero, Nat.reduceSub, List.length_set, false_implies, implies_true, forall_const, ↓dnW_oca, Nat.reduceLT, evI_fn, Nat.zero_lt_one, dnW_o, dnW_om, dnW_oc, dnW_ite, dnW_join, thenD_some, thenD_ite, onIfD_bool, onJoinD_out, onJoinD_ret, onJoinD_ite, Int.reduceEq, WP_some, WP_ite, byOut_goto, byOut_ret, ↓iexec_len, ↓iexec_iaddr, ↓iexec_append, ↓iexec_store, storeF_ptr, lenF_nil, lenF_lst, lenF_sl, lenF_str, iaddrF_sl, iaddrF_lst]
  refine WP_call (Take_ok 0 s1 _ J1 w1 (by simp) (by simp)) fun a J2 h => ?_
  obtain ⟨s2, xs, w2, ga, ba, u2, sub, la⟩ := h
  have e2 : takeE [([1], 1), ([2], 0)] = [([1], 0)] := by decide
  have e3 : nowE [([1], 1), ([2], 0)] = [[2]] := by decide
  rw [e2] at w2
  rw [e3] at ba
  obtain ⟨x, rfl, hx⟩ := ba.one_of
  simp -implicitDefEqProofs only [dn_ret, dn_goto, iexec, evI_0, evI_succ, evI_int, evI_bool, evI_nilsl, evI_nilp, List.cons_append, List.nil_append, scal2_sc, abin, aun, ilift_some, Option.map_some, Option.map_none, decide_eq_true_eq, List.map_cons, List.map_nil, reduceIte, if_true, if_false, Bool.false_eq_true, inew, iload, istore, iwr, ird, icells, ione, one, List.getElem?_toArray, List.getElem?_cons_zero, List.getElem?_cons_succ, List.push_toArray, List.size_toArray, List.length_cons, List.length_nil, List.setIfInBounds_toArray, List.set_cons_zero, List.set_cons_succ, isplice_cons, List.drop_succ_cons, List.drop_zero, List.take_succ_cons, List.take_zero, List.drop_nil, List.take_nil, List.append_nil, List.all_cons, List.all_nil, Bool.and_true, Bool.true_and, Bool.and_self, Nat.zero_add, Nat.add_zero, Nat.reduceAdd, Nat.reduceLeDiff, Nat.reduceMul, Nat.le_refl, true_and, and_true, and_self, List.getElem?_nil, BI_zc, BI_zv, BI_co, zcT, zvT, coT, not_true_eq_false, not_false_eq_true, Bool.not_true, Bool.not_false, stepI', wantsI, ifill, ievs, Nat.reduceEqDiff, itup, Nat.le_add_left, Nat.le_add_right, iaggEq, List.foldl, iminI, iminF, imin2, min2, iisNil, isNil, ilen, Option.isNone_none, Option.isNone_some, Nat.zero_le, decide_true, decide_false, ireps, List.replicate, List.flatten_cons, List.flatten_nil, ichk, itouch, ctouch, ilooks, isame, untouched, Option.isSome_some, Bool.or_true, Bool.true_or, List.contains_nil, Int.reduceLT, Int.reduceLE, blkOf, IntKind.bits, iasNat, asNat, Int.toNat_natCast, Int.natCast_nonneg, List.length_map, Int.reduceToNat, iscells, ibnd, islice, capOf, Option.isSome_none, Bool.false_and, Bool.and_false, Bool.or_false, Bool.false_or, bne_self_eq_false, Nat.not_lt_zero, Nat.mul_one, Nat.one_mul, Nat.zero_mul, Nat.mul_zero, beq_self_eq_true, Nat.sub_zero, Nat.reduceSub, List.length_set, false_implies, implies_true, forall_const, ↓dnW_oca, Nat.reduceLT, evI_fn, Nat.zero_lt_one, dnW_o, dnW_om, dnW_oc, dnW_ite, dnW_join, thenD_some, thenD_ite, onIfD_bool, onJoinD_out, onJoinD_ret, onJoinD_ite, Int.reduceEq, WP_some, WP_ite, byOut_goto, byOut_ret, ↓iexec_len, ↓iexec_iaddr, ↓iexec_append, ↓iexec_store, storeF_ptr, lenF_nil, lenF_lst, lenF_sl, lenF_str, iaddrF_sl, iaddrF_lst]
  refine WP_call (Take_ok 0 s2 _ J2 w2 (by simp) (by simp)) fun b J3 h => ?_
  obtain ⟨s3, ys, w3, gb, bb, u3, _, lb⟩ := h
  have e4 : takeE [([1], 0)] = [] := by decide
  have e5 : nowE [([1], 0)] = [[1]] := by decide
  rw [e4] at w3
  rw [e5] at bb
  obtain ⟨y, rfl, hy⟩ := bb.one_of
  have ga3 : Grow J3 a 1 [x] := ga.fr u3.1 fun d hd hm => by
    have h1 := la _ hd
    rcases List.mem_cons.1 hm with rfl | hm
    · have := lt_get w1.1; omega
    · obtain ⟨_, _, cs, hg, _⟩ := w1
      have := hg.low d (sub d hm)
      omega
  obtain ⟨c, v, full, rfl, hc, ht, hlen⟩ := ga3.sl (by simp)
  obtain ⟨c', v', full', rfl, hc', ht', hlen'⟩ := gb.sl (by simp)
  have wt := Waiting_ok 0 s3 [] J3 w3
  have hx0 : ∀ J, iaddrF 1 x (.int .i64 0) J = some (.rptr (.int .u8 2) 0, J) := fun J => hx.at (i := 0) (by simp)
  have hy0 : ∀ J, iaddrF 1 y (.int .i64 0) J = some (.rptr (.int .u8 1) 0, J) := fun J => hy.at (i := 0) (by simp)
  simp only [List.length_singleton] at ht ht' hlen hlen'
  simp -implicitDefEqProofs only [dn_ret, dn_goto, iexec, evI_0, evI_succ, evI_int, evI_bool, evI_nilsl, evI_nilp, List.cons_append, List.nil_append, scal2_sc, abin, aun, ilift_some, Option.map_some, Option.map_none, decide_eq_true_eq, List.map_cons, List.map_nil, reduceIte, if_true, if_false, Bool.false_eq_true, inew, iload, istore, iwr, ird, icells, ione, one, List.getElem?_toArray, List.getElem?_cons_zero, List.getElem?_cons_succ, List.push_toArray, List.size_toArray, List.length_cons, List.length_nil, List.setIfInBounds_toArray, List.set_cons_zero, List.set_cons_succ, isplice_cons, List.drop_succ_cons, List.drop_zero, List.take_succ_cons, List.take_zero, List.drop_nil, List.take_nil, List.append_nil, List.all_cons, List.all_nil, Bool.and_true, Bool.true_and, Bool.and_self, Nat.zero_add, Nat.add_zero, Nat.reduceAdd, Nat.reduceLeDiff, Nat.reduceMul, Nat.le_refl, true_and, and_true, and_self, List.getElem?_nil, BI_zc, BI_zv, BI_co, zcT, zvT, coT, not_true_eq_false, not_false_eq_true, Bool.not_true, Bool.not_false, stepI', wantsI, ifill, ievs, Nat.reduceEqDiff, itup, Nat.le_add_left, Nat.le_add_right, iaggEq, List.foldl, iminI, iminF, imin2, min2, iisNil, isNil, ilen, Option.isNone_none, Option.isNone_some, Nat.zero_le, decide_true, decide_false, ireps, List.replicate, List.flatten_cons, List.flatten_nil, ichk, itouch, ctouch, ilooks, isame, untouched, Option.isSome_some, Bool.or_true, Bool.true_or, List.contains_nil, Int.reduceLT, Int.reduceLE, blkOf, IntKind.bits, iasNat, asNat, Int.toNat_natCast, Int.natCast_nonneg, List.length_map, Int.reduceToNat, iscells, ibnd, islice, capOf, Option.isSome_none, Bool.false_and, Bool.and_false, Bool.or_false, Bool.false_or, bne_self_eq_false, Nat.not_lt_zero, Nat.mul_one, Nat.one_mul, Nat.zero_mul, Nat.mul_zero, beq_self_eq_true, Nat.sub_zero, Nat.reduceSub, List.length_set, false_implies, implies_true, forall_const, ↓dnW_oca, Nat.reduceLT, evI_fn, Nat.zero_lt_one, dnW_o, dnW_om, dnW_oc, dnW_ite, dnW_join, thenD_some, thenD_ite, onIfD_bool, onJoinD_out, onJoinD_ret, onJoinD_ite, Int.reduceEq, WP_some, WP_ite, byOut_goto, byOut_ret, ↓iexec_len, ↓iexec_iaddr, ↓iexec_append, ↓iexec_store, storeF_ptr, lenF_nil, lenF_lst, lenF_sl, lenF_str, iaddrF_sl, iaddrF_lst, List.length_singleton, hc, hc', show (((1 : Nat) : Int) == 1) = true by decide, show (((0 : Nat) : Int) == 0) = true by decide, hlen, hlen', ht, ht', hx0, hy0, beq_self_eq_true, dcr wt]
  exact hK _ _ (frzE rfl rfl)
end Go.Proofs.Ytohclaopcejjnaa.G
namespace Go.Proofs.Ytohclaopcejjnaa.G
open Go
set_option linter.unusedSimpArgs false
set_option linter.unusedVariables false
end Go.Proofs.Ytohclaopcejjnaa.G
namespace Go.Proofs.Ytohclaopcejjnaa.G
open Go
set_option linter.unusedSimpArgs false
set_option linter.unusedVariables false
def FaultT.cells (f : FaultT) : List IV := [.int .u8 f.how, .int .u16 f.at', .int .u32 f.mask]
def Disj (x y : IV) : Prop := ∀ d ∈ blk x, d ∉ blk y
structure FewS (J : JH) (b1 b2 : Nat) (x1 x2 l : IV) (c1 c2 c3 : List IV) : Prop where
  h1 : J[b1]? = some (.cells 0 [.sc (.slice none 0 0), .sc (.slice none 0 0)] false)
  h2 : J[b2]? = some (.cells 0 [x1, x2] false)
  g1 : Grow J x1 1 c1
  g2 : Grow J x2 3 c2
  g3 : Grow J l 3 c3
  ne : b1 ≠ b2
  n1 : b1 ∉ blk x1 ∧ b1 ∉ blk x2 ∧ b1 ∉ blk l
  n2 : b2 ∉ blk x1 ∧ b2 ∉ blk x2 ∧ b2 ∉ blk l
  d12 : Disj x1 x2
  d13 : Disj x1 l
  d23 : Disj x2 l
theorem FewS.push {J : JH} {b1 b2 : Nat} {x1 x2 l : IV} {c1 c2 c3 : List IV} (h : FewS J b1 b2 x1 x2 l c1 c2 c3) (X : IB) : FewS (J.push X) b1 b2 x1 x2 l c1 c2 c3 := by
  have hf := Fr.push J X []
  exact ⟨by rw [hf.2 _ (lt_get h.h1) (by simp)]; exact h.h1, by rw [hf.2 _ (lt_get h.h2) (by simp)]; exact h.h2, h.g1.fr hf (by simp), h.g2.fr hf (by simp), h.g3.fr hf (by simp), h.ne, h.n1, h.n2, h.d12, h.d13, h.d23⟩
end Go.Proofs.Ytohclaopcejjnaa.G
namespace Go.Proofs.Ytohclaopcejjnaa.G
open Go
set_option linter.unusedSimpArgs false
set_option linter.unusedVariables false
theorem BsA.snoc : ∀ {X P x p}, BsA X P → Bs x p → BsA (X ++ [x]) (P ++ [p])
  | [], [], _, _, _, h => ⟨h, trivial⟩
  | _ :: _, _ :: _, _, _, h, k => ⟨h.1, BsA.snoc h.2 k⟩
  | [], _ :: _, _, _, h, _ => h.elim
  | _ :: _, [], _, _, h, _ => h.elim
theorem LsR.one {α : Type} {sz : Nat} {R : IV → α → Prop} {x : IV} {as : List α} (h : LsR sz R x as) : ione x = true := h.choose_spec.1.one
end Go.Proofs.Ytohclaopcejjnaa.G
namespace Go.Proofs.Ytohclaopcejjnaa.G
open Go
set_option linter.unusedSimpArgs false
set_option linter.unusedVariables false
def Held (J : JH) (b : Nat) (s out : IV) (xs : List IV) : Prop := Grow J out 1 xs ∧ b ∉ blk out ∧ Disj out s
theorem Held.upd {J J' : JH} {b : Nat} {s s' out : IV} {xs : List IV} (h : Held J b s out xs) (u : Upd b J s J' s') : Held J' b s' out xs := by
  obtain ⟨h1, h2, h3⟩ := h
  refine ⟨h1.fr u.1 fun d hd hm => ?_, h2, fun d hd hm => ?_⟩
  · rcases List.mem_cons.1 hm with rfl | hm
    · exact h2 hd
    · exact h3 d hd hm
  · rcases u.2 d hm with h | h
    · exact h3 d hd h
    · have := h1.low d hd; omega
theorem BsA.lst {X : List IV} {P} (h : BsA X P) {f : Bool} : LsR 1 Bs (.lst 1 f X) P := h.lsr .lst
end Go.Proofs.Ytohclaopcejjnaa.G
namespace Go.Proofs.Ytohclaopcejjnaa.G
open Go
set_option linter.unusedSimpArgs false
set_option linter.unusedVariables false
end Go.Proofs.Ytohclaopcejjnaa.G
namespace Go.Proofs.Ytohclaopcejjnaa.G
open Go
set_option linter.unusedSimpArgs false
set_option linter.unusedVariables false
end Go.Proofs.Ytohclaopcejjnaa.G
