/- The law DiceOrders: it comes to true. -/
import Derived.Test.YtdclinhgekbejaaD3
namespace Go.Proofs.Ytdclinhgekbejaa.G
open Go
set_option linter.unusedSimpArgs false
set_option linter.unusedVariables false

theorem orders_end (L A B : List Int) (b1 : IB) (s x : Int) (n : Nat) (hb : n ≤ 1000) (hn : 0 < n) (hA : A.length = n) (h0 : 0 ≤ s) (h1 : s < 18446744073709551616) (hx : x = snN (n - 1) s) :
    endP (dn BI l_law03_DiceOrders_k2 [.sl 0 0 0 n (UNK + 1) 1, .ptr 2 0 0, .lst 1 false (A.map (IV.int .i32)), .ptr 3 0 0, .ptr 4 0 0] (eH L b1 s x)) = some (.bool true) := by
  have hw : IntKind.i64.wrap ((n : Int) - 1) = ((n - 1 : Nat) : Int) := by rw [wrap_i64 (by omega) (by omega)]; omega
  have hmax : (if (0 : Int) > ((n - 1 : Nat) : Int) then (0 : Int) else ((n - 1 : Nat) : Int)) = ((n - 1 : Nat) : Int) := by rw [if_neg (by omega)]
  have hs := Skip_ok s ((n - 1 : Nat) : Int)
  rw [skip_eq s (n - 1) h0 h1 (by omega), ← hx] at hs
  unfold dice at hs
  unfold l_law03_DiceOrders_k2 eH
  simp -implicitDefEqProofs only [dn_o, dn_om, dn_oc, dn_ite, dn_ret, dn_join, dn_goto, iexec, evI_0, evI_succ, evI_int, evI_bool, evI_nilsl, evI_nilp, List.cons_append, List.nil_append, scal2_sc, abin, aun, ilift_some, thenI_some, onIf_bool, onJoin_goto, onJoin_ret, onJoin_ite, thenI_ite, Option.map_some, Option.map_none, decide_eq_true_eq, List.map_cons, List.map_nil, reduceIte, if_true, if_false, Bool.false_eq_true, inew, iload, istore, iwr, ird, icells, ione, one, List.getElem?_toArray, List.getElem?_cons_zero, List.getElem?_cons_succ, List.push_toArray, List.size_toArray, List.length_cons, List.length_nil, List.setIfInBounds_toArray, List.set_cons_zero, List.set_cons_succ, isplice_cons, List.drop_succ_cons, List.drop_zero, List.take_succ_cons, List.take_zero, List.drop_nil, List.take_nil, List.append_nil, List.all_cons, List.all_nil, Bool.and_true, Bool.true_and, Bool.and_self, Nat.zero_add, Nat.add_zero, Nat.reduceAdd, Nat.reduceLeDiff, Nat.reduceMul, Nat.le_refl, true_and, and_true, and_self, List.getElem?_nil, BI_zc, BI_zv, BI_co, zcT, zvT, coT, not_true_eq_false, not_false_eq_true, Bool.not_true, Bool.not_false, stepI', wantsI, ifill, ievs, Nat.reduceEqDiff, itup, Nat.le_add_left, Nat.le_add_right, iaggEq, List.foldl, iminI, iminF, imin2, min2, iisNil, isNil, ilen, Option.isNone_none, Option.isNone_some, Nat.zero_le, decide_true, decide_false, ireps, List.replicate, List.flatten_cons, List.flatten_nil, ichk, itouch, ctouch, ilooks, isame, untouched, Option.isSome_some, Bool.or_true, Bool.true_or, List.contains_nil, Int.reduceLT, Int.reduceLE, blkOf, IntKind.bits, iasNat, asNat, Int.toNat_natCast, Int.natCast_nonneg, List.length_map, endP_ret, endP_ite, Int.reduceToNat, iscells, ibnd, islice, capOf, Option.isSome_none, Bool.false_and, Bool.and_false, Bool.or_false, Bool.false_or, bne_self_eq_false, Nat.not_lt_zero, Nat.mul_one, Nat.one_mul, Nat.zero_mul, Nat.mul_zero, onJoin_out, beq_self_eq_true, Nat.sub_zero, Nat.reduceSub, List.length_set, false_implies, implies_true, forall_const, hw, hA, hmax, dcp hs rfl]
  exact frzP rfl

def oS (s : Int) (L : List Int) (n : Nat) : JH := [IB.cells 0 (L.map (IV.int .i32)) false, IB.cells 0 ((places n n).map (IV.int .i32)) false].toArray
theorem orders_mid (s : Int) (L : List Int) (n : Nat) (hb : n ≤ 1000) (hn : 0 < n) (hL : L.length = n) (h0 : 0 ≤ s) (h1 : s < 18446744073709551616) :
    endP (dn BI l_law03_DiceOrders_k3 [.int .u64 s, .sl 0 0 0 n (UNK + 1) 1, .sl 1 0 0 n n 1] (oH L false (places n n))) = some (.bool true) := by
  have hpl : (places n n).length = n := places_length (Nat.le_refl n)
  have hne : places n n ≠ [] := fun h => by rw [h] at hpl; simp at hpl; omega
  have hneL : L ≠ [] := fun h => by rw [h] at hL; simp at hL; omega
  have hS1 := Shuffle_ok (n == n && decide (n < UNK)) s (places n n) hne (by omega)
  have hS2 := Shuffle_ok (n == UNK + 1 && decide (UNK + 1 < UNK)) s L hneL (by omega)
  rw [shufL_state, hpl] at hS1
  rw [shufL_state, hL] at hS2
  have hA : (shufL s (n - 1) (places n n)).1.length = n := by rw [shufL_length, hpl]
  have hB : (shufL s (n - 1) L).1.length = n := by rw [shufL_length, hL]
  have hcmp : ∀ c, c < n → ∃ a, (shufL s (n - 1) (places n n)).1[c]? = some a ∧ 0 ≤ a ∧ a.toNat < n ∧ (shufL s (n - 1) L).1[c]? = some (L.getD a.toNat 0) := by
    intro c hc
    have hmapL : L = (places n n).map (fun a => L.getD a.toNat 0) := by
      apply List.ext_getElem?
      intro j
      rw [places_full]
      by_cases hj : j < n
      · simp [hj, show j < L.length by omega]
      · simp [show n ≤ j by omega, show L.length ≤ j by omega]
    have hB2 : (shufL s (n - 1) L).1 = (shufL s (n - 1) (places n n)).1.map (fun a => L.getD a.toNat 0) := by
      conv => lhs; rw [hmapL]
      exact shufL_map _ _ _ _ (by omega) (by omega)
    obtain ⟨a, ha⟩ : ∃ a, (shufL s (n - 1) (places n n)).1[c]? = some a := ⟨_, List.getElem?_eq_getElem (by omega)⟩
    have hmem := shufL_mem (n - 1) s (places n n) (by omega) (by omega) a (List.mem_of_getElem? ha)
    rw [places_full] at hmem
    obtain ⟨i, hi, rfl⟩ := List.mem_map.1 hmem
    rw [List.mem_range] at hi
    refine ⟨_, ha, by omega, by omega, ?_⟩
    rw [hB2, List.getElem?_map, ha]
    rfl
  generalize (shufL s (n - 1) (places n n)).1 = A at *
  generalize (shufL s (n - 1) L).1 = B at *
  have hx : snN (n - 1) s = snN (n - 1) s := rfl
  generalize hxx : snN (n - 1) s = x at *
  have c1 := fun J (h : ird J 1 0 0 n = some ((places n n).map (IV.int .i32))) => dcf (J := J) (args := [.agg [.int .u64 s], .sl 1 0 0 n n 1]) (as := [.agg [.int .u64 s], .lst 1 (n == n && decide (n < UNK)) ((places n n).map (IV.int .i32))]) (by
    have hg := grp1 ((places n n).map (IV.int .i32))
    rw [List.length_map, hpl] at hg
    simp only [List.mapM_cons, List.mapM_nil]
    rw [frz12, frz_sl (by omega) (by rw [Nat.mul_one]; exact h) ints_pure ints_ione, frz_pure _ _ (by simp [ipure, ipureL]), hg]
    rfl) hS1
  have c2 := fun J (h : ird J 0 0 0 n = some (L.map (IV.int .i32))) => dcf (J := J) (args := [.agg [.int .u64 s], .sl 0 0 0 n (UNK + 1) 1]) (as := [.agg [.int .u64 s], .lst 1 (n == UNK + 1 && decide (UNK + 1 < UNK)) (L.map (IV.int .i32))]) (by
    have hg := grp1 (L.map (IV.int .i32))
    rw [List.length_map, hL] at hg
    simp only [List.mapM_cons, List.mapM_nil]
    rw [frz12, frz_sl (by omega) (by rw [Nat.mul_one]; exact h) ints_pure ints_ione, frz_pure _ _ (by simp [ipure, ipureL]), hg]
    rfl) hS2
  have sh1 : ∀ J, ird J 1 0 0 n = some ((places n n).map (IV.int .i32)) → [IV.agg [.int .u64 s], .sl 1 0 0 n n 1].flatMap (shows J DEP) = [1] := fun J h => by
    simp only [List.flatMap_cons, List.flatMap_nil, List.append_nil]
    rw [frz12, shows_sl (by rw [Nat.mul_one]; exact h) ints_pure, shows_pure _ _ (by simp [ipure, ipureL])]
    rfl
  have sh2 : ∀ J, ird J 0 0 0 n = some (L.map (IV.int .i32)) → [IV.agg [.int .u64 s], .sl 0 0 0 n (UNK + 1) 1].flatMap (shows J DEP) = [0] := fun J h => by
    simp only [List.flatMap_cons, List.flatMap_nil, List.append_nil]
    rw [frz12, shows_sl (by rw [Nat.mul_one]; exact h) ints_pure, shows_pure _ _ (by simp [ipure, ipureL])]
    rfl
  have t1 : ((places n n).map (IV.int .i32)).take n = (places n n).map (IV.int .i32) := List.take_of_length_le (by simp [hpl])
  have t2 : (L.map (IV.int .i32)).take n = L.map (IV.int .i32) := List.take_of_length_le (by simp [hL])
  have e1 := cmp_loop L A B (IB.cells 0 ((places n n).map (IV.int .i32)) true) s x n hb hA hB hL hcmp n 0 (by omega)
  have e2 := orders_end L A B (IB.cells 0 ((places n n).map (IV.int .i32)) true) s x n hb hn hA h0 h1 hxx.symm
  unfold eSt eH at e1
  rw [Int.natCast_zero] at e1
  unfold eH at e2
  unfold l_law03_DiceOrders_k3 oH
  have k1 := c1 [IB.cells 0 (L.map (IV.int .i32)) false, IB.cells 0 ((places n n).map (IV.int .i32)) false, IB.cells 0 [.int .u64 s] false].toArray (by simp [ird, hpl, t1])
  rw [sh1 _ (by simp [ird, hpl, t1])] at k1
  have k2 := c2 [IB.cells 0 (L.map (IV.int .i32)) false, IB.cells 0 ((places n n).map (IV.int .i32)) true, IB.cells 0 [.int .u64 s] false, IB.cells 0 [.int .u64 x] false].toArray (by simp [ird, hL, t2])
  rw [sh2 _ (by simp [ird, hL, t2])] at k2
  unfold dice at k1 k2
  simp only [iscal, iscalL, Bool.false_and, Bool.false_eq_true, if_false, markA, List.foldl, mark1, List.getElem?_toArray, List.getElem?_cons_zero, List.getElem?_cons_succ, List.setIfInBounds_toArray, List.set_cons_zero, List.set_cons_succ] at k1 k2
  simp -implicitDefEqProofs only [dn_o, dn_om, dn_oc, dn_ite, dn_ret, dn_join, dn_goto, iexec, evI_0, evI_succ, evI_int, evI_bool, evI_nilsl, evI_nilp, List.cons_append, List.nil_append, scal2_sc, abin, aun, ilift_some, thenI_some, onIf_bool, onJoin_goto, onJoin_ret, onJoin_ite, thenI_ite, Option.map_some, Option.map_none, decide_eq_true_eq, List.map_cons, List.map_nil, reduceIte, if_true, if_false, Bool.false_eq_true, inew, iload, istore, iwr, ird, icells, ione, one, List.getElem?_toArray, List.getElem?_cons_zero, List.getElem?_cons_succ, List.push_toArray, List.size_toArray, List.length_cons, List.length_nil, List.setIfInBounds_toArray, List.set_cons_zero, List.set_cons_succ, isplice_cons, List.drop_succ_cons, List.drop_zero, List.take_succ_cons, List.take_zero, List.drop_nil, List.take_nil, List.append_nil, List.all_cons, List.all_nil, Bool.and_true, Bool.true_and, Bool.and_self, Nat.zero_add, Nat.add_zero, Nat.reduceAdd, Nat.reduceLeDiff, Nat.reduceMul, Nat.le_refl, true_and, and_true, and_self, List.getElem?_nil, BI_zc, BI_zv, BI_co, zcT, zvT, coT, not_true_eq_false, not_false_eq_true, Bool.not_true, Bool.not_false, stepI', wantsI, ifill, ievs, Nat.reduceEqDiff, itup, Nat.le_add_left, Nat.le_add_right, iaggEq, List.foldl, iminI, iminF, imin2, min2, iisNil, isNil, ilen, Option.isNone_none, Option.isNone_some, Nat.zero_le, decide_true, decide_false, ireps, List.replicate, List.flatten_cons, List.flatten_nil, ichk, itouch, ctouch, ilooks, isame, untouched, Option.isSome_some, Bool.or_true, Bool.true_or, List.contains_nil, Int.reduceLT, Int.reduceLE, blkOf, IntKind.bits, iasNat, asNat, Int.toNat_natCast, Int.natCast_nonneg, List.length_map, endP_ret, endP_ite, Int.reduceToNat, iscells, ibnd, islice, capOf, Option.isSome_none, Bool.false_and, Bool.and_false, Bool.or_false, Bool.false_or, bne_self_eq_false, Nat.not_lt_zero, Nat.mul_one, Nat.one_mul, Nat.zero_mul, Nat.mul_zero, onJoin_out, beq_self_eq_true, Nat.sub_zero, Nat.reduceSub, List.length_set, false_implies, implies_true, forall_const, k1, k2, dn_loop, hA, e1, e2]
end Go.Proofs.Ytdclinhgekbejaa.G
