/- The wire: turns, and its laws -/
import Derived.Test.YtohclaopcejjnaaFB
import Derived.Test.YtohclaopcejjnaaI12
namespace Go.Proofs.Ytohclaopcejjnaa.G
open Go
set_option linter.unusedSimpArgs false
set_option linter.unusedVariables false
def YE : List (IV × Int) → List (List Int × Int) → Prop
  | [], [] => True
  | y :: Y, e :: E => Bs y.1 e.1 ∧ y.2 = e.2 ∧ YE Y E
  | _, _ => False
def BsA : List IV → List (List Int) → Prop
  | [], [] => True
  | x :: X, p :: P => Bs x p ∧ BsA X P
  | _, _ => False
theorem BsA.len : ∀ {X P}, BsA X P → X.length = P.length
  | [], [], _ => rfl
  | _ :: _, _ :: _, h => by simp [BsA.len h.2]
  | [], _ :: _, h => h.elim
  | _ :: _, [], h => h.elim
theorem BsA.at : ∀ {X P}, BsA X P → ∀ i (h : i < X.length) (h' : i < P.length), Bs X[i] P[i]
  | x :: X, p :: P, h, 0, _, _ => h.1
  | x :: X, p :: P, h, i + 1, h1, h2 => BsA.at h.2 i (by simpa using h1) (by simpa using h2)
  | [], _ :: _, h, _, _, _ => h.elim
  | _ :: _, [], h, _, _, _ => h.elim
  | [], [], _, _, h, _ => by simp at h
theorem BsA.pure : ∀ {X P}, BsA X P → ipureL X = true
  | [], [], _ => rfl
  | x :: X, p :: P, h => by simp [ipureL, h.1.pure, BsA.pure h.2]
  | [], _ :: _, h => h.elim
  | _ :: _, [], h => h.elim
theorem BsA.one : ∀ {X P}, BsA X P → X.all ione = true
  | [], [], _ => rfl
  | x :: X, p :: P, h => by rw [List.all_cons, h.1.one, BsA.one h.2]; rfl
  | [], _ :: _, h => h.elim
  | _ :: _, [], h => h.elim
theorem BsA.lsr {x : IV} {X P} (h : BsA X P) (hx : Ls 1 x X) : LsR 1 Bs x P := ⟨X, hx, h.len, h.at⟩
theorem EntR.ye : ∀ {cs E}, EntR cs E → ∃ Y, cs = (encY Y).flatten ∧ YE Y E
  | [], [], _ => ⟨[], rfl, trivial⟩
  | [], _ :: _, h => h.elim
  | [_], [], h => h.elim
  | [_], _ :: _, h => h.elim
  | _ :: _ :: _, [], h => h.elim
  | c :: n :: cs, e :: E, h => by
    obtain ⟨Y, hY, hE⟩ := EntR.ye h.2.2
    refine ⟨(c, e.2) :: Y, ?_, h.1, rfl, hE⟩
    rw [h.2.1, hY]
    rfl
theorem YE.ent : ∀ {Y E}, YE Y E → EntR (encY Y).flatten E
  | [], [], _ => trivial
  | y :: Y, e :: E, h => ⟨h.1, by rw [h.2.1], YE.ent h.2.2⟩
  | [], _ :: _, h => h.elim
  | _ :: _, [], h => h.elim
theorem YE.len : ∀ {Y E}, YE Y E → Y.length = E.length
  | [], [], _ => rfl
  | _ :: _, _ :: _, h => by simp [YE.len h.2.2]
  | [], _ :: _, h => h.elim
  | _ :: _, [], h => h.elim
theorem YE.mem : ∀ {Y E}, YE Y E → ∀ y ∈ Y, ∃ e ∈ E, Bs y.1 e.1 ∧ y.2 = e.2
  | [], [], _, y, hy => by simp at hy
  | y :: Y, e :: E, h, z, hz => by
    rcases List.mem_cons.1 hz with rfl | hz
    · exact ⟨e, by simp, h.1, h.2.1⟩
    · obtain ⟨f, hf, h2⟩ := YE.mem h.2.2 z hz
      exact ⟨f, by simp [hf], h2⟩
  | [], _ :: _, h, _, _ => h.elim
  | _ :: _, [], h, _, _ => h.elim
def takeE (E : List (List Int × Int)) : List (List Int × Int) := (E.map fun e => (e.1, e.2 - 1)).filter fun e => decide (¬ e.2 < 0)
def nowE (E : List (List Int × Int)) : List (List Int) := (E.filter fun e => decide (e.2 = 0)).map (·.1)
theorem YE.take : ∀ {Y E}, YE Y E → YE (keepY (decY Y)) (takeE E)
  | [], [], _ => trivial
  | y :: Y, e :: E, h => by
    have ih := YE.take h.2.2
    obtain ⟨h1, h2, _⟩ := h
    unfold keepY decY takeE at *
    rw [List.map_cons, List.map_cons, List.filter_cons, List.filter_cons]
    simp only [h2]
    split
    · exact ⟨h1, rfl, ih⟩
    · exact ih
  | [], _ :: _, h => h.elim
  | _ :: _, [], h => h.elim
theorem YE.now : ∀ {Y E}, YE Y E → BsA (nowY Y) (nowE E)
  | [], [], _ => trivial
  | y :: Y, e :: E, h => by
    have ih := YE.now h.2.2
    obtain ⟨h1, h2, _⟩ := h
    unfold nowY nowE at *
    rw [List.filter_cons, List.filter_cons]
    simp only [h2]
    split
    · exact ⟨h1, ih⟩
    · exact ih
  | [], _ :: _, h => h.elim
  | _ :: _, [], h => h.elim
theorem Take_ok (b : Nat) (s : IV) (E : List (List Int × Int)) (J : JH) (hW : WireAt J b s E) (hE : ∀ e ∈ E, 0 ≤ e.2 ∧ e.2 ≤ 1000) (hl : E.length ≤ 100000) :
    RP (ic BI F_wire_Wire_Take [.ptr b 0 0] J) fun out J' => ∃ s' xs, WireAt J' b s' (takeE E) ∧ Grow J' out 1 xs ∧ BsA xs (nowE E) ∧ Upd b J s J' s' ∧ (∀ c ∈ blk s', c ∈ blk s) ∧ ∀ d ∈ blk out, J.size ≤ d := by
  obtain ⟨hb, hbs, cs, hg, he⟩ := hW
  obtain ⟨Y, rfl, hYE⟩ := he.ye
  have hlen := hYE.len
  have hS := hg.slx (encY_2 Y) (by omega)
  rcases hS.2 with ⟨rfl, h0⟩ | ⟨c, v, rest, rfl, hc, hrest⟩
  · have hY0 : Y = [] := by simpa [encY] using h0
    subst hY0
    have hE0 : E = [] := List.eq_nil_of_length_eq_zero hlen.symm
    subst hE0
    refine RP_run fn_wire_Wire_Take rfl fun K hK => ?_
    have hl : iter (dn BI l_wire_Wire_Take_k1) 1 [.ptr b 0 0, .sc (.slice none 0 0), .int .i64 ((0 : Nat) : Int), .int .i64 0] J = some (.goto 0 [.ptr b 0 0, .sc (.slice none 0 0)], J) := by
      refine iter_out ?_ (by decide)
      unfold l_wire_Wire_Take_k1
      simp -implicitDefEqProofs only [dn_o, dn_om, dn_oc, dn_ite, dn_ret, dn_join, dn_goto, iexec, evI_0, evI_succ, evI_int, evI_bool, evI_nilsl, evI_nilp, List.cons_append, List.nil_append, scal2_sc, abin, aun, ilift_some, thenI_some, onIf_bool, onJoin_goto, onJoin_ret, onJoin_ite, thenI_ite, Option.map_some, Option.map_none, decide_eq_true_eq, List.map_cons, List.map_nil, reduceIte, if_true, if_false, Bool.false_eq_true, inew, iload, istore, iwr, ird, icells, ione, one, List.getElem?_toArray, List.getElem?_cons_zero, List.getElem?_cons_succ, List.push_toArray, List.size_toArray, List.length_cons, List.length_nil, List.setIfInBounds_toArray, List.set_cons_zero, List.set_cons_succ, isplice_cons, List.drop_succ_cons, List.drop_zero, List.take_succ_cons, List.take_zero, List.drop_nil, List.take_nil, List.append_nil, List.all_cons, List.all_nil, Bool.and_true, Bool.true_and, Bool.and_self, Nat.zero_add, Nat.add_zero, Nat.reduceAdd, Nat.reduceLeDiff, Nat.reduceMul, Nat.le_refl, true_and, and_true, and_self, List.getElem?_nil, BI_zc, BI_zv, BI_co, zcT, zvT, coT, not_true_eq_false, not_false_eq_true, Bool.not_true, Bool.not_false, stepI', wantsI, ifill, ievs, Nat.reduceEqDiff, itup, Nat.le_add_left, Nat.le_add_right, iaggEq, List.foldl, iminI, iminF, imin2, min2, iisNil, isNil, ilen, Option.isNone_none, Option.isNone_some, Nat.zero_le, decide_true, decide_false, ireps, List.replicate, List.flatten_cons, List.flatten_nil, ichk, itouch, ctouch, ilooks, isame, untouched, Option.isSome_some, Bool.or_true, Bool.true_or, List.contains_nil, Int.reduceLT, Int.reduceLE, blkOf, IntKind.bits, iasNat, asNat, Int.toNat_natCast, Int.natCast_nonneg, List.length_map, endP_ret, endP_ite, Int.reduceToNat, iscells, ibnd, islice, capOf, Option.isSome_none, Bool.false_and, Bool.and_false, Bool.or_false, Bool.false_or, bne_self_eq_false, Nat.not_lt_zero, Nat.mul_one, Nat.one_mul, Nat.zero_mul, Nat.mul_zero, onJoin_out, beq_self_eq_true, Nat.sub_zero, Nat.reduceSub, List.length_set, false_implies, implies_true, forall_const, Int.natCast_zero, Int.lt_irrefl]
    rw [Int.natCast_zero] at hl
    unfold l_wire_Wire_Take l_wire_Wire_Take_k2
    simp -implicitDefEqProofs only [dn_ret, dn_goto, iexec, evI_0, evI_succ, evI_int, evI_bool, evI_nilsl, evI_nilp, List.cons_append, List.nil_append, scal2_sc, abin, aun, ilift_some, Option.map_some, Option.map_none, decide_eq_true_eq, List.map_cons, List.map_nil, reduceIte, if_true, if_false, Bool.false_eq_true, inew, iload, istore, iwr, ird, icells, ione, one, List.getElem?_toArray, List.getElem?_cons_zero, List.getElem?_cons_succ, List.push_toArray, List.size_toArray, List.length_cons, List.length_nil, List.setIfInBounds_toArray, List.set_cons_zero, List.set_cons_succ, isplice_cons, List.drop_succ_cons, List.drop_zero, List.take_succ_cons, List.take_zero, List.drop_nil, List.take_nil, List.append_nil, List.all_cons, List.all_nil, Bool.and_true, Bool.true_and, Bool.and_self, Nat.zero_add, Nat.add_zero, Nat.reduceAdd, Nat.reduceLeDiff, Nat.reduceMul, Nat.le_refl, true_and, and_true, and_self, List.getElem?_nil, BI_zc, BI_zv, BI_co, zcT, zvT, coT, not_true_eq_false, not_false_eq_true, Bool.not_true, Bool.not_false, stepI', wantsI, ifill, ievs, Nat.reduceEqDiff, itup, Nat.le_add_left, Nat.le_add_right, iaggEq, List.foldl, iminI, iminF, imin2, min2, iisNil, isNil, ilen, Option.isNone_none, Option.isNone_some, Nat.zero_le, decide_true, decide_false, ireps, List.replicate, List.flatten_cons, List.flatten_nil, ichk, itouch, ctouch, ilooks, isame, untouched, Option.isSome_some, Bool.or_true, Bool.true_or, List.contains_nil, Int.reduceLT, Int.reduceLE, blkOf, IntKind.bits, iasNat, asNat, Int.toNat_natCast, Int.natCast_nonneg, List.length_map, Int.reduceToNat, iscells, ibnd, islice, capOf, Option.isSome_none, Bool.false_and, Bool.and_false, Bool.or_false, Bool.false_or, bne_self_eq_false, Nat.not_lt_zero, Nat.mul_one, Nat.one_mul, Nat.zero_mul, Nat.mul_zero, beq_self_eq_true, Nat.sub_zero, Nat.reduceSub, List.length_set, false_implies, implies_true, forall_const, ↓dnW_oca, Nat.reduceLT, evI_fn, Nat.zero_lt_one, dnW_o, dnW_om, dnW_oc, dnW_ite, dnW_join, thenD_some, thenD_ite, onIfD_bool, onJoinD_out, onJoinD_ret, onJoinD_ite, Int.reduceEq, WP_some, WP_ite, byOut_goto, byOut_ret, ↓iexec_len, ↓iexec_iaddr, ↓iexec_append, ↓iexec_store, storeF_ptr, lenF_nil, lenF_lst, lenF_sl, lenF_str, iaddrF_sl, iaddrF_lst, hb, dn_loop, hl, dcr (delete_nil J)]
    refine hK _ _ ?_
    exact ⟨_, [], ⟨by simp [lt_get hb], by simp [blk, blkOf], [], .nil, trivial⟩, .nil, trivial, ⟨Fr.set _ _ (by simp), fun d hd => .inl hd⟩, fun d hd => hd, by simp [blk, blkOf, itup]⟩
  · rw [encY_len] at hb hbs ⊢
    have hbc : b ≠ c := fun h => hbs (by simp [blk, blkOf, h])
    refine RP_mono (take_sl b c v Y (fun y hy => ?_) (fun y hy => ?_) (fun y hy => ?_) rest hrest (by omega) J hb hc hbc) fun out J' h => ?_
    · obtain ⟨e, _, h1, _⟩ := hYE.mem y hy; exact ⟨h1.one, h1.pure⟩
    · obtain ⟨e, h1, _, h2⟩ := hYE.mem y hy; rw [h2]; exact hE e h1
    · obtain ⟨e, _, h1, _⟩ := hYE.mem y hy; exact h1.icells
    · obtain ⟨r', q1, q2, q3, q4, q5, q6⟩ := h
      have hsl : SlX J' (.sl c v 0 (keepY (decY Y)).length (UNK + 2) 2) 2 (encY (keepY (decY Y))) := ⟨encY_2 _, .inr ⟨c, v, r', by rw [encY_len], q2, q6⟩⟩
      exact ⟨_, _, ⟨q1, by simpa [blk, blkOf] using hbc, _, hsl.grow, hYE.take.ent⟩, q3, hYE.now, ⟨q4, fun d hd => .inl hd⟩, fun d hd => hd, q5⟩
theorem Waiting_ok (b : Nat) (s : IV) (E : List (List Int × Int)) (J : JH) (hW : WireAt J b s E) : ic BI F_wire_Wire_Waiting [.ptr b 0 0] J = some (.int .i64 (E.length : Nat), J) := by
  obtain ⟨hb, hbs, cs, hg, he⟩ := hW
  obtain ⟨v, J', hv, rfl, rfl⟩ := RP_of (P := fun v J' => v = .int .i64 (E.length : Nat) ∧ J' = J) (RP_run (J := J) (args := [.ptr b 0 0]) fn_wire_Wire_Waiting rfl fun K hK => by
    have hl : ∀ J', lenF false s J' = some (.int .i64 (E.length : Nat), J') := fun J' => hg.lenF he.length (by omega)
    unfold l_wire_Wire_Waiting
    simp -implicitDefEqProofs only [dn_ret, dn_goto, iexec, evI_0, evI_succ, evI_int, evI_bool, evI_nilsl, evI_nilp, List.cons_append, List.nil_append, scal2_sc, abin, aun, ilift_some, Option.map_some, Option.map_none, decide_eq_true_eq, List.map_cons, List.map_nil, reduceIte, if_true, if_false, Bool.false_eq_true, inew, iload, istore, iwr, ird, icells, ione, one, List.getElem?_toArray, List.getElem?_cons_zero, List.getElem?_cons_succ, List.push_toArray, List.size_toArray, List.length_cons, List.length_nil, List.setIfInBounds_toArray, List.set_cons_zero, List.set_cons_succ, isplice_cons, List.drop_succ_cons, List.drop_zero, List.take_succ_cons, List.take_zero, List.drop_nil, List.take_nil, List.append_nil, List.all_cons, List.all_nil, Bool.and_true, Bool.true_and, Bool.and_self, Nat.zero_add, Nat.add_zero, Nat.reduceAdd, Nat.reduceLeDiff, Nat.reduceMul, Nat.le_refl, true_and, and_true, and_self, List.getElem?_nil, BI_zc, BI_zv, BI_co, zcT, zvT, coT, not_true_eq_false, not_false_eq_true, Bool.not_true, Bool.not_false, stepI', wantsI, ifill, ievs, Nat.reduceEqDiff, itup, Nat.le_add_left, Nat.le_add_right, iaggEq, List.foldl, iminI, iminF, imin2, min2, iisNil, isNil, ilen, Option.isNone_none, Option.isNone_some, Nat.zero_le, decide_true, decide_false, ireps, List.replicate, List.flatten_cons, List.flatten_nil, ichk, itouch, ctouch, ilooks, isame, untouched, Option.isSome_some, Bool.or_true, Bool.true_or, List.contains_nil, Int.reduceLT, Int.reduceLE, blkOf, IntKind.bits, iasNat, asNat, Int.toNat_natCast, Int.natCast_nonneg, List.length_map, Int.reduceToNat, iscells, ibnd, islice, capOf, Option.isSome_none, Bool.false_and, Bool.and_false, Bool.or_false, Bool.false_or, bne_self_eq_false, Nat.not_lt_zero, Nat.mul_one, Nat.one_mul, Nat.zero_mul, Nat.mul_zero, beq_self_eq_true, Nat.sub_zero, Nat.reduceSub, List.length_set, false_implies, implies_true, forall_const, ↓dnW_oca, Nat.reduceLT, evI_fn, Nat.zero_lt_one, dnW_o, dnW_om, dnW_oc, dnW_ite, dnW_join, thenD_some, thenD_ite, onIfD_bool, onJoinD_out, onJoinD_ret, onJoinD_ite, Int.reduceEq, WP_some, WP_ite, byOut_goto, byOut_ret, ↓iexec_len, ↓iexec_iaddr, ↓iexec_append, ↓iexec_store, storeF_ptr, lenF_nil, lenF_lst, lenF_sl, lenF_str, iaddrF_sl, iaddrF_lst, hb, hl]
    exact hK _ _ ⟨rfl, rfl⟩)
  exact hv
end Go.Proofs.Ytohclaopcejjnaa.G
namespace Go.Proofs.Ytohclaopcejjnaa.G
open Go
set_option linter.unusedSimpArgs false
set_option linter.unusedVariables false
theorem Grow.sl {J : JH} {x : IV} {cs : List IV} (h : Grow J x 1 cs) (hne : cs ≠ []) : ∃ c v full, x = .sl c v 0 cs.length (UNK + 1) 1 ∧ J[c]? = some (.cells v full false) ∧ full.take cs.length = cs ∧ cs.length ≤ full.length := by
  rcases h with ⟨rfl, h⟩ | ⟨b, v, n, full, rfl, h1, h2, h3, _⟩
  · exact absurd h hne
  · have : n = cs.length := by rw [← h3, List.length_take]; omega
    subst this
    exact ⟨b, v, full, rfl, h1, by rw [← h3]; simp, by omega⟩
theorem wire0 {J : JH} : WireAt (J.push (.cells 0 [.sc (.slice none 0 0)] false)) J.size (.sc (.slice none 0 0)) [] := ⟨by simp, by simp [blk, blkOf], [], .nil, trivial⟩
theorem BsA.one_of {X : List IV} {p : List Int} (h : BsA X [p]) : ∃ x, X = [x] ∧ Bs x p := by
  match X, h with
  | [x], h => exact ⟨x, rfl, h.1⟩
  | x :: y :: X, h => exact h.2.elim
theorem awake18 : pc BI F_law18_awake [] = some (.bool true) := by
  refine pcE fn_law18_awake rfl fun K hK => ?_
  have hf3 : FR (.agg [.int .u8 3, .int .u16 0, .int .u32 0]) ⟨3, 0, 0⟩ := ⟨rfl, by decide, by decide, by decide, by decide⟩
  unfold l_law18_awake
  simp -implicitDefEqProofs only [dn_ret, dn_goto, iexec, evI_0, evI_succ, evI_int, evI_bool, evI_nilsl, evI_nilp, List.cons_append, List.nil_append, scal2_sc, abin, aun, ilift_some, Option.map_some, Option.map_none, decide_eq_true_eq, List.map_cons, List.map_nil, reduceIte, if_true, if_false, Bool.false_eq_true, inew, iload, istore, iwr, ird, icells, ione, one, List.getElem?_toArray, List.getElem?_cons_zero, List.getElem?_cons_succ, List.push_toArray, List.size_toArray, List.length_cons, List.length_nil, List.setIfInBounds_toArray, List.set_cons_zero, List.set_cons_succ, isplice_cons, List.drop_succ_cons, List.drop_zero, List.take_succ_cons, List.take_zero, List.drop_nil, List.take_nil, List.append_nil, List.all_cons, List.all_nil, Bool.and_true, Bool.true_and, Bool.and_self, Nat.zero_add, Nat.add_zero, Nat.reduceAdd, Nat.reduceLeDiff, Nat.reduceMul, Nat.le_refl, true_and, and_true, and_self, List.getElem?_nil, BI_zc, BI_zv, BI_co, zcT, zvT, coT, not_true_eq_false, not_false_eq_true, Bool.not_true, Bool.not_false, stepI', wantsI, ifill, ievs, Nat.reduceEqDiff, itup, Nat.le_add_left, Nat.le_add_right, iaggEq, List.foldl, iminI, iminF, imin2, min2, iisNil, isNil, ilen, Option.isNone_none, Option.isNone_some, Nat.zero_le, decide_true, decide_false, ireps, List.replicate, List.flatten_cons, List.flatten_nil, ichk, itouch, ctouch, ilooks, isame, untouched, Option.isSome_some, Bool.or_true, Bool.true_or, List.contains_nil, Int.reduceLT, Int.reduceLE, blkOf, IntKind.bits, iasNat, asNat, Int.toNat_natCast, Int.natCast_nonneg, List.length_map, Int.reduceToNat, iscells, ibnd, islice, capOf, Option.isSome_none, Bool.false_and, Bool.and_false, Bool.or_false, Bool.false_or, bne_self_eq_false, Nat.not_lt_zero, Nat.mul_one, Nat.one_mul, Nat.zero_mul, Nat.mul_zero, beq_self_eq_true, Nat.sub_zero, Nat.reduceSub, List.length_set, false_implies, implies_true, forall_const, ↓dnW_oca, Nat.reduceLT, evI_fn, Nat.zero_lt_one, dnW_o, dnW_om, dnW_oc, dnW_ite, dnW_join, thenD_some, thenD_ite, onIfD_bool, onJoinD_out, onJoinD_ret, onJoinD_ite, Int.reduceEq, WP_some, WP_ite, byOut_goto, byOut_ret, ↓iexec_len, ↓iexec_iaddr, ↓iexec_append, ↓iexec_store, storeF_ptr, lenF_nil, lenF_lst, lenF_sl, lenF_str, iaddrF_sl, iaddrF_lst, ipureL, ipure, grp, mkE, List.headD, one_lt_UNK, lt_UNK (show 2 ≤ 1000000 by omega)]
  have b1 : Bs (.lst 1 true [.int .u8 1]) [1] := .lst
  have b2 : Bs (.lst 1 true [.int .u8 2]) [2] := .lst
  have hfr : LsR 1 Bs (.lst 1 true [.lst 1 true [.int .u8 1], .lst 1 true [.int .u8 2]]) [[1], [2]] := BsA.lsr (X := [.lst 1 true [.int .u8 1], .lst 1 true [.int .u8 2]]) ⟨b1, b2, trivial⟩ .lst
  have hfa : LsR 3 FR (.lst 3 true [.agg [.int .u8 3, .int .u16 0, .int .u32 0]]) [⟨3, 0, 0⟩] := ⟨_, .lst, rfl, fun i h h' => by
    have : i = 0 := by simp at h; omega
    subst this
    exact hf3⟩
  have hp := Put_ok 0 _ _ _ _ _ _ [IB.cells 0 [.sc (.slice none 0 0)] false].toArray (wire0 (J := #[])) hfr hfa (by simp) (by simp) (by simp)
  refine WP_call hp fun v J1 h => ?_
  obtain ⟨s1, w1, _⟩ := h
  have e1 : [] ++ putF [⟨3, 0, 0⟩] 0 [[1], [2]] = [([1], 1), ([2], 0)] := by decide
  rw [e1] at w1
  simp -implicitDefEqProofs only [dn_ret, dn_goto, iexec, evI_0, evI_succ, evI_int, evI_bool, evI_nilsl, evI_nilp, List.cons_append, List.nil_append, scal2_sc, abin, aun, ilift_some, Option.map_some, Option.map_none, decide_eq_true_eq, List.map_cons, List.map_nil, reduceIte, if_true, if_false, Bool.false_eq_true, inew, iload, istore, iwr, ird, icells, ione, one, List.getElem?_toArray, List.getElem?_cons_zero, List.getElem?_cons_succ, List.push_toArray, List.size_toArray, List.length_cons, List.length_nil, List.setIfInBounds_toArray, List.set_cons_zero, List.set_cons_succ, isplice_cons, List.drop_succ_cons, List.drop_zero, List.take_succ_cons, List.take_zero, List.drop_nil, List.take_nil, List.append_nil, List.all_cons, List.all_nil, Bool.and_true, Bool.true_and, Bool.and_self, Nat.zero_add, Nat.add_zero, Nat.reduceAdd, Nat.reduceLeDiff, Nat.reduceMul, Nat.le_refl, true_and, and_true, and_self, List.getElem?_nil, BI_zc, BI_zv, BI_co, zcT, zvT, coT, not_true_eq_false, not_false_eq_true, Bool.not_true, Bool.not_false, stepI', wantsI, ifill, ievs, Nat.reduceEqDiff, itup, Nat.le_add_left, Nat.le_add_right, iaggEq, List.foldl, iminI, iminF, imin2, min2, iisNil, isNil, ilen, Option.isNone_none, Option.isNone_some, Nat.zero_le, decide_true, decide_false, ireps, List.replicate, List.flatten_cons, List.flatten_nil, ichk, itouch, ctouch, ilooks, isame, untouched, Option.isSome_some, Bool.or_true, Bool.true_or, List.contains_nil, Int.reduceLT, Int.reduceLE, blkOf, IntKind.bits, iasNat, asNat, Int.toNat_natCast, Int.natCast_nonneg, List.length_map, Int.reduceToNat, iscells, ibnd, islice, capOf, Option.isSome_none, Bool.false_and, Bool.and_false, Bool.or_false, Bool.false_or, bne_self_eq_false, Nat.not_lt_zero, Nat.mul_one, Nat.one_mul, Nat.zero_mul, Nat.mul_zero, beq_self_eq_true, Nat.sub_zero, Nat.reduceSub, List.length_set, false_implies, implies_true, forall_const, ↓dnW_oca, Nat.reduceLT, evI_fn, Nat.zero_lt_one, dnW_o, dnW_om, dnW_oc, dnW_ite, dnW_join, thenD_some, thenD_ite, onIfD_bool, onJoinD_out, onJoinD_ret, onJoinD_ite, Int.reduceEq, WP_some, WP_ite, byOut_goto, byOut_ret, ↓iexec_len, ↓iexec_iaddr, ↓iexec_append, ↓iexec_store, storeF_ptr, lenF_nil, lenF_lst, lenF_sl, lenF_str, iaddrF_sl, iaddrF_lst]
  refine WP_call (Take_ok 0 s1 _ J1 w1 (by simp) (by simp)) fun a J2 h => ?_
  obtain ⟨s2, xs, w2, ga, ba, u2, sub, la⟩ := h
  have e2 : takeE [([1], 1), ([2], 0)] = [([1], 0)] := by decide
  have e3 : nowE [([1], 1), ([2], 0)] = [[2]] := by decide
  rw [e2] at w2
  rw [e3] at ba
  obtain ⟨x, rfl, hx⟩ := ba.one_of
  simp -implicitDefEqProofs only [dn_ret, dn_goto, iexec, evI_0, evI_succ, evI_int, evI_bool, evI_nilsl, evI_nilp, List.cons_append, List.nil_append, scal2_sc, abin, aun, ilift_some, Option.map_some, Option.map_none, decide_eq_true_eq, List.map_cons, List.map_nil, reduceIte, if_true, if_false, Bool.false_eq_true, inew, iload, istore, iwr, ird, icells, ione, one, List.getElem?_toArray, List.getElem?_cons_zero, List.getElem?_cons_succ, List.push_toArray, List.size_toArray, List.length_cons, List.length_nil, List.setIfInBounds_toArray, List.set_cons_zero, List.set_cons_succ, isplice_cons, List.drop_succ_cons, List.drop_zero, List.take_succ_cons, List.take_zero, List.drop_nil, List.take_nil, List.append_nil, List.all_cons, List.all_nil, Bool.and_true, Bool.true_and, Bool.and_self, Nat.zero_add, Nat.add_zero, Nat.reduceAdd, Nat.reduceLeDiff, Nat.reduceMul, Nat.le_refl, true_and, and_true, and_self, List.getElem?_nil, BI_zc, BI_zv, BI_co, zcT, zvT, coT, not_true_eq_false, not_false_eq_true, Bool.not_true, Bool.not_false, stepI', wantsI, ifill, ievs, Nat.reduceEqDiff, itup, Nat.le_add_left, Nat.le_add_right, iaggEq, List.foldl, iminI, iminF, imin2, min2, iisNil, isNil, ilen, Option.isNone_none, Option.isNone_some, Nat.zero_le, decide_true, decide_false, ireps, List.replicate, List.flatten_cons, List.flatten_nil, ichk, itouch, ctouch, ilooks, isame, untouched, Option.isSome_some, Bool.or_true, Bool.true_or, List.contains_nil, Int.reduceLT, Int.reduceLE, blkOf, IntKind.bits, iasNat, asNat, Int.toNat_natCast, Int.natCast_nonneg, List.length_map, Int.reduceToNat, iscells, ibnd, islice, capOf, Option.isSome_none, Bool.false_and, Bool.and_false, Bool.or_false, Bool.false_or, bne_self_eq_false, Nat.not_lt_zero, Nat.mul_one, Nat.one_mul, Nat.zero_mul, Nat.mul_zero, beq_self_eq_true, Nat.sub_zero, Nat.reduceSub, List.length_set, false_implies, implies_true, forall_const, ↓dnW_oca, Nat.reduceLT, evI_fn, Nat.zero_lt_one, dnW_o, dnW_om, dnW_oc, dnW_ite, dnW_join, thenD_some, thenD_ite, onIfD_bool, onJoinD_out, onJoinD_ret, onJoinD_ite, Int.reduceEq, WP_some, WP_ite, byOut_goto, byOut_ret, ↓iexec_len, ↓iexec_iaddr, ↓iexec_append, ↓iexec_store, storeF_ptr, lenF_nil, lenF_lst, lenF_sl, lenF_str, iaddrF_sl, iaddrF_lst]
  refine WP_call (Take_ok 0 s2 _ J2 w2 (by simp) (by simp)) fun b J3 h => ?_
  obtain ⟨s3, ys, w3, gb, bb, u3, _, lb⟩ := h
  have e4 : takeE [([1], 0)] = [] := by decide
  have e5 : nowE [([1], 0)] = [[1]] := by decide
  rw [e4] at w3
  rw [e5] at bb
  obtain ⟨y, rfl, hy⟩ := bb.one_of
  have ga3 : Grow J3 a 1 [x] := ga.fr u3.1 fun d hd hm => by
    have h1 := la _ hd
    rcases List.mem_cons.1 hm with rfl | hm
    · have := lt_get w1.1; omega
    · obtain ⟨_, _, cs, hg, _⟩ := w1
      have := hg.low d (sub d hm)
      omega
  obtain ⟨c, v, full, rfl, hc, ht, hlen⟩ := ga3.sl (by simp)
  obtain ⟨c', v', full', rfl, hc', ht', hlen'⟩ := gb.sl (by simp)
  have wt := Waiting_ok 0 s3 [] J3 w3
  have hx0 : ∀ J, iaddrF 1 x (.int .i64 0) J = some (.rptr (.int .u8 2) 0, J) := fun J => hx.at (i := 0) (by simp)
  have hy0 : ∀ J, iaddrF 1 y (.int .i64 0) J = some (.rptr (.int .u8 1) 0, J) := fun J => hy.at (i := 0) (by simp)
  simp only [List.length_singleton] at ht ht' hlen hlen'
  simp -implicitDefEqProofs only [dn_ret, dn_goto, iexec, evI_0, evI_succ, evI_int, evI_bool, evI_nilsl, evI_nilp, List.cons_append, List.nil_append, scal2_sc, abin, aun, ilift_some, Option.map_some, Option.map_none, decide_eq_true_eq, List.map_cons, List.map_nil, reduceIte, if_true, if_false, Bool.false_eq_true, inew, iload, istore, iwr, ird, icells, ione, one, List.getElem?_toArray, List.getElem?_cons_zero, List.getElem?_cons_succ, List.push_toArray, List.size_toArray, List.length_cons, List.length_nil, List.setIfInBounds_toArray, List.set_cons_zero, List.set_cons_succ, isplice_cons, List.drop_succ_cons, List.drop_zero, List.take_succ_cons, List.take_zero, List.drop_nil, List.take_nil, List.append_nil, List.all_cons, List.all_nil, Bool.and_true, Bool.true_and, Bool.and_self, Nat.zero_add, Nat.add_zero, Nat.reduceAdd, Nat.reduceLeDiff, Nat.reduceMul, Nat.le_refl, true_and, and_true, and_self, List.getElem?_nil, BI_zc, BI_zv, BI_co, zcT, zvT, coT, not_true_eq_false, not_false_eq_true, Bool.not_true, Bool.not_false, stepI', wantsI, ifill, ievs, Nat.reduceEqDiff, itup, Nat.le_add_left, Nat.le_add_right, iaggEq, List.foldl, iminI, iminF, imin2, min2, iisNil, isNil, ilen, Option.isNone_none, Option.isNone_some, Nat.zero_le, decide_true, decide_false, ireps, List.replicate, List.flatten_cons, List.flatten_nil, ichk, itouch, ctouch, ilooks, isame, untouched, Option.isSome_some, Bool.or_true, Bool.true_or, List.contains_nil, Int.reduceLT, Int.reduceLE, blkOf, IntKind.bits, iasNat, asNat, Int.toNat_natCast, Int.natCast_nonneg, List.length_map, Int.reduceToNat, iscells, ibnd, islice, capOf, Option.isSome_none, Bool.false_and, Bool.and_false, Bool.or_false, Bool.false_or, bne_self_eq_false, Nat.not_lt_zero, Nat.mul_one, Nat.one_mul, Nat.zero_mul, Nat.mul_zero, beq_self_eq_true, Nat.sub_zero, Nat.reduceSub, List.length_set, false_implies, implies_true, forall_const, ↓dnW_oca, Nat.reduceLT, evI_fn, Nat.zero_lt_one, dnW_o, dnW_om, dnW_oc, dnW_ite, dnW_join, thenD_some, thenD_ite, onIfD_bool, onJoinD_out, onJoinD_ret, onJoinD_ite, Int.reduceEq, WP_some, WP_ite, byOut_goto, byOut_ret, ↓iexec_len, ↓iexec_iaddr, ↓iexec_append, ↓iexec_store, storeF_ptr, lenF_nil, lenF_lst, lenF_sl, lenF_str, iaddrF_sl, iaddrF_lst, List.length_singleton, hc, hc', show (((1 : Nat) : Int) == 1) = true by decide, show (((0 : Nat) : Int) == 0) = true by decide, hlen, hlen', ht, ht', hx0, hy0, beq_self_eq_true, dcr wt]
  exact hK _ _ (frzE rfl rfl)
end Go.Proofs.Ytohclaopcejjnaa.G
namespace Go.Proofs.Ytohclaopcejjnaa.G
open Go
set_option linter.unusedSimpArgs false
set_option linter.unusedVariables false
theorem frz_aggL {J : JH} {k : Nat} {l us : List IV} (h : l.mapM (frz J k) = some us) : frz J (k + 1) (.agg l) = some (.agg us) := by
  by_cases hp : ipureL l = true
  · rw [frzL_pure J k hp] at h
    cases h
    exact frz_pure J _ (by simp only [ipure, hp])
  · rw [frz_agg (by simpa using hp), h]; rfl
theorem frz_tupL {J : JH} {k : Nat} {l us : List IV} (h : l.mapM (frz J k) = some us) : frz J (k + 1) (.tup l) = some (.tup us) := by
  by_cases hp : ipureL l = true
  · rw [frzL_pure J k hp] at h
    cases h
    exact frz_pure J _ (by simp only [ipure, hp])
  · rw [frz_tup (by simpa using hp), h]; rfl
theorem grp_flat {sz : Nat} : ∀ {X : List (List IV)}, (∀ x ∈ X, x.length = sz) → grp sz X.length X.flatten = X.map (mkE sz)
  | [], _ => rfl
  | x :: X, h => by
    have hx := h x (by simp)
    rw [List.length_cons, grp, List.flatten_cons, List.take_append_of_le_length (by omega), List.take_of_length_le (by omega), List.drop_append_of_le_length (by omega), List.drop_of_length_le (by omega), List.nil_append, grp_flat fun y hy => h y (by simp [hy])]
    rfl
theorem Grow.frzX {J : JH} {s : IV} {sz : Nat} {X : List (List IV)} (h : Grow J s sz X.flatten) (hX : ∀ x ∈ X, x.length = sz) (hsz : 0 < sz) (hp : ipureL X.flatten = true) (ho : X.flatten.all ione = true) : ∃ u, (∀ k, frz J (k + 1) s = some u) ∧ Ls sz u (X.map (mkE sz)) := by
  obtain ⟨_, ⟨rfl, rfl⟩ | ⟨b, v, rest, rfl, h2⟩⟩ := h.slx hX hsz
  · exact ⟨_, fun k => frz_pure J _ rfl, .nil⟩
  · refine ⟨.lst sz (X.length == UNK + sz && decide (UNK + sz < UNK)) (X.map (mkE sz)), fun k => ?_, .lst⟩
    have hlen := flat_len hX
    rw [frz_sl (cs := X.flatten) hsz (by simp only [ird, h2, true_and, Nat.zero_add, List.drop_zero]; rw [if_pos (by rw [List.length_append, hlen]; omega), List.take_append_of_le_length (by omega), List.take_of_length_le (by omega)]) hp ho, grp_flat hX]
theorem mkE1_map (l : List IV) : (l.map fun x => [x]).map (mkE 1) = l := by
  rw [List.map_map]
  conv => rhs; rw [← List.map_id l]
  rfl
theorem flat1 (l : List IV) : (l.map fun x => [x]).flatten = l := by induction l <;> simp_all
theorem Grow.frzE1 {J : JH} {s : IV} {cs : List IV} (h : Grow J s 1 cs) (hp : ipureL cs = true) (ho : cs.all ione = true) : ∃ u, (∀ k, frz J (k + 1) s = some u) ∧ Ls 1 u cs := by
  have := Grow.frzX (X := cs.map fun x => [x]) (by rw [flat1]; exact h) (by simp) (by omega) (by rw [flat1]; exact hp) (by rw [flat1]; exact ho)
  rw [mkE1_map] at this
  exact this
theorem few_step0 (b0 b1 b2 i : Nat) (fr x1 x2 : IV) (ps : List (List Int)) (hfr : LsR 1 Bs fr ps) (hl : ∀ p ∈ ps, p.length ≤ 9223372036854775807) (hi : i ≤ ps.length) (hb : ps.length ≤ 9223372036854775807) (J : JH) (h2 : J[b2]? = some (.cells 0 [x1, x2] false)) (cs : List IV) (hg : Grow J x1 1 cs) (hcs : cs.length ≤ 8) (hn : b2 ∉ blk x1) (K : Out IV → JH → Prop)
    (h0 : i = ps.length → K (.goto 0 [.ptr b0 0 0, .ptr b1 0 0, .ptr b2 0 0]) J)
    (h1 : ∀ (h : i < ps.length), i < 8 → ∀ x1' y J', Bs y (ps[i].take 40) → Grow J' x1' 1 (cs ++ [y]) → J'[b2]? = some (.cells 0 [x1', x2] false) → b2 ∉ blk x1' → Fr J J' (b2 :: blk x1) → (∀ d ∈ blk x1', d ∈ blk x1 ∨ J.size ≤ d) → K (.goto 1 [.ptr b0 0 0, .ptr b1 0 0, .ptr b2 0 0, fr, .int .i64 ((ps.length : Nat) : Int), .int .i64 ((i + 1 : Nat) : Int)]) J')
    (h3 : ∀ (h : i < ps.length), ¬ i < 8 → K (.goto 1 [.ptr b0 0 0, .ptr b1 0 0, .ptr b2 0 0, fr, .int .i64 ((ps.length : Nat) : Int), .int .i64 ((i + 1 : Nat) : Int)]) J) :
    WP (dn BI l_law18_few_k0 [.ptr b0 0 0, .ptr b1 0 0, .ptr b2 0 0, fr, .int .i64 ((ps.length : Nat) : Int), .int .i64 (i : Int)] J) K := by
  by_cases h : i < ps.length
  · have hw : IntKind.i64.wrap ((i : Int) + 1) = ((i + 1 : Nat) : Int) := by rw [wrap_i64 (by omega) (by omega)]; omega
    obtain ⟨e, he, hea⟩ := hfr.at h
    unfold l_law18_few_k0
    by_cases h8 : i < 8
    · obtain ⟨y, hy, hyb⟩ := bCut_ok he 40 (hl _ (List.getElem_mem h)) (by omega)
      have hy' : pc BI F_ref01_Cut [e, .int .i64 40] = some y := hy
      simp -implicitDefEqProofs only [dn_ret, dn_goto, iexec, evI_0, evI_succ, evI_int, evI_bool, evI_nilsl, evI_nilp, List.cons_append, List.nil_append, scal2_sc, abin, aun, ilift_some, Option.map_some, Option.map_none, decide_eq_true_eq, List.map_cons, List.map_nil, reduceIte, if_true, if_false, Bool.false_eq_true, inew, iload, istore, iwr, ird, icells, ione, one, List.getElem?_toArray, List.getElem?_cons_zero, List.getElem?_cons_succ, List.push_toArray, List.size_toArray, List.length_cons, List.length_nil, List.setIfInBounds_toArray, List.set_cons_zero, List.set_cons_succ, isplice_cons, List.drop_succ_cons, List.drop_zero, List.take_succ_cons, List.take_zero, List.drop_nil, List.take_nil, List.append_nil, List.all_cons, List.all_nil, Bool.and_true, Bool.true_and, Bool.and_self, Nat.zero_add, Nat.add_zero, Nat.reduceAdd, Nat.reduceLeDiff, Nat.reduceMul, Nat.le_refl, true_and, and_true, and_self, List.getElem?_nil, BI_zc, BI_zv, BI_co, zcT, zvT, coT, not_true_eq_false, not_false_eq_true, Bool.not_true, Bool.not_false, stepI', wantsI, ifill, ievs, Nat.reduceEqDiff, itup, Nat.le_add_left, Nat.le_add_right, iaggEq, List.foldl, iminI, iminF, imin2, min2, iisNil, isNil, ilen, Option.isNone_none, Option.isNone_some, Nat.zero_le, decide_true, decide_false, ireps, List.replicate, List.flatten_cons, List.flatten_nil, ichk, itouch, ctouch, ilooks, isame, untouched, Option.isSome_some, Bool.or_true, Bool.true_or, List.contains_nil, Int.reduceLT, Int.reduceLE, blkOf, IntKind.bits, iasNat, asNat, Int.toNat_natCast, Int.natCast_nonneg, List.length_map, Int.reduceToNat, iscells, ibnd, islice, capOf, Option.isSome_none, Bool.false_and, Bool.and_false, Bool.or_false, Bool.false_or, bne_self_eq_false, Nat.not_lt_zero, Nat.mul_one, Nat.one_mul, Nat.zero_mul, Nat.mul_zero, beq_self_eq_true, Nat.sub_zero, Nat.reduceSub, List.length_set, false_implies, implies_true, forall_const, ↓dnW_oca, Nat.reduceLT, evI_fn, Nat.zero_lt_one, dnW_o, dnW_om, dnW_oc, dnW_ite, dnW_join, thenD_some, thenD_ite, onIfD_bool, onJoinD_out, onJoinD_ret, onJoinD_ite, Int.reduceEq, WP_some, WP_ite, byOut_goto, byOut_ret, ↓iexec_len, ↓iexec_iaddr, ↓iexec_append, ↓iexec_store, storeF_ptr, lenF_nil, lenF_lst, lenF_sl, lenF_str, iaddrF_sl, iaddrF_lst, show ((i : Int) < (ps.length : Int)) by omega, hea, ↓he.icells, show ((i : Int) < 8) by omega, h2, dcp hy' (by simp [ipureL, he.pure, ipure]), ↓hyb.pure, ↓hyb.one, ↓hyb.icells, ipureL, ipure, grp, mkE, List.headD, one_lt_UNK]
      refine WP_bind (hg.app (m := 1) (ds := [y]) (by omega) (by simp [iscells, hyb.icells]) rfl rfl (by rw [List.all_cons, hyb.one]; rfl) (fits24 (n := cs.length + 1) (by omega))) fun x1' J' hs => ?_
      obtain ⟨k1, k2, k3⟩ := hs
      have hb' : J'[b2]? = some (.cells 0 [x1, x2] false) := by rw [k2.2 b2 (lt_get h2) hn]; exact h2
      have hn' : b2 ∉ blk x1' := fun hm => by
        rcases k3 b2 hm with h | h
        · exact hn h
        · have := lt_get h2; omega
      simp -implicitDefEqProofs only [dn_ret, dn_goto, iexec, evI_0, evI_succ, evI_int, evI_bool, evI_nilsl, evI_nilp, List.cons_append, List.nil_append, scal2_sc, abin, aun, ilift_some, Option.map_some, Option.map_none, decide_eq_true_eq, List.map_cons, List.map_nil, reduceIte, if_true, if_false, Bool.false_eq_true, inew, iload, istore, iwr, ird, icells, ione, one, List.getElem?_toArray, List.getElem?_cons_zero, List.getElem?_cons_succ, List.push_toArray, List.size_toArray, List.length_cons, List.length_nil, List.setIfInBounds_toArray, List.set_cons_zero, List.set_cons_succ, isplice_cons, List.drop_succ_cons, List.drop_zero, List.take_succ_cons, List.take_zero, List.drop_nil, List.take_nil, List.append_nil, List.all_cons, List.all_nil, Bool.and_true, Bool.true_and, Bool.and_self, Nat.zero_add, Nat.add_zero, Nat.reduceAdd, Nat.reduceLeDiff, Nat.reduceMul, Nat.le_refl, true_and, and_true, and_self, List.getElem?_nil, BI_zc, BI_zv, BI_co, zcT, zvT, coT, not_true_eq_false, not_false_eq_true, Bool.not_true, Bool.not_false, stepI', wantsI, ifill, ievs, Nat.reduceEqDiff, itup, Nat.le_add_left, Nat.le_add_right, iaggEq, List.foldl, iminI, iminF, imin2, min2, iisNil, isNil, ilen, Option.isNone_none, Option.isNone_some, Nat.zero_le, decide_true, decide_false, ireps, List.replicate, List.flatten_cons, List.flatten_nil, ichk, itouch, ctouch, ilooks, isame, untouched, Option.isSome_some, Bool.or_true, Bool.true_or, List.contains_nil, Int.reduceLT, Int.reduceLE, blkOf, IntKind.bits, iasNat, asNat, Int.toNat_natCast, Int.natCast_nonneg, List.length_map, Int.reduceToNat, iscells, ibnd, islice, capOf, Option.isSome_none, Bool.false_and, Bool.and_false, Bool.or_false, Bool.false_or, bne_self_eq_false, Nat.not_lt_zero, Nat.mul_one, Nat.one_mul, Nat.zero_mul, Nat.mul_zero, beq_self_eq_true, Nat.sub_zero, Nat.reduceSub, List.length_set, false_implies, implies_true, forall_const, ↓dnW_oca, Nat.reduceLT, evI_fn, Nat.zero_lt_one, dnW_o, dnW_om, dnW_oc, dnW_ite, dnW_join, thenD_some, thenD_ite, onIfD_bool, onJoinD_out, onJoinD_ret, onJoinD_ite, Int.reduceEq, WP_some, WP_ite, byOut_goto, byOut_ret, ↓iexec_len, ↓iexec_iaddr, ↓iexec_append, ↓iexec_store, storeF_ptr, lenF_nil, lenF_lst, lenF_sl, lenF_str, iaddrF_sl, iaddrF_lst, hb', hw, ↓k1.one, ↓k1.icells]
      refine h1 h h8 x1' y _ hyb (k1.fr (Fr.set J' _ (S := [b2]) (by simp)) fun d hd hm => ?_) (by simp [lt_get hb']) hn' (Fr.trans (J1 := J') ⟨k2.1, fun d hd hm => k2.2 d hd fun h => hm (by simp [h])⟩ (Fr.set J' _ (S := [b2]) (by simp)) fun d _ h => by simp at h; simp [h]) k3
      rw [List.mem_singleton] at hm; exact hn' (hm ▸ hd)
    · simp -implicitDefEqProofs only [dn_ret, dn_goto, iexec, evI_0, evI_succ, evI_int, evI_bool, evI_nilsl, evI_nilp, List.cons_append, List.nil_append, scal2_sc, abin, aun, ilift_some, Option.map_some, Option.map_none, decide_eq_true_eq, List.map_cons, List.map_nil, reduceIte, if_true, if_false, Bool.false_eq_true, inew, iload, istore, iwr, ird, icells, ione, one, List.getElem?_toArray, List.getElem?_cons_zero, List.getElem?_cons_succ, List.push_toArray, List.size_toArray, List.length_cons, List.length_nil, List.setIfInBounds_toArray, List.set_cons_zero, List.set_cons_succ, isplice_cons, List.drop_succ_cons, List.drop_zero, List.take_succ_cons, List.take_zero, List.drop_nil, List.take_nil, List.append_nil, List.all_cons, List.all_nil, Bool.and_true, Bool.true_and, Bool.and_self, Nat.zero_add, Nat.add_zero, Nat.reduceAdd, Nat.reduceLeDiff, Nat.reduceMul, Nat.le_refl, true_and, and_true, and_self, List.getElem?_nil, BI_zc, BI_zv, BI_co, zcT, zvT, coT, not_true_eq_false, not_false_eq_true, Bool.not_true, Bool.not_false, stepI', wantsI, ifill, ievs, Nat.reduceEqDiff, itup, Nat.le_add_left, Nat.le_add_right, iaggEq, List.foldl, iminI, iminF, imin2, min2, iisNil, isNil, ilen, Option.isNone_none, Option.isNone_some, Nat.zero_le, decide_true, decide_false, ireps, List.replicate, List.flatten_cons, List.flatten_nil, ichk, itouch, ctouch, ilooks, isame, untouched, Option.isSome_some, Bool.or_true, Bool.true_or, List.contains_nil, Int.reduceLT, Int.reduceLE, blkOf, IntKind.bits, iasNat, asNat, Int.toNat_natCast, Int.natCast_nonneg, List.length_map, Int.reduceToNat, iscells, ibnd, islice, capOf, Option.isSome_none, Bool.false_and, Bool.and_false, Bool.or_false, Bool.false_or, bne_self_eq_false, Nat.not_lt_zero, Nat.mul_one, Nat.one_mul, Nat.zero_mul, Nat.mul_zero, beq_self_eq_true, Nat.sub_zero, Nat.reduceSub, List.length_set, false_implies, implies_true, forall_const, ↓dnW_oca, Nat.reduceLT, evI_fn, Nat.zero_lt_one, dnW_o, dnW_om, dnW_oc, dnW_ite, dnW_join, thenD_some, thenD_ite, onIfD_bool, onJoinD_out, onJoinD_ret, onJoinD_ite, Int.reduceEq, WP_some, WP_ite, byOut_goto, byOut_ret, ↓iexec_len, ↓iexec_iaddr, ↓iexec_append, ↓iexec_store, storeF_ptr, lenF_nil, lenF_lst, lenF_sl, lenF_str, iaddrF_sl, iaddrF_lst, show ((i : Int) < (ps.length : Int)) by omega, hea, ↓he.icells, show ¬ ((i : Int) < 8) by omega, hw]
      exact h3 h h8
  · unfold l_law18_few_k0
    simp -implicitDefEqProofs only [dn_ret, dn_goto, iexec, evI_0, evI_succ, evI_int, evI_bool, evI_nilsl, evI_nilp, List.cons_append, List.nil_append, scal2_sc, abin, aun, ilift_some, Option.map_some, Option.map_none, decide_eq_true_eq, List.map_cons, List.map_nil, reduceIte, if_true, if_false, Bool.false_eq_true, inew, iload, istore, iwr, ird, icells, ione, one, List.getElem?_toArray, List.getElem?_cons_zero, List.getElem?_cons_succ, List.push_toArray, List.size_toArray, List.length_cons, List.length_nil, List.setIfInBounds_toArray, List.set_cons_zero, List.set_cons_succ, isplice_cons, List.drop_succ_cons, List.drop_zero, List.take_succ_cons, List.take_zero, List.drop_nil, List.take_nil, List.append_nil, List.all_cons, List.all_nil, Bool.and_true, Bool.true_and, Bool.and_self, Nat.zero_add, Nat.add_zero, Nat.reduceAdd, Nat.reduceLeDiff, Nat.reduceMul, Nat.le_refl, true_and, and_true, and_self, List.getElem?_nil, BI_zc, BI_zv, BI_co, zcT, zvT, coT, not_true_eq_false, not_false_eq_true, Bool.not_true, Bool.not_false, stepI', wantsI, ifill, ievs, Nat.reduceEqDiff, itup, Nat.le_add_left, Nat.le_add_right, iaggEq, List.foldl, iminI, iminF, imin2, min2, iisNil, isNil, ilen, Option.isNone_none, Option.isNone_some, Nat.zero_le, decide_true, decide_false, ireps, List.replicate, List.flatten_cons, List.flatten_nil, ichk, itouch, ctouch, ilooks, isame, untouched, Option.isSome_some, Bool.or_true, Bool.true_or, List.contains_nil, Int.reduceLT, Int.reduceLE, blkOf, IntKind.bits, iasNat, asNat, Int.toNat_natCast, Int.natCast_nonneg, List.length_map, Int.reduceToNat, iscells, ibnd, islice, capOf, Option.isSome_none, Bool.false_and, Bool.and_false, Bool.or_false, Bool.false_or, bne_self_eq_false, Nat.not_lt_zero, Nat.mul_one, Nat.one_mul, Nat.zero_mul, Nat.mul_zero, beq_self_eq_true, Nat.sub_zero, Nat.reduceSub, List.length_set, false_implies, implies_true, forall_const, ↓dnW_oca, Nat.reduceLT, evI_fn, Nat.zero_lt_one, dnW_o, dnW_om, dnW_oc, dnW_ite, dnW_join, thenD_some, thenD_ite, onIfD_bool, onJoinD_out, onJoinD_ret, onJoinD_ite, Int.reduceEq, WP_some, WP_ite, byOut_goto, byOut_ret, ↓iexec_len, ↓iexec_iaddr, ↓iexec_append, ↓iexec_store, storeF_ptr, lenF_nil, lenF_lst, lenF_sl, lenF_str, iaddrF_sl, iaddrF_lst, show ¬ ((i : Int) < (ps.length : Int)) by omega]
    exact h0 (by omega)
end Go.Proofs.Ytohclaopcejjnaa.G
namespace Go.Proofs.Ytohclaopcejjnaa.G
open Go
set_option linter.unusedSimpArgs false
set_option linter.unusedVariables false
def FaultT.cells (f : FaultT) : List IV := [.int .u8 f.how, .int .u16 f.at', .int .u32 f.mask]
def Disj (x y : IV) : Prop := ∀ d ∈ blk x, d ∉ blk y
structure FewS (J : JH) (b1 b2 : Nat) (x1 x2 l : IV) (c1 c2 c3 : List IV) : Prop where
  h1 : J[b1]? = some (.cells 0 [.sc (.slice none 0 0), .sc (.slice none 0 0)] false)
  h2 : J[b2]? = some (.cells 0 [x1, x2] false)
  g1 : Grow J x1 1 c1
  g2 : Grow J x2 3 c2
  g3 : Grow J l 3 c3
  ne : b1 ≠ b2
  n1 : b1 ∉ blk x1 ∧ b1 ∉ blk x2 ∧ b1 ∉ blk l
  n2 : b2 ∉ blk x1 ∧ b2 ∉ blk x2 ∧ b2 ∉ blk l
  d12 : Disj x1 x2
  d13 : Disj x1 l
  d23 : Disj x2 l
theorem FewS.push {J : JH} {b1 b2 : Nat} {x1 x2 l : IV} {c1 c2 c3 : List IV} (h : FewS J b1 b2 x1 x2 l c1 c2 c3) (X : IB) : FewS (J.push X) b1 b2 x1 x2 l c1 c2 c3 := by
  have hf := Fr.push J X []
  exact ⟨by rw [hf.2 _ (lt_get h.h1) (by simp)]; exact h.h1, by rw [hf.2 _ (lt_get h.h2) (by simp)]; exact h.h2, h.g1.fr hf (by simp), h.g2.fr hf (by simp), h.g3.fr hf (by simp), h.ne, h.n1, h.n2, h.d12, h.d13, h.d23⟩
theorem push_at {α : Type} {J : Array α} {x : α} : (J.push x)[J.size]? = some x := by simp
theorem fits8 {n : Nat} (h : n ≤ 1000000) : fits n 8 = true := by
  simp only [fits, Bool.and_eq_true, decide_eq_true_eq]
  omega
theorem few_step1 (b1 b2 i : Nat) (fa x1 x2 l : IV) (fs : List FaultT) (hfa : LsR 3 FR fa fs) (hi : i ≤ fs.length) (hb : fs.length ≤ 9223372036854775807) (J : JH) (c1 c2 c3 : List IV) (hS : FewS J b1 b2 x1 x2 l c1 c2 c3) (hc2 : c2.length ≤ 100) (hc3 : c3.length ≤ 100) (K : Out IV → JH → Prop)
    (h0 : i = fs.length → K (.goto 1 [.ptr b1 0 0, .ptr b2 0 0, l]) J)
    (h1 : ∀ (h : i < fs.length), i < 8 → ∀ x2' l' J', FewS J' b1 b2 x1 x2' l' c1 (c2 ++ fs[i].cells) (c3 ++ fs[i].cells) → K (.goto 2 [.ptr b1 0 0, .ptr b2 0 0, l', fa, .int .i64 ((fs.length : Nat) : Int), .int .i64 ((i + 1 : Nat) : Int)]) J')
    (h3 : ∀ (h : i < fs.length), ¬ i < 8 → ∀ J', FewS J' b1 b2 x1 x2 l c1 c2 c3 → K (.goto 2 [.ptr b1 0 0, .ptr b2 0 0, l, fa, .int .i64 ((fs.length : Nat) : Int), .int .i64 ((i + 1 : Nat) : Int)]) J') :
    WP (dn BI l_law18_few_k1 [.ptr b1 0 0, .ptr b2 0 0, l, fa, .int .i64 ((fs.length : Nat) : Int), .int .i64 (i : Int)] J) K := by
  by_cases h : i < fs.length
  · have hw : IntKind.i64.wrap ((i : Int) + 1) = ((i + 1 : Nat) : Int) := by rw [wrap_i64 (by omega) (by omega)]; omega
    obtain ⟨e, ⟨rfl, _⟩, hea⟩ := hfa.at h
    unfold FaultT.iv at hea
    have hS0 := hS.push (.cells 0 fs[i].cells false)
    have hin := inb hS.h2
    unfold l_law18_few_k1
    by_cases h8 : i < 8
    · have hl2 := hS.g2.low
      have hl3 := hS.g3.low
      have hbk := hS.g2.blkF
      unfold FaultT.cells at hS0 h1
      generalize hJ0 : J.push (.cells 0 [.int .u8 fs[i].how, .int .u16 fs[i].at', .int .u32 fs[i].mask] false) = J0 at hS0
      have hnb : J0[J.size]? = some (.cells 0 [.int .u8 fs[i].how, .int .u16 fs[i].at', .int .u32 fs[i].mask] false) := by rw [← hJ0]; simp
      have hJs : J0.size = J.size + 1 := by rw [← hJ0]; simp
      have hnc : (blk x2).contains J.size = false := by
        rw [Bool.eq_false_iff]
        intro hc
        have := hl2 _ (List.contains_iff_mem.1 hc)
        omega
      have h02 := hS0.h2
      simp -implicitDefEqProofs only [dn_ret, dn_goto, iexec, evI_0, evI_succ, evI_int, evI_bool, evI_nilsl, evI_nilp, List.cons_append, List.nil_append, scal2_sc, abin, aun, ilift_some, Option.map_some, Option.map_none, decide_eq_true_eq, List.map_cons, List.map_nil, reduceIte, if_true, if_false, Bool.false_eq_true, inew, iload, istore, iwr, ird, icells, ione, one, List.getElem?_toArray, List.getElem?_cons_zero, List.getElem?_cons_succ, List.push_toArray, List.size_toArray, List.length_cons, List.length_nil, List.setIfInBounds_toArray, List.set_cons_zero, List.set_cons_succ, isplice_cons, List.drop_succ_cons, List.drop_zero, List.take_succ_cons, List.take_zero, List.drop_nil, List.take_nil, List.append_nil, List.all_cons, List.all_nil, Bool.and_true, Bool.true_and, Bool.and_self, Nat.zero_add, Nat.add_zero, Nat.reduceAdd, Nat.reduceLeDiff, Nat.reduceMul, Nat.le_refl, true_and, and_true, and_self, List.getElem?_nil, BI_zc, BI_zv, BI_co, zcT, zvT, coT, not_true_eq_false, not_false_eq_true, Bool.not_true, Bool.not_false, stepI', wantsI, ifill, ievs, Nat.reduceEqDiff, itup, Nat.le_add_left, Nat.le_add_right, iaggEq, List.foldl, iminI, iminF, imin2, min2, iisNil, isNil, ilen, Option.isNone_none, Option.isNone_some, Nat.zero_le, decide_true, decide_false, ireps, List.replicate, List.flatten_cons, List.flatten_nil, ichk, itouch, ctouch, ilooks, isame, untouched, Option.isSome_some, Bool.or_true, Bool.true_or, List.contains_nil, Int.reduceLT, Int.reduceLE, blkOf, IntKind.bits, iasNat, asNat, Int.toNat_natCast, Int.natCast_nonneg, List.length_map, Int.reduceToNat, iscells, ibnd, islice, capOf, Option.isSome_none, Bool.false_and, Bool.and_false, Bool.or_false, Bool.false_or, bne_self_eq_false, Nat.not_lt_zero, Nat.mul_one, Nat.one_mul, Nat.zero_mul, Nat.mul_zero, beq_self_eq_true, Nat.sub_zero, Nat.reduceSub, List.length_set, false_implies, implies_true, forall_const, ↓dnW_oca, Nat.reduceLT, evI_fn, Nat.zero_lt_one, dnW_o, dnW_om, dnW_oc, dnW_ite, dnW_join, thenD_some, thenD_ite, onIfD_bool, onJoinD_out, onJoinD_ret, onJoinD_ite, Int.reduceEq, WP_some, WP_ite, byOut_goto, byOut_ret, ↓iexec_len, ↓iexec_iaddr, ↓iexec_append, ↓iexec_store, storeF_ptr, lenF_nil, lenF_lst, lenF_sl, lenF_str, iaddrF_sl, iaddrF_lst, show ((i : Int) < (fs.length : Int)) by omega, hea, show ((i : Int) < 8) by omega, push_set, push_at, hJ0, hnb, h02, hbk, ipureL, ipure, grp, mkE, one_lt_UNK]
      refine WP_bindC (hS0.g2.app (m := 1) (y := .lst 3 true [.agg [.int .u8 fs[i].how, .int .u16 fs[i].at', .int .u32 fs[i].mask]]) (ds := [.int .u8 fs[i].how, .int .u16 fs[i].at', .int .u32 fs[i].mask]) (by omega) rfl rfl rfl rfl (fits8 (n := c2.length + 1) (by omega))) fun x2' J1 hs => ?_
      obtain ⟨k1, k2, k3⟩ := hs
      have hnb1 : J1[J.size]? = J0[J.size]? := k2.2 _ (by omega) (fun hm => by have := hl2 _ hm; omega)
      rw [hnb] at hnb1
      have hb2 : J1[b2]? = some (.cells 0 [x1, x2] false) := by rw [k2.2 b2 (lt_get h02) hS0.n2.2.1]; exact h02
      refine ⟨?_, ?_⟩
      · simp -implicitDefEqProofs only [dn_ret, dn_goto, iexec, evI_0, evI_succ, evI_int, evI_bool, evI_nilsl, evI_nilp, List.cons_append, List.nil_append, scal2_sc, abin, aun, ilift_some, Option.map_some, Option.map_none, decide_eq_true_eq, List.map_cons, List.map_nil, reduceIte, if_true, if_false, Bool.false_eq_true, inew, iload, istore, iwr, ird, icells, ione, one, List.getElem?_toArray, List.getElem?_cons_zero, List.getElem?_cons_succ, List.push_toArray, List.size_toArray, List.length_cons, List.length_nil, List.setIfInBounds_toArray, List.set_cons_zero, List.set_cons_succ, isplice_cons, List.drop_succ_cons, List.drop_zero, List.take_succ_cons, List.take_zero, List.drop_nil, List.take_nil, List.append_nil, List.all_cons, List.all_nil, Bool.and_true, Bool.true_and, Bool.and_self, Nat.zero_add, Nat.add_zero, Nat.reduceAdd, Nat.reduceLeDiff, Nat.reduceMul, Nat.le_refl, true_and, and_true, and_self, List.getElem?_nil, BI_zc, BI_zv, BI_co, zcT, zvT, coT, not_true_eq_false, not_false_eq_true, Bool.not_true, Bool.not_false, stepI', wantsI, ifill, ievs, Nat.reduceEqDiff, itup, Nat.le_add_left, Nat.le_add_right, iaggEq, List.foldl, iminI, iminF, imin2, min2, iisNil, isNil, ilen, Option.isNone_none, Option.isNone_some, Nat.zero_le, decide_true, decide_false, ireps, List.replicate, List.flatten_cons, List.flatten_nil, ichk, itouch, ctouch, ilooks, isame, untouched, Option.isSome_some, Bool.or_true, Bool.true_or, List.contains_nil, Int.reduceLT, Int.reduceLE, blkOf, IntKind.bits, iasNat, asNat, Int.toNat_natCast, Int.natCast_nonneg, List.length_map, Int.reduceToNat, iscells, ibnd, islice, capOf, Option.isSome_none, Bool.false_and, Bool.and_false, Bool.or_false, Bool.false_or, bne_self_eq_false, Nat.not_lt_zero, Nat.mul_one, Nat.one_mul, Nat.zero_mul, Nat.mul_zero, beq_self_eq_true, Nat.sub_zero, Nat.reduceSub, List.length_set, false_implies, implies_true, forall_const, ↓dnW_oca, Nat.reduceLT, evI_fn, Nat.zero_lt_one, dnW_o, dnW_om, dnW_oc, dnW_ite, dnW_join, thenD_some, thenD_ite, onIfD_bool, onJoinD_out, onJoinD_ret, onJoinD_ite, Int.reduceEq, WP_some, WP_ite, byOut_goto, byOut_ret, ↓iexec_len, ↓iexec_iaddr, ↓iexec_append, ↓iexec_store, storeF_ptr, lenF_nil, lenF_lst, lenF_sl, lenF_str, iaddrF_sl, iaddrF_lst, hnb, hnb1, hnc]
      have hg3 : Grow J1 l 3 c3 := hS0.g3.fr k2 fun d hd hm => hS0.d23 d hm hd
      simp -implicitDefEqProofs only [dn_ret, dn_goto, iexec, evI_0, evI_succ, evI_int, evI_bool, evI_nilsl, evI_nilp, List.cons_append, List.nil_append, scal2_sc, abin, aun, ilift_some, Option.map_some, Option.map_none, decide_eq_true_eq, List.map_cons, List.map_nil, reduceIte, if_true, if_false, Bool.false_eq_true, inew, iload, istore, iwr, ird, icells, ione, one, List.getElem?_toArray, List.getElem?_cons_zero, List.getElem?_cons_succ, List.push_toArray, List.size_toArray, List.length_cons, List.length_nil, List.setIfInBounds_toArray, List.set_cons_zero, List.set_cons_succ, isplice_cons, List.drop_succ_cons, List.drop_zero, List.take_succ_cons, List.take_zero, List.drop_nil, List.take_nil, List.append_nil, List.all_cons, List.all_nil, Bool.and_true, Bool.true_and, Bool.and_self, Nat.zero_add, Nat.add_zero, Nat.reduceAdd, Nat.reduceLeDiff, Nat.reduceMul, Nat.le_refl, true_and, and_true, and_self, List.getElem?_nil, BI_zc, BI_zv, BI_co, zcT, zvT, coT, not_true_eq_false, not_false_eq_true, Bool.not_true, Bool.not_false, stepI', wantsI, ifill, ievs, Nat.reduceEqDiff, itup, Nat.le_add_left, Nat.le_add_right, iaggEq, List.foldl, iminI, iminF, imin2, min2, iisNil, isNil, ilen, Option.isNone_none, Option.isNone_some, Nat.zero_le, decide_true, decide_false, ireps, List.replicate, List.flatten_cons, List.flatten_nil, ichk, itouch, ctouch, ilooks, isame, untouched, Option.isSome_some, Bool.or_true, Bool.true_or, List.contains_nil, Int.reduceLT, Int.reduceLE, blkOf, IntKind.bits, iasNat, asNat, Int.toNat_natCast, Int.natCast_nonneg, List.length_map, Int.reduceToNat, iscells, ibnd, islice, capOf, Option.isSome_none, Bool.false_and, Bool.and_false, Bool.or_false, Bool.false_or, bne_self_eq_false, Nat.not_lt_zero, Nat.mul_one, Nat.one_mul, Nat.zero_mul, Nat.mul_zero, beq_self_eq_true, Nat.sub_zero, Nat.reduceSub, List.length_set, false_implies, implies_true, forall_const, ↓dnW_oca, Nat.reduceLT, evI_fn, Nat.zero_lt_one, dnW_o, dnW_om, dnW_oc, dnW_ite, dnW_join, thenD_some, thenD_ite, onIfD_bool, onJoinD_out, onJoinD_ret, onJoinD_ite, Int.reduceEq, WP_some, WP_ite, byOut_goto, byOut_ret, ↓iexec_len, ↓iexec_iaddr, ↓iexec_append, ↓iexec_store, storeF_ptr, lenF_nil, lenF_lst, lenF_sl, lenF_str, iaddrF_sl, iaddrF_lst]
      refine WP_bind (hg3.app (m := 1) (y := .lst 3 true [.agg [.int .u8 fs[i].how, .int .u16 fs[i].at', .int .u32 fs[i].mask]]) (ds := [.int .u8 fs[i].how, .int .u16 fs[i].at', .int .u32 fs[i].mask]) (by omega) rfl rfl rfl rfl (fits8 (n := c3.length + 1) (by omega))) fun l' J2 hs => ?_
      obtain ⟨m1, m2, m3⟩ := hs
      have hb22 : J2[b2]? = some (.cells 0 [x1, x2] false) := by rw [m2.2 b2 (lt_get hb2) hS0.n2.2.2]; exact hb2
      have hl3' : ∀ d ∈ blk l, d < J0.size := hS0.g3.low
      have hx2' : Grow J2 x2' 3 (c2 ++ [.int .u8 fs[i].how, .int .u16 fs[i].at', .int .u32 fs[i].mask]) := k1.fr m2 fun d hd hm => by
        rcases k3 d hd with h | h
        · exact hS0.d23 d h hm
        · have := hl3' d hm; omega
      simp -implicitDefEqProofs only [dn_ret, dn_goto, iexec, evI_0, evI_succ, evI_int, evI_bool, evI_nilsl, evI_nilp, List.cons_append, List.nil_append, scal2_sc, abin, aun, ilift_some, Option.map_some, Option.map_none, decide_eq_true_eq, List.map_cons, List.map_nil, reduceIte, if_true, if_false, Bool.false_eq_true, inew, iload, istore, iwr, ird, icells, ione, one, List.getElem?_toArray, List.getElem?_cons_zero, List.getElem?_cons_succ, List.push_toArray, List.size_toArray, List.length_cons, List.length_nil, List.setIfInBounds_toArray, List.set_cons_zero, List.set_cons_succ, isplice_cons, List.drop_succ_cons, List.drop_zero, List.take_succ_cons, List.take_zero, List.drop_nil, List.take_nil, List.append_nil, List.all_cons, List.all_nil, Bool.and_true, Bool.true_and, Bool.and_self, Nat.zero_add, Nat.add_zero, Nat.reduceAdd, Nat.reduceLeDiff, Nat.reduceMul, Nat.le_refl, true_and, and_true, and_self, List.getElem?_nil, BI_zc, BI_zv, BI_co, zcT, zvT, coT, not_true_eq_false, not_false_eq_true, Bool.not_true, Bool.not_false, stepI', wantsI, ifill, ievs, Nat.reduceEqDiff, itup, Nat.le_add_left, Nat.le_add_right, iaggEq, List.foldl, iminI, iminF, imin2, min2, iisNil, isNil, ilen, Option.isNone_none, Option.isNone_some, Nat.zero_le, decide_true, decide_false, ireps, List.replicate, List.flatten_cons, List.flatten_nil, ichk, itouch, ctouch, ilooks, isame, untouched, Option.isSome_some, Bool.or_true, Bool.true_or, List.contains_nil, Int.reduceLT, Int.reduceLE, blkOf, IntKind.bits, iasNat, asNat, Int.toNat_natCast, Int.natCast_nonneg, List.length_map, Int.reduceToNat, iscells, ibnd, islice, capOf, Option.isSome_none, Bool.false_and, Bool.and_false, Bool.or_false, Bool.false_or, bne_self_eq_false, Nat.not_lt_zero, Nat.mul_one, Nat.one_mul, Nat.zero_mul, Nat.mul_zero, beq_self_eq_true, Nat.sub_zero, Nat.reduceSub, List.length_set, false_implies, implies_true, forall_const, ↓dnW_oca, Nat.reduceLT, evI_fn, Nat.zero_lt_one, dnW_o, dnW_om, dnW_oc, dnW_ite, dnW_join, thenD_some, thenD_ite, onIfD_bool, onJoinD_out, onJoinD_ret, onJoinD_ite, Int.reduceEq, WP_some, WP_ite, byOut_goto, byOut_ret, ↓iexec_len, ↓iexec_iaddr, ↓iexec_append, ↓iexec_store, storeF_ptr, lenF_nil, lenF_lst, lenF_sl, lenF_str, iaddrF_sl, iaddrF_lst, hb22, ↓k1.one, ↓k1.icells, hw]
      have hf := Fr.set J2 (IB.cells 0 [x1, x2'] false) (b := b2) (S := [b2]) (by simp)
      have hlt2 := lt_get hb22
      have n2x : b2 ∉ blk x2' := fun hm => by
        rcases k3 b2 hm with h | h
        · exact hS0.n2.2.1 h
        · have := lt_get h02; omega
      have n2l : b2 ∉ blk l' := fun hm => by
        rcases m3 b2 hm with h | h
        · exact hS0.n2.2.2 h
        · have := lt_get hb2; omega
      have h01 := hS0.h1
      have hb11 : J2[b1]? = some (.cells 0 [.sc (.slice none 0 0), .sc (.slice none 0 0)] false) := by
        have h1' : J1[b1]? = J0[b1]? := k2.2 b1 (lt_get h01) hS0.n1.2.1
        rw [m2.2 b1 (by have := lt_get h01; have := k2.1; omega) hS0.n1.2.2, h1', h01]
      have n1x : b1 ∉ blk x2' := fun hm => by
        rcases k3 b1 hm with h | h
        · exact hS0.n1.2.1 h
        · have := lt_get h01; omega
      have n1l : b1 ∉ blk l' := fun hm => by
        rcases m3 b1 hm with h | h
        · exact hS0.n1.2.2 h
        · have := lt_get h01; have := k2.1; omega
      have hx1 : Grow J2 x1 1 c1 := (hS0.g1.fr k2 hS0.d12).fr m2 hS0.d13
      refine h1 h h8 x2' l' _ ⟨?_, by simp [hlt2], hx1.fr hf fun d hd hm => ?_, hx2'.fr hf fun d hd hm => ?_, m1.fr hf fun d hd hm => ?_, hS0.ne, ⟨hS0.n1.1, n1x, n1l⟩, ⟨hS0.n2.1, n2x, n2l⟩, fun d hd hm => ?_, fun d hd hm => ?_, fun d hd hm => ?_⟩
      · rw [hf.2 b1 (lt_get hb11) (by simpa using hS0.ne)]; exact hb11
      · rw [List.mem_singleton] at hm; exact hS0.n2.1 (hm ▸ hd)
      · rw [List.mem_singleton] at hm; exact n2x (hm ▸ hd)
      · rw [List.mem_singleton] at hm; exact n2l (hm ▸ hd)
      · rcases k3 d hm with h | h
        · exact hS0.d12 d hd h
        · have := hS0.g1.low d hd; omega
      · rcases m3 d hm with h | h
        · exact hS0.d13 d hd h
        · have := hS0.g1.low d hd; have := k2.1; omega
      · rcases m3 d hm with h | h
        · rcases k3 d hd with h4 | h4
          · exact hS0.d23 d h4 h
          · have := hl3' d h; omega
        · have := k1.low d hd; omega
    · simp -implicitDefEqProofs only [dn_ret, dn_goto, iexec, evI_0, evI_succ, evI_int, evI_bool, evI_nilsl, evI_nilp, List.cons_append, List.nil_append, scal2_sc, abin, aun, ilift_some, Option.map_some, Option.map_none, decide_eq_true_eq, List.map_cons, List.map_nil, reduceIte, if_true, if_false, Bool.false_eq_true, inew, iload, istore, iwr, ird, icells, ione, one, List.getElem?_toArray, List.getElem?_cons_zero, List.getElem?_cons_succ, List.push_toArray, List.size_toArray, List.length_cons, List.length_nil, List.setIfInBounds_toArray, List.set_cons_zero, List.set_cons_succ, isplice_cons, List.drop_succ_cons, List.drop_zero, List.take_succ_cons, List.take_zero, List.drop_nil, List.take_nil, List.append_nil, List.all_cons, List.all_nil, Bool.and_true, Bool.true_and, Bool.and_self, Nat.zero_add, Nat.add_zero, Nat.reduceAdd, Nat.reduceLeDiff, Nat.reduceMul, Nat.le_refl, true_and, and_true, and_self, List.getElem?_nil, BI_zc, BI_zv, BI_co, zcT, zvT, coT, not_true_eq_false, not_false_eq_true, Bool.not_true, Bool.not_false, stepI', wantsI, ifill, ievs, Nat.reduceEqDiff, itup, Nat.le_add_left, Nat.le_add_right, iaggEq, List.foldl, iminI, iminF, imin2, min2, iisNil, isNil, ilen, Option.isNone_none, Option.isNone_some, Nat.zero_le, decide_true, decide_false, ireps, List.replicate, List.flatten_cons, List.flatten_nil, ichk, itouch, ctouch, ilooks, isame, untouched, Option.isSome_some, Bool.or_true, Bool.true_or, List.contains_nil, Int.reduceLT, Int.reduceLE, blkOf, IntKind.bits, iasNat, asNat, Int.toNat_natCast, Int.natCast_nonneg, List.length_map, Int.reduceToNat, iscells, ibnd, islice, capOf, Option.isSome_none, Bool.false_and, Bool.and_false, Bool.or_false, Bool.false_or, bne_self_eq_false, Nat.not_lt_zero, Nat.mul_one, Nat.one_mul, Nat.zero_mul, Nat.mul_zero, beq_self_eq_true, Nat.sub_zero, Nat.reduceSub, List.length_set, false_implies, implies_true, forall_const, ↓dnW_oca, Nat.reduceLT, evI_fn, Nat.zero_lt_one, dnW_o, dnW_om, dnW_oc, dnW_ite, dnW_join, thenD_some, thenD_ite, onIfD_bool, onJoinD_out, onJoinD_ret, onJoinD_ite, Int.reduceEq, WP_some, WP_ite, byOut_goto, byOut_ret, ↓iexec_len, ↓iexec_iaddr, ↓iexec_append, ↓iexec_store, storeF_ptr, lenF_nil, lenF_lst, lenF_sl, lenF_str, iaddrF_sl, iaddrF_lst, show ((i : Int) < (fs.length : Int)) by omega, hea, show ¬ ((i : Int) < 8) by omega, push_set, push_at, hw]
      exact h3 h h8 _ hS0
  · unfold l_law18_few_k1
    simp -implicitDefEqProofs only [dn_ret, dn_goto, iexec, evI_0, evI_succ, evI_int, evI_bool, evI_nilsl, evI_nilp, List.cons_append, List.nil_append, scal2_sc, abin, aun, ilift_some, Option.map_some, Option.map_none, decide_eq_true_eq, List.map_cons, List.map_nil, reduceIte, if_true, if_false, Bool.false_eq_true, inew, iload, istore, iwr, ird, icells, ione, one, List.getElem?_toArray, List.getElem?_cons_zero, List.getElem?_cons_succ, List.push_toArray, List.size_toArray, List.length_cons, List.length_nil, List.setIfInBounds_toArray, List.set_cons_zero, List.set_cons_succ, isplice_cons, List.drop_succ_cons, List.drop_zero, List.take_succ_cons, List.take_zero, List.drop_nil, List.take_nil, List.append_nil, List.all_cons, List.all_nil, Bool.and_true, Bool.true_and, Bool.and_self, Nat.zero_add, Nat.add_zero, Nat.reduceAdd, Nat.reduceLeDiff, Nat.reduceMul, Nat.le_refl, true_and, and_true, and_self, List.getElem?_nil, BI_zc, BI_zv, BI_co, zcT, zvT, coT, not_true_eq_false, not_false_eq_true, Bool.not_true, Bool.not_false, stepI', wantsI, ifill, ievs, Nat.reduceEqDiff, itup, Nat.le_add_left, Nat.le_add_right, iaggEq, List.foldl, iminI, iminF, imin2, min2, iisNil, isNil, ilen, Option.isNone_none, Option.isNone_some, Nat.zero_le, decide_true, decide_false, ireps, List.replicate, List.flatten_cons, List.flatten_nil, ichk, itouch, ctouch, ilooks, isame, untouched, Option.isSome_some, Bool.or_true, Bool.true_or, List.contains_nil, Int.reduceLT, Int.reduceLE, blkOf, IntKind.bits, iasNat, asNat, Int.toNat_natCast, Int.natCast_nonneg, List.length_map, Int.reduceToNat, iscells, ibnd, islice, capOf, Option.isSome_none, Bool.false_and, Bool.and_false, Bool.or_false, Bool.false_or, bne_self_eq_false, Nat.not_lt_zero, Nat.mul_one, Nat.one_mul, Nat.zero_mul, Nat.mul_zero, beq_self_eq_true, Nat.sub_zero, Nat.reduceSub, List.length_set, false_implies, implies_true, forall_const, ↓dnW_oca, Nat.reduceLT, evI_fn, Nat.zero_lt_one, dnW_o, dnW_om, dnW_oc, dnW_ite, dnW_join, thenD_some, thenD_ite, onIfD_bool, onJoinD_out, onJoinD_ret, onJoinD_ite, Int.reduceEq, WP_some, WP_ite, byOut_goto, byOut_ret, ↓iexec_len, ↓iexec_iaddr, ↓iexec_append, ↓iexec_store, storeF_ptr, lenF_nil, lenF_lst, lenF_sl, lenF_str, iaddrF_sl, iaddrF_lst, show ¬ ((i : Int) < (fs.length : Int)) by omega]
    exact h0 (by omega)
end Go.Proofs.Ytohclaopcejjnaa.G
namespace Go.Proofs.Ytohclaopcejjnaa.G
open Go
set_option linter.unusedSimpArgs false
set_option linter.unusedVariables false
theorem BsA.snoc : ∀ {X P x p}, BsA X P → Bs x p → BsA (X ++ [x]) (P ++ [p])
  | [], [], _, _, _, h => ⟨h, trivial⟩
  | _ :: _, _ :: _, _, _, h, k => ⟨h.1, BsA.snoc h.2 k⟩
  | [], _ :: _, _, _, h, _ => h.elim
  | _ :: _, [], _, _, h, _ => h.elim
theorem LsR.one {α : Type} {sz : Nat} {R : IV → α → Prop} {x : IV} {as : List α} (h : LsR sz R x as) : ione x = true := h.choose_spec.1.one
def fcells (fs : List FaultT) : List (List IV) := fs.map FaultT.cells
theorem fcells_3 (fs : List FaultT) : ∀ x ∈ fcells fs, x.length = 3 := fun x hx => by
  obtain ⟨f, _, rfl⟩ := List.mem_map.1 hx
  rfl
theorem fcells_pure : ∀ (fs : List FaultT), ipureL (fcells fs).flatten = true
  | [] => rfl
  | f :: fs => by
    have := fcells_pure fs
    unfold fcells at this ⊢
    simp [FaultT.cells, ipureL, ipure, this]
theorem fcells_one : ∀ (fs : List FaultT), (fcells fs).flatten.all ione = true
  | [] => rfl
  | f :: fs => by
    have := fcells_one fs
    unfold fcells at this ⊢
    rw [List.map_cons, List.flatten_cons, List.all_append, this]
    rfl
theorem Grow.faults {J : JH} {s : IV} {fs : List FaultT} (h : Grow J s 3 (fcells fs).flatten) (hok : ∀ f ∈ fs, f.ok) : ∃ u, (∀ k, frz J (k + 1) s = some u) ∧ LsR 3 FR u fs := by
  obtain ⟨u, hu, hl⟩ := h.frzX (fcells_3 fs) (by omega) (fcells_pure fs) (fcells_one fs)
  refine ⟨u, hu, _, hl, by simp [fcells], fun i h h' => ?_⟩
  simp only [fcells, List.map_map, List.getElem_map, Function.comp]
  exact ⟨rfl, hok _ (List.getElem_mem h')⟩
theorem few_ok (fr fa : IV) (ps : List (List Int)) (fs : List FaultT) (hfr : LsR 1 Bs fr ps) (hfa : LsR 3 FR fa fs) (hl : ∀ p ∈ ps, p.length ≤ 9223372036854775807) (hps : ps.length ≤ 9223372036854775807) (hfs : fs.length ≤ 9223372036854775807) :
    ∃ fr' fa' l', pc BI F_law18_few [.agg [fr, fa]] = some (.tup [.agg [fr', fa'], l']) ∧ LsR 1 Bs fr' ((ps.take 8).map (·.take 40)) ∧ LsR 3 FR fa' (fs.take 8) ∧ LsR 3 FR l' (fs.take 8) := by
  have hok : ∀ f ∈ fs.take 8, f.ok := fun f hf => by
    obtain ⟨i, hi, rfl⟩ := List.mem_iff_getElem.1 (List.mem_of_mem_take hf)
    obtain ⟨e, he, _⟩ := hfa.at hi
    exact he.2
  have key : ∃ u, pc BI F_law18_few [.agg [fr, fa]] = some u ∧ ∃ fr' fa' l', u = .tup [.agg [fr', fa'], l'] ∧ LsR 1 Bs fr' ((ps.take 8).map (·.take 40)) ∧ LsR 3 FR fa' (fs.take 8) ∧ LsR 3 FR l' (fs.take 8) := by
    refine pcW fn_law18_few rfl fun K hK => ?_
    have o1 := hfr.one
    have o2 := hfa.one
    have hl2 := fun J => hfa.lenF (J := J)
    unfold l_law18_few
    simp -implicitDefEqProofs only [dn_ret, dn_goto, iexec, evI_0, evI_succ, evI_int, evI_bool, evI_nilsl, evI_nilp, List.cons_append, List.nil_append, scal2_sc, abin, aun, ilift_some, Option.map_some, Option.map_none, decide_eq_true_eq, List.map_cons, List.map_nil, reduceIte, if_true, if_false, Bool.false_eq_true, inew, iload, istore, iwr, ird, icells, ione, one, List.getElem?_toArray, List.getElem?_cons_zero, List.getElem?_cons_succ, List.push_toArray, List.size_toArray, List.length_cons, List.length_nil, List.setIfInBounds_toArray, List.set_cons_zero, List.set_cons_succ, isplice_cons, List.drop_succ_cons, List.drop_zero, List.take_succ_cons, List.take_zero, List.drop_nil, List.take_nil, List.append_nil, List.all_cons, List.all_nil, Bool.and_true, Bool.true_and, Bool.and_self, Nat.zero_add, Nat.add_zero, Nat.reduceAdd, Nat.reduceLeDiff, Nat.reduceMul, Nat.le_refl, true_and, and_true, and_self, List.getElem?_nil, BI_zc, BI_zv, BI_co, zcT, zvT, coT, not_true_eq_false, not_false_eq_true, Bool.not_true, Bool.not_false, stepI', wantsI, ifill, ievs, Nat.reduceEqDiff, itup, Nat.le_add_left, Nat.le_add_right, iaggEq, List.foldl, iminI, iminF, imin2, min2, iisNil, isNil, ilen, Option.isNone_none, Option.isNone_some, Nat.zero_le, decide_true, decide_false, ireps, List.replicate, List.flatten_cons, List.flatten_nil, ichk, itouch, ctouch, ilooks, isame, untouched, Option.isSome_some, Bool.or_true, Bool.true_or, List.contains_nil, Int.reduceLT, Int.reduceLE, blkOf, IntKind.bits, iasNat, asNat, Int.toNat_natCast, Int.natCast_nonneg, List.length_map, Int.reduceToNat, iscells, ibnd, islice, capOf, Option.isSome_none, Bool.false_and, Bool.and_false, Bool.or_false, Bool.false_or, bne_self_eq_false, Nat.not_lt_zero, Nat.mul_one, Nat.one_mul, Nat.zero_mul, Nat.mul_zero, beq_self_eq_true, Nat.sub_zero, Nat.reduceSub, List.length_set, false_implies, implies_true, forall_const, ↓dnW_oca, Nat.reduceLT, evI_fn, Nat.zero_lt_one, dnW_o, dnW_om, dnW_oc, dnW_ite, dnW_join, thenD_some, thenD_ite, onIfD_bool, onJoinD_out, onJoinD_ret, onJoinD_ite, Int.reduceEq, WP_some, WP_ite, byOut_goto, byOut_ret, ↓iexec_len, ↓iexec_iaddr, ↓iexec_append, ↓iexec_store, storeF_ptr, lenF_nil, lenF_lst, lenF_sl, lenF_str, iaddrF_sl, iaddrF_lst, ↓o1, ↓o2, hfr.lenF, dn_loop]
    refine WP_loop (by decide) (fun m vs J => ∃ (i : Nat) (x1 : IV) (c1 : List IV), i + m = ps.length ∧ vs = [.ptr 0 0 0, .ptr 1 0 0, .ptr 2 0 0, fr, .int .i64 ((ps.length : Nat) : Int), .int .i64 (i : Int)] ∧ J[0]? = some (.cells 0 [fr, fa] false) ∧ 0 ∉ blk x1 ∧ FewS J 1 2 x1 (.sc (.slice none 0 0)) (.sc (.slice none 0 0)) c1 [] [] ∧ BsA c1 (((ps.take i).take 8).map (·.take 40))) ?_ ps.length _ _ ⟨0, _, [], by omega, rfl, rfl, by simp [blk, blkOf], ⟨rfl, rfl, .nil, .nil, .nil, by decide, by simp [blk, blkOf], by simp [blk, blkOf], by simp [Disj, blk, blkOf], by simp [Disj, blk, blkOf], by simp [Disj, blk, blkOf]⟩, trivial⟩
    rintro m vs J ⟨i, x1, c1, hi, rfl, h0, hn0, hS, hB⟩ K1 g1 g2 g3
    have hcl := hB.len
    simp only [List.length_map, List.length_take] at hcl
    refine few_step0 0 1 2 i fr x1 _ ps hfr hl (by omega) hps J hS.h2 c1 hS.g1 (by omega) hS.n2.1 K1 (fun he => ?_) (fun h h8 x1' y J' hy hg hb2 hn2 hf hlow => ?_) (fun h h8 => ?_)
    · refine g2 _ _ ?_
      rw [List.take_of_length_le (show ps.length ≤ i by omega)] at hB
      unfold l_law18_few_k3
      simp -implicitDefEqProofs only [dn_ret, dn_goto, iexec, evI_0, evI_succ, evI_int, evI_bool, evI_nilsl, evI_nilp, List.cons_append, List.nil_append, scal2_sc, abin, aun, ilift_some, Option.map_some, Option.map_none, decide_eq_true_eq, List.map_cons, List.map_nil, reduceIte, if_true, if_false, Bool.false_eq_true, inew, iload, istore, iwr, ird, icells, ione, one, List.getElem?_toArray, List.getElem?_cons_zero, List.getElem?_cons_succ, List.push_toArray, List.size_toArray, List.length_cons, List.length_nil, List.setIfInBounds_toArray, List.set_cons_zero, List.set_cons_succ, isplice_cons, List.drop_succ_cons, List.drop_zero, List.take_succ_cons, List.take_zero, List.drop_nil, List.take_nil, List.append_nil, List.all_cons, List.all_nil, Bool.and_true, Bool.true_and, Bool.and_self, Nat.zero_add, Nat.add_zero, Nat.reduceAdd, Nat.reduceLeDiff, Nat.reduceMul, Nat.le_refl, true_and, and_true, and_self, List.getElem?_nil, BI_zc, BI_zv, BI_co, zcT, zvT, coT, not_true_eq_false, not_false_eq_true, Bool.not_true, Bool.not_false, stepI', wantsI, ifill, ievs, Nat.reduceEqDiff, itup, Nat.le_add_left, Nat.le_add_right, iaggEq, List.foldl, iminI, iminF, imin2, min2, iisNil, isNil, ilen, Option.isNone_none, Option.isNone_some, Nat.zero_le, decide_true, decide_false, ireps, List.replicate, List.flatten_cons, List.flatten_nil, ichk, itouch, ctouch, ilooks, isame, untouched, Option.isSome_some, Bool.or_true, Bool.true_or, List.contains_nil, Int.reduceLT, Int.reduceLE, blkOf, IntKind.bits, iasNat, asNat, Int.toNat_natCast, Int.natCast_nonneg, List.length_map, Int.reduceToNat, iscells, ibnd, islice, capOf, Option.isSome_none, Bool.false_and, Bool.and_false, Bool.or_false, Bool.false_or, bne_self_eq_false, Nat.not_lt_zero, Nat.mul_one, Nat.one_mul, Nat.zero_mul, Nat.mul_zero, beq_self_eq_true, Nat.sub_zero, Nat.reduceSub, List.length_set, false_implies, implies_true, forall_const, ↓dnW_oca, Nat.reduceLT, evI_fn, Nat.zero_lt_one, dnW_o, dnW_om, dnW_oc, dnW_ite, dnW_join, thenD_some, thenD_ite, onIfD_bool, onJoinD_out, onJoinD_ret, onJoinD_ite, Int.reduceEq, WP_some, WP_ite, byOut_goto, byOut_ret, ↓iexec_len, ↓iexec_iaddr, ↓iexec_append, ↓iexec_store, storeF_ptr, lenF_nil, lenF_lst, lenF_sl, lenF_str, iaddrF_sl, iaddrF_lst, h0, hl2, dn_loop]
      refine WP_loop (by decide) (fun m vs J => ∃ (i : Nat) (x2 l : IV), i + m = fs.length ∧ vs = [.ptr 1 0 0, .ptr 2 0 0, l, fa, .int .i64 ((fs.length : Nat) : Int), .int .i64 (i : Int)] ∧ FewS J 1 2 x1 x2 l c1 (fcells ((fs.take i).take 8)).flatten (fcells ((fs.take i).take 8)).flatten) ?_ fs.length _ _ ⟨0, _, _, by omega, rfl, hS⟩
      rintro m vs J ⟨i, x2, l, hi, rfl, hS⟩ K2 k1 k2 k3
      have hfl : (fcells ((fs.take i).take 8)).flatten.length ≤ 24 := by
        rw [flat_len (fcells_3 _)]; simp [fcells]; omega
      refine few_step1 1 2 i fa x1 x2 l fs hfa (by omega) hfs J c1 _ _ hS (by omega) (by omega) K2 (fun he => ?_) (fun h h8 x2' l' J' hS' => ?_) (fun h h8 J' hS' => ?_)
      · refine k2 _ _ ?_
        rw [List.take_of_length_le (show fs.length ≤ i by omega)] at hS
        have e1 := hS.h1
        have e2 := hS.h2
        have p1 := hS.g1.one
        have p2 := hS.g2.one
        unfold l_law18_few_k2
        have es : (J.setIfInBounds 1 (IB.cells 0 [x1, x2] false))[1]? = some (IB.cells 0 [x1, x2] false) := by simp [lt_get e1]
        simp -implicitDefEqProofs only [dn_ret, dn_goto, iexec, evI_0, evI_succ, evI_int, evI_bool, evI_nilsl, evI_nilp, List.cons_append, List.nil_append, scal2_sc, abin, aun, ilift_some, Option.map_some, Option.map_none, decide_eq_true_eq, List.map_cons, List.map_nil, reduceIte, if_true, if_false, Bool.false_eq_true, inew, iload, istore, iwr, ird, icells, ione, one, List.getElem?_toArray, List.getElem?_cons_zero, List.getElem?_cons_succ, List.push_toArray, List.size_toArray, List.length_cons, List.length_nil, List.setIfInBounds_toArray, List.set_cons_zero, List.set_cons_succ, isplice_cons, List.drop_succ_cons, List.drop_zero, List.take_succ_cons, List.take_zero, List.drop_nil, List.take_nil, List.append_nil, List.all_cons, List.all_nil, Bool.and_true, Bool.true_and, Bool.and_self, Nat.zero_add, Nat.add_zero, Nat.reduceAdd, Nat.reduceLeDiff, Nat.reduceMul, Nat.le_refl, true_and, and_true, and_self, List.getElem?_nil, BI_zc, BI_zv, BI_co, zcT, zvT, coT, not_true_eq_false, not_false_eq_true, Bool.not_true, Bool.not_false, stepI', wantsI, ifill, ievs, Nat.reduceEqDiff, itup, Nat.le_add_left, Nat.le_add_right, iaggEq, List.foldl, iminI, iminF, imin2, min2, iisNil, isNil, ilen, Option.isNone_none, Option.isNone_some, Nat.zero_le, decide_true, decide_false, ireps, List.replicate, List.flatten_cons, List.flatten_nil, ichk, itouch, ctouch, ilooks, isame, untouched, Option.isSome_some, Bool.or_true, Bool.true_or, List.contains_nil, Int.reduceLT, Int.reduceLE, blkOf, IntKind.bits, iasNat, asNat, Int.toNat_natCast, Int.natCast_nonneg, List.length_map, Int.reduceToNat, iscells, ibnd, islice, capOf, Option.isSome_none, Bool.false_and, Bool.and_false, Bool.or_false, Bool.false_or, bne_self_eq_false, Nat.not_lt_zero, Nat.mul_one, Nat.one_mul, Nat.zero_mul, Nat.mul_zero, beq_self_eq_true, Nat.sub_zero, Nat.reduceSub, List.length_set, false_implies, implies_true, forall_const, ↓dnW_oca, Nat.reduceLT, evI_fn, Nat.zero_lt_one, dnW_o, dnW_om, dnW_oc, dnW_ite, dnW_join, thenD_some, thenD_ite, onIfD_bool, onJoinD_out, onJoinD_ret, onJoinD_ite, Int.reduceEq, WP_some, WP_ite, byOut_goto, byOut_ret, ↓iexec_len, ↓iexec_iaddr, ↓iexec_append, ↓iexec_store, storeF_ptr, lenF_nil, lenF_lst, lenF_sl, lenF_str, iaddrF_sl, iaddrF_lst, e1, e2, ↓p1, ↓p2, es]
        have hf := Fr.set J (IB.cells 0 [x1, x2] false) (b := 1) (S := [1]) (by simp)
        obtain ⟨u1, hu1, hul1⟩ := (hS.g1.fr hf fun d hd hm => by rw [List.mem_singleton] at hm; exact hS.n1.1 (hm ▸ hd)).frzE1 hB.pure hB.one
        obtain ⟨u2, hu2, hul2⟩ := (hS.g2.fr hf fun d hd hm => by rw [List.mem_singleton] at hm; exact hS.n1.2.1 (hm ▸ hd)).faults hok
        obtain ⟨u3, hu3, hul3⟩ := (hS.g3.fr hf fun d hd hm => by rw [List.mem_singleton] at hm; exact hS.n1.2.2 (hm ▸ hd)).faults hok
        refine hK _ _ (.tup [.agg [u1, u2], u3]) ?_ ⟨u1, u2, u3, rfl, hB.lsr hul1, hul2, hul3⟩
        have h10 : frz (J.setIfInBounds 1 (IB.cells 0 [x1, x2] false)) 11 (.agg [x1, x2]) = some (.agg [u1, u2]) := frz_aggL (k := 10) (by simp [List.mapM_cons, hu1 9, hu2 9])
        exact frz_tupL (k := 11) (by simp [List.mapM_cons, h10, hu3 10])
      · refine k1 _ (m - 1) _ (by omega) ⟨i + 1, x2', l', by omega, rfl, ?_⟩
        have : (fcells ((fs.take (i + 1)).take 8)).flatten = (fcells ((fs.take i).take 8)).flatten ++ fs[i].cells := by
          rw [List.take_take, List.take_take, Nat.min_eq_right (by omega), Nat.min_eq_right (by omega), List.take_succ_eq_append_getElem h]
          simp only [fcells, List.map_append, List.flatten_append, List.map_cons, List.map_nil, List.flatten_cons, List.flatten_nil, List.append_nil]
        rw [this]
        exact hS'
      · refine k1 _ (m - 1) _ (by omega) ⟨i + 1, x2, l, by omega, rfl, ?_⟩
        rw [List.take_take, Nat.min_eq_left (by omega)] at hS' ⊢
        exact hS'
    · refine g1 _ (m - 1) _ (by omega) ⟨i + 1, x1', _, by omega, rfl, ?_, ?_, ⟨?_, hb2, hg, .nil, .nil, by decide, ?_, ⟨hn2, by simp [blk, blkOf], by simp [blk, blkOf]⟩, by simp [Disj, blk, blkOf], by simp [Disj, blk, blkOf], by simp [Disj, blk, blkOf]⟩, ?_⟩
      · rw [hf.2 0 (lt_get h0) (by simpa using hn0)]; exact h0
      · intro hm
        rcases hlow 0 hm with h | h
        · exact hn0 h
        · have := lt_get h0; omega
      · rw [hf.2 1 (lt_get hS.h1) (by simpa using hS.n1.1)]; exact hS.h1
      · refine ⟨fun hm => ?_, by simp [blk, blkOf], by simp [blk, blkOf]⟩
        rcases hlow 1 hm with h | h
        · exact hS.n1.1 h
        · have := lt_get hS.h1; omega
      · have : ((ps.take (i + 1)).take 8).map (fun x => x.take 40) = ((ps.take i).take 8).map (fun x => x.take 40) ++ [ps[i].take 40] := by
          rw [List.take_take, List.take_take, Nat.min_eq_right (by omega), Nat.min_eq_right (by omega), List.take_succ_eq_append_getElem h, List.map_append]
          rfl
        rw [this]
        exact hB.snoc hy
    · refine g1 _ (m - 1) _ (by omega) ⟨i + 1, x1, c1, by omega, rfl, h0, hn0, hS, ?_⟩
      rw [List.take_take, Nat.min_eq_left (by omega)] at hB ⊢
      exact hB
  obtain ⟨u, hu, fr', fa', l', rfl, h1, h2, h3⟩ := key
  exact ⟨fr', fa', l', hu, h1, h2, h3⟩
end Go.Proofs.Ytohclaopcejjnaa.G
namespace Go.Proofs.Ytohclaopcejjnaa.G
open Go
set_option linter.unusedSimpArgs false
set_option linter.unusedVariables false
/-- What was taken stays as it is, whatever becomes of the wire. -/
def Held (J : JH) (b : Nat) (s out : IV) (xs : List IV) : Prop := Grow J out 1 xs ∧ b ∉ blk out ∧ Disj out s
theorem Held.upd {J J' : JH} {b : Nat} {s s' out : IV} {xs : List IV} (h : Held J b s out xs) (u : Upd b J s J' s') : Held J' b s' out xs := by
  obtain ⟨h1, h2, h3⟩ := h
  refine ⟨h1.fr u.1 fun d hd hm => ?_, h2, fun d hd hm => ?_⟩
  · rcases List.mem_cons.1 hm with rfl | hm
    · exact h2 hd
    · exact h3 d hd hm
  · rcases u.2 d hm with h | h
    · exact h3 d hd h
    · have := h1.low d hd; omega
theorem Take_held (b : Nat) (s : IV) (E : List (List Int × Int)) (J : JH) (hW : WireAt J b s E) (hE : ∀ e ∈ E, 0 ≤ e.2 ∧ e.2 ≤ 1000) (hl : E.length ≤ 100000) :
    RP (ic BI F_wire_Wire_Take [.ptr b 0 0] J) fun out J' => ∃ s' xs, WireAt J' b s' (takeE E) ∧ Held J' b s' out xs ∧ BsA xs (nowE E) ∧ Upd b J s J' s' := by
  refine RP_mono (Take_ok b s E J hW hE hl) fun out J' h => ?_
  obtain ⟨s', xs, h1, h2, h3, h4, h5, h6⟩ := h
  refine ⟨s', xs, h1, ⟨h2, fun hm => ?_, fun d hd hm => ?_⟩, h3, h4⟩
  · have := h6 b hm; have := lt_get hW.1; omega
  · have := h6 d hd
    obtain ⟨_, _, cs, hg, _⟩ := hW
    have := hg.low d (h5 d hm)
    omega
theorem pcs {f : FuncId} {args as : List IV} {r : Bool} {J : JH} (ha : args.mapM (frz J DEP) = some as) (hp : pc BI f as = some (.bool r)) : doCall (ic BI) .pure f args J = some (.bool r, J) := by
  rw [dcf ha hp]; rfl
/-- Lists of frames, compared. -/
theorem same_held {J : JH} {b : Nat} {s out y : IV} {xs : List IV} {P Q : List (List Int)} (h : Held J b s out xs) (hP : BsA xs P) (hy : LsR 1 Bs y Q) (hb : P.length ≤ 1000000) (hs : ∀ a ∈ P, a.length ≤ 1000000) : doCall (ic BI) .pure F_ref13_Same [out, y] J = some (.bool (decide (P = Q)), J) := by
  obtain ⟨u, hu, hl⟩ := h.1.frzE1 hP.pure hP.one
  refine pcs (as := [u, y]) ?_ (bSameL_ok (hP.lsr hl) hy hb hs)
  simp only [List.mapM_cons, List.mapM_nil, frz12, hu 11, frz_pure _ _ hy.pure]
  rfl
theorem BsA.lst {X : List IV} {P} (h : BsA X P) {f : Bool} : LsR 1 Bs (.lst 1 f X) P := h.lsr .lst
theorem faults1 (k : Nat) (hk : k < 256) : LsR 3 FR (.lst 3 true [.agg [.int .u8 k, .int .u16 0, .int .u32 0]]) [⟨k, 0, 0⟩] := ⟨_, .lst, rfl, fun i h h' => by
  have : i = 0 := by simp at h; omega
  subst this
  exact ⟨rfl, hk, by show (0 : Nat) < 65536; decide, by show (0 : Int) ≤ 0; decide, by show (0 : Int) < 4294967296; decide⟩⟩
theorem Late_ok {p q : IV} {lp lq : List Int} (hp : Bs p lp) (hq : Bs q lq) (h : Nat) (hh : h < 256) (hlp : lp.length ≤ 9223372036854775807) (hlq : lq.length ≤ 9223372036854775807) : pc BI F_law18_WireLate [p, q, .int .u8 h] = some (.bool true) := by
  obtain ⟨p', hp1, hp2⟩ := bCut_ok hp 20 hlp (by omega)
  obtain ⟨q', hq1, hq2⟩ := bCut_ok hq 20 hlq (by omega)
  have hp1' : pc BI F_ref01_Cut [p, .int .i64 20] = some p' := hp1
  have hq1' : pc BI F_ref01_Cut [q, .int .i64 20] = some q' := hq1
  have hpl : (lp.take 20).length ≤ 1000000 := by rw [List.length_take]; omega
  have hql : (lq.take 20).length ≤ 1000000 := by rw [List.length_take]; omega
  generalize lp.take 20 = P at *
  generalize lq.take 20 = Q at *
  have hm : ((h : Int).tmod 2) = 0 ∨ ((h : Int).tmod 2) = 1 := by rw [Int.tmod_eq_emod_of_nonneg (by omega)]; omega
  refine pcE fn_law18_WireLate rfl fun K hK => ?_
  have hPQ : BsA [p', q'] [P, Q] := ⟨hp2, hq2, trivial⟩
  have hQ1 : BsA [q'] [Q] := ⟨hq2, trivial⟩
  have hP1 : BsA [p'] [P] := ⟨hp2, trivial⟩
  unfold l_law18_WireLate
  rcases hm with hm | hm
  · simp -implicitDefEqProofs only [dn_ret, dn_goto, iexec, evI_0, evI_succ, evI_int, evI_bool, evI_nilsl, evI_nilp, List.cons_append, List.nil_append, scal2_sc, abin, aun, ilift_some, Option.map_some, Option.map_none, decide_eq_true_eq, List.map_cons, List.map_nil, reduceIte, if_true, if_false, Bool.false_eq_true, inew, iload, istore, iwr, ird, icells, ione, one, List.getElem?_toArray, List.getElem?_cons_zero, List.getElem?_cons_succ, List.push_toArray, List.size_toArray, List.length_cons, List.length_nil, List.setIfInBounds_toArray, List.set_cons_zero, List.set_cons_succ, isplice_cons, List.drop_succ_cons, List.drop_zero, List.take_succ_cons, List.take_zero, List.drop_nil, List.take_nil, List.append_nil, List.all_cons, List.all_nil, Bool.and_true, Bool.true_and, Bool.and_self, Nat.zero_add, Nat.add_zero, Nat.reduceAdd, Nat.reduceLeDiff, Nat.reduceMul, Nat.le_refl, true_and, and_true, and_self, List.getElem?_nil, BI_zc, BI_zv, BI_co, zcT, zvT, coT, not_true_eq_false, not_false_eq_true, Bool.not_true, Bool.not_false, stepI', wantsI, ifill, ievs, Nat.reduceEqDiff, itup, Nat.le_add_left, Nat.le_add_right, iaggEq, List.foldl, iminI, iminF, imin2, min2, iisNil, isNil, ilen, Option.isNone_none, Option.isNone_some, Nat.zero_le, decide_true, decide_false, ireps, List.replicate, List.flatten_cons, List.flatten_nil, ichk, itouch, ctouch, ilooks, isame, untouched, Option.isSome_some, Bool.or_true, Bool.true_or, List.contains_nil, Int.reduceLT, Int.reduceLE, blkOf, IntKind.bits, iasNat, asNat, Int.toNat_natCast, Int.natCast_nonneg, List.length_map, Int.reduceToNat, iscells, ibnd, islice, capOf, Option.isSome_none, Bool.false_and, Bool.and_false, Bool.or_false, Bool.false_or, bne_self_eq_false, Nat.not_lt_zero, Nat.mul_one, Nat.one_mul, Nat.zero_mul, Nat.mul_zero, beq_self_eq_true, Nat.sub_zero, Nat.reduceSub, List.length_set, false_implies, implies_true, forall_const, ↓dnW_oca, Nat.reduceLT, evI_fn, Nat.zero_lt_one, dnW_o, dnW_om, dnW_oc, dnW_ite, dnW_join, thenD_some, thenD_ite, onIfD_bool, onJoinD_out, onJoinD_ret, onJoinD_ite, Int.reduceEq, WP_some, WP_ite, byOut_goto, byOut_ret, ↓iexec_len, ↓iexec_iaddr, ↓iexec_append, ↓iexec_store, storeF_ptr, lenF_nil, lenF_lst, lenF_sl, lenF_str, iaddrF_sl, iaddrF_lst, dcp awake18 rfl, dcp hp1' (by simp [ipureL, hp.pure, ipure]), dcp hq1' (by simp [ipureL, hq.pure, ipure]), ipureL, ipure, grp, mkE, List.headD, one_lt_UNK, lt_UNK (show 2 ≤ 1000000 by omega), hm, ↓hp2.one, ↓hp2.icells, ↓hp2.pure, ↓hq2.one, ↓hq2.icells, ↓hq2.pure]
    refine WP_call (Put_ok 0 _ _ _ [P, Q] _ _ [IB.cells 0 [.sc (.slice none 0 0)] false].toArray (wire0 (J := #[])) hPQ.lst (faults1 3 (by omega)) (by simp; omega) (by simp) (by simp)) fun v J1 hs => ?_
    obtain ⟨s1, w1, _⟩ := hs
    have e1 : [] ++ putF [⟨3, 0, 0⟩] 0 [P, Q] = [(P, 1), (Q, 0)] := rfl
    rw [e1] at w1
    simp -implicitDefEqProofs only [dn_ret, dn_goto, iexec, evI_0, evI_succ, evI_int, evI_bool, evI_nilsl, evI_nilp, List.cons_append, List.nil_append, scal2_sc, abin, aun, ilift_some, Option.map_some, Option.map_none, decide_eq_true_eq, List.map_cons, List.map_nil, reduceIte, if_true, if_false, Bool.false_eq_true, inew, iload, istore, iwr, ird, icells, ione, one, List.getElem?_toArray, List.getElem?_cons_zero, List.getElem?_cons_succ, List.push_toArray, List.size_toArray, List.length_cons, List.length_nil, List.setIfInBounds_toArray, List.set_cons_zero, List.set_cons_succ, isplice_cons, List.drop_succ_cons, List.drop_zero, List.take_succ_cons, List.take_zero, List.drop_nil, List.take_nil, List.append_nil, List.all_cons, List.all_nil, Bool.and_true, Bool.true_and, Bool.and_self, Nat.zero_add, Nat.add_zero, Nat.reduceAdd, Nat.reduceLeDiff, Nat.reduceMul, Nat.le_refl, true_and, and_true, and_self, List.getElem?_nil, BI_zc, BI_zv, BI_co, zcT, zvT, coT, not_true_eq_false, not_false_eq_true, Bool.not_true, Bool.not_false, stepI', wantsI, ifill, ievs, Nat.reduceEqDiff, itup, Nat.le_add_left, Nat.le_add_right, iaggEq, List.foldl, iminI, iminF, imin2, min2, iisNil, isNil, ilen, Option.isNone_none, Option.isNone_some, Nat.zero_le, decide_true, decide_false, ireps, List.replicate, List.flatten_cons, List.flatten_nil, ichk, itouch, ctouch, ilooks, isame, untouched, Option.isSome_some, Bool.or_true, Bool.true_or, List.contains_nil, Int.reduceLT, Int.reduceLE, blkOf, IntKind.bits, iasNat, asNat, Int.toNat_natCast, Int.natCast_nonneg, List.length_map, Int.reduceToNat, iscells, ibnd, islice, capOf, Option.isSome_none, Bool.false_and, Bool.and_false, Bool.or_false, Bool.false_or, bne_self_eq_false, Nat.not_lt_zero, Nat.mul_one, Nat.one_mul, Nat.zero_mul, Nat.mul_zero, beq_self_eq_true, Nat.sub_zero, Nat.reduceSub, List.length_set, false_implies, implies_true, forall_const, ↓dnW_oca, Nat.reduceLT, evI_fn, Nat.zero_lt_one, dnW_o, dnW_om, dnW_oc, dnW_ite, dnW_join, thenD_some, thenD_ite, onIfD_bool, onJoinD_out, onJoinD_ret, onJoinD_ite, Int.reduceEq, WP_some, WP_ite, byOut_goto, byOut_ret, ↓iexec_len, ↓iexec_iaddr, ↓iexec_append, ↓iexec_store, storeF_ptr, lenF_nil, lenF_lst, lenF_sl, lenF_str, iaddrF_sl, iaddrF_lst]
    refine WP_call (Take_held 0 s1 _ J1 w1 (by simp) (by simp)) fun a J2 hs => ?_
    obtain ⟨s2, xa, w2, ha, ba, u2⟩ := hs
    have e2 : takeE [(P, 1), (Q, 0)] = [(P, 0)] := rfl
    have e3 : nowE [(P, 1), (Q, 0)] = [Q] := rfl
    rw [e2] at w2
    rw [e3] at ba
    simp -implicitDefEqProofs only [dn_ret, dn_goto, iexec, evI_0, evI_succ, evI_int, evI_bool, evI_nilsl, evI_nilp, List.cons_append, List.nil_append, scal2_sc, abin, aun, ilift_some, Option.map_some, Option.map_none, decide_eq_true_eq, List.map_cons, List.map_nil, reduceIte, if_true, if_false, Bool.false_eq_true, inew, iload, istore, iwr, ird, icells, ione, one, List.getElem?_toArray, List.getElem?_cons_zero, List.getElem?_cons_succ, List.push_toArray, List.size_toArray, List.length_cons, List.length_nil, List.setIfInBounds_toArray, List.set_cons_zero, List.set_cons_succ, isplice_cons, List.drop_succ_cons, List.drop_zero, List.take_succ_cons, List.take_zero, List.drop_nil, List.take_nil, List.append_nil, List.all_cons, List.all_nil, Bool.and_true, Bool.true_and, Bool.and_self, Nat.zero_add, Nat.add_zero, Nat.reduceAdd, Nat.reduceLeDiff, Nat.reduceMul, Nat.le_refl, true_and, and_true, and_self, List.getElem?_nil, BI_zc, BI_zv, BI_co, zcT, zvT, coT, not_true_eq_false, not_false_eq_true, Bool.not_true, Bool.not_false, stepI', wantsI, ifill, ievs, Nat.reduceEqDiff, itup, Nat.le_add_left, Nat.le_add_right, iaggEq, List.foldl, iminI, iminF, imin2, min2, iisNil, isNil, ilen, Option.isNone_none, Option.isNone_some, Nat.zero_le, decide_true, decide_false, ireps, List.replicate, List.flatten_cons, List.flatten_nil, ichk, itouch, ctouch, ilooks, isame, untouched, Option.isSome_some, Bool.or_true, Bool.true_or, List.contains_nil, Int.reduceLT, Int.reduceLE, blkOf, IntKind.bits, iasNat, asNat, Int.toNat_natCast, Int.natCast_nonneg, List.length_map, Int.reduceToNat, iscells, ibnd, islice, capOf, Option.isSome_none, Bool.false_and, Bool.and_false, Bool.or_false, Bool.false_or, bne_self_eq_false, Nat.not_lt_zero, Nat.mul_one, Nat.one_mul, Nat.zero_mul, Nat.mul_zero, beq_self_eq_true, Nat.sub_zero, Nat.reduceSub, List.length_set, false_implies, implies_true, forall_const, ↓dnW_oca, Nat.reduceLT, evI_fn, Nat.zero_lt_one, dnW_o, dnW_om, dnW_oc, dnW_ite, dnW_join, thenD_some, thenD_ite, onIfD_bool, onJoinD_out, onJoinD_ret, onJoinD_ite, Int.reduceEq, WP_some, WP_ite, byOut_goto, byOut_ret, ↓iexec_len, ↓iexec_iaddr, ↓iexec_append, ↓iexec_store, storeF_ptr, lenF_nil, lenF_lst, lenF_sl, lenF_str, iaddrF_sl, iaddrF_lst, ↓hq2.one, ↓hq2.icells, ↓hq2.pure, ipureL, ipure, grp, mkE, List.headD, one_lt_UNK]
    refine WP_call (Put_ok 0 s2 _ _ [Q] [] _ J2 w2 hQ1.lst .nil (by simp; omega) (by simp) (by simp)) fun v J3 hs => ?_
    obtain ⟨s3, w3, u3⟩ := hs
    have e4 : [(P, 0)] ++ putF [] 0 [Q] = [(P, (0 : Int)), (Q, 0)] := rfl
    rw [e4] at w3
    have ha3 := ha.upd u3
    simp -implicitDefEqProofs only [dn_ret, dn_goto, iexec, evI_0, evI_succ, evI_int, evI_bool, evI_nilsl, evI_nilp, List.cons_append, List.nil_append, scal2_sc, abin, aun, ilift_some, Option.map_some, Option.map_none, decide_eq_true_eq, List.map_cons, List.map_nil, reduceIte, if_true, if_false, Bool.false_eq_true, inew, iload, istore, iwr, ird, icells, ione, one, List.getElem?_toArray, List.getElem?_cons_zero, List.getElem?_cons_succ, List.push_toArray, List.size_toArray, List.length_cons, List.length_nil, List.setIfInBounds_toArray, List.set_cons_zero, List.set_cons_succ, isplice_cons, List.drop_succ_cons, List.drop_zero, List.take_succ_cons, List.take_zero, List.drop_nil, List.take_nil, List.append_nil, List.all_cons, List.all_nil, Bool.and_true, Bool.true_and, Bool.and_self, Nat.zero_add, Nat.add_zero, Nat.reduceAdd, Nat.reduceLeDiff, Nat.reduceMul, Nat.le_refl, true_and, and_true, and_self, List.getElem?_nil, BI_zc, BI_zv, BI_co, zcT, zvT, coT, not_true_eq_false, not_false_eq_true, Bool.not_true, Bool.not_false, stepI', wantsI, ifill, ievs, Nat.reduceEqDiff, itup, Nat.le_add_left, Nat.le_add_right, iaggEq, List.foldl, iminI, iminF, imin2, min2, iisNil, isNil, ilen, Option.isNone_none, Option.isNone_some, Nat.zero_le, decide_true, decide_false, ireps, List.replicate, List.flatten_cons, List.flatten_nil, ichk, itouch, ctouch, ilooks, isame, untouched, Option.isSome_some, Bool.or_true, Bool.true_or, List.contains_nil, Int.reduceLT, Int.reduceLE, blkOf, IntKind.bits, iasNat, asNat, Int.toNat_natCast, Int.natCast_nonneg, List.length_map, Int.reduceToNat, iscells, ibnd, islice, capOf, Option.isSome_none, Bool.false_and, Bool.and_false, Bool.or_false, Bool.false_or, bne_self_eq_false, Nat.not_lt_zero, Nat.mul_one, Nat.one_mul, Nat.zero_mul, Nat.mul_zero, beq_self_eq_true, Nat.sub_zero, Nat.reduceSub, List.length_set, false_implies, implies_true, forall_const, ↓dnW_oca, Nat.reduceLT, evI_fn, Nat.zero_lt_one, dnW_o, dnW_om, dnW_oc, dnW_ite, dnW_join, thenD_some, thenD_ite, onIfD_bool, onJoinD_out, onJoinD_ret, onJoinD_ite, Int.reduceEq, WP_some, WP_ite, byOut_goto, byOut_ret, ↓iexec_len, ↓iexec_iaddr, ↓iexec_append, ↓iexec_store, storeF_ptr, lenF_nil, lenF_lst, lenF_sl, lenF_str, iaddrF_sl, iaddrF_lst]
    refine WP_call (Take_held 0 s3 _ J3 w3 (by simp) (by simp)) fun b J4 hs => ?_
    obtain ⟨s4, xb, w4, hb, bb, u4⟩ := hs
    have e5 : takeE [(P, 0), (Q, 0)] = [] := rfl
    have e6 : nowE [(P, 0), (Q, 0)] = [P, Q] := rfl
    rw [e5] at w4
    rw [e6] at bb
    have ha4 := ha3.upd u4
    simp -implicitDefEqProofs only [dn_ret, dn_goto, iexec, evI_0, evI_succ, evI_int, evI_bool, evI_nilsl, evI_nilp, List.cons_append, List.nil_append, scal2_sc, abin, aun, ilift_some, Option.map_some, Option.map_none, decide_eq_true_eq, List.map_cons, List.map_nil, reduceIte, if_true, if_false, Bool.false_eq_true, inew, iload, istore, iwr, ird, icells, ione, one, List.getElem?_toArray, List.getElem?_cons_zero, List.getElem?_cons_succ, List.push_toArray, List.size_toArray, List.length_cons, List.length_nil, List.setIfInBounds_toArray, List.set_cons_zero, List.set_cons_succ, isplice_cons, List.drop_succ_cons, List.drop_zero, List.take_succ_cons, List.take_zero, List.drop_nil, List.take_nil, List.append_nil, List.all_cons, List.all_nil, Bool.and_true, Bool.true_and, Bool.and_self, Nat.zero_add, Nat.add_zero, Nat.reduceAdd, Nat.reduceLeDiff, Nat.reduceMul, Nat.le_refl, true_and, and_true, and_self, List.getElem?_nil, BI_zc, BI_zv, BI_co, zcT, zvT, coT, not_true_eq_false, not_false_eq_true, Bool.not_true, Bool.not_false, stepI', wantsI, ifill, ievs, Nat.reduceEqDiff, itup, Nat.le_add_left, Nat.le_add_right, iaggEq, List.foldl, iminI, iminF, imin2, min2, iisNil, isNil, ilen, Option.isNone_none, Option.isNone_some, Nat.zero_le, decide_true, decide_false, ireps, List.replicate, List.flatten_cons, List.flatten_nil, ichk, itouch, ctouch, ilooks, isame, untouched, Option.isSome_some, Bool.or_true, Bool.true_or, List.contains_nil, Int.reduceLT, Int.reduceLE, blkOf, IntKind.bits, iasNat, asNat, Int.toNat_natCast, Int.natCast_nonneg, List.length_map, Int.reduceToNat, iscells, ibnd, islice, capOf, Option.isSome_none, Bool.false_and, Bool.and_false, Bool.or_false, Bool.false_or, bne_self_eq_false, Nat.not_lt_zero, Nat.mul_one, Nat.one_mul, Nat.zero_mul, Nat.mul_zero, beq_self_eq_true, Nat.sub_zero, Nat.reduceSub, List.length_set, false_implies, implies_true, forall_const, ↓dnW_oca, Nat.reduceLT, evI_fn, Nat.zero_lt_one, dnW_o, dnW_om, dnW_oc, dnW_ite, dnW_join, thenD_some, thenD_ite, onIfD_bool, onJoinD_out, onJoinD_ret, onJoinD_ite, Int.reduceEq, WP_some, WP_ite, byOut_goto, byOut_ret, ↓iexec_len, ↓iexec_iaddr, ↓iexec_append, ↓iexec_store, storeF_ptr, lenF_nil, lenF_lst, lenF_sl, lenF_str, iaddrF_sl, iaddrF_lst]
    refine WP_call (Take_held 0 s4 _ J4 w4 (by simp) (by simp)) fun c J5 hs => ?_
    obtain ⟨s5, xc, w5, hc, bc, u5⟩ := hs
    have e7 : nowE [] = [] := rfl
    rw [e7] at bc
    have ha5 := ha4.upd u5
    have hb5 := hb.upd u5
    have hcl : ∀ J, lenF false c J = some (.int .i64 (0 : Nat), J) := fun J => hc.1.lenF (by rw [bc.len]; rfl) (by omega)
    simp -implicitDefEqProofs only [dn_ret, dn_goto, iexec, evI_0, evI_succ, evI_int, evI_bool, evI_nilsl, evI_nilp, List.cons_append, List.nil_append, scal2_sc, abin, aun, ilift_some, Option.map_some, Option.map_none, decide_eq_true_eq, List.map_cons, List.map_nil, reduceIte, if_true, if_false, Bool.false_eq_true, inew, iload, istore, iwr, ird, icells, ione, one, List.getElem?_toArray, List.getElem?_cons_zero, List.getElem?_cons_succ, List.push_toArray, List.size_toArray, List.length_cons, List.length_nil, List.setIfInBounds_toArray, List.set_cons_zero, List.set_cons_succ, isplice_cons, List.drop_succ_cons, List.drop_zero, List.take_succ_cons, List.take_zero, List.drop_nil, List.take_nil, List.append_nil, List.all_cons, List.all_nil, Bool.and_true, Bool.true_and, Bool.and_self, Nat.zero_add, Nat.add_zero, Nat.reduceAdd, Nat.reduceLeDiff, Nat.reduceMul, Nat.le_refl, true_and, and_true, and_self, List.getElem?_nil, BI_zc, BI_zv, BI_co, zcT, zvT, coT, not_true_eq_false, not_false_eq_true, Bool.not_true, Bool.not_false, stepI', wantsI, ifill, ievs, Nat.reduceEqDiff, itup, Nat.le_add_left, Nat.le_add_right, iaggEq, List.foldl, iminI, iminF, imin2, min2, iisNil, isNil, ilen, Option.isNone_none, Option.isNone_some, Nat.zero_le, decide_true, decide_false, ireps, List.replicate, List.flatten_cons, List.flatten_nil, ichk, itouch, ctouch, ilooks, isame, untouched, Option.isSome_some, Bool.or_true, Bool.true_or, List.contains_nil, Int.reduceLT, Int.reduceLE, blkOf, IntKind.bits, iasNat, asNat, Int.toNat_natCast, Int.natCast_nonneg, List.length_map, Int.reduceToNat, iscells, ibnd, islice, capOf, Option.isSome_none, Bool.false_and, Bool.and_false, Bool.or_false, Bool.false_or, bne_self_eq_false, Nat.not_lt_zero, Nat.mul_one, Nat.one_mul, Nat.zero_mul, Nat.mul_zero, beq_self_eq_true, Nat.sub_zero, Nat.reduceSub, List.length_set, false_implies, implies_true, forall_const, ↓dnW_oca, Nat.reduceLT, evI_fn, Nat.zero_lt_one, dnW_o, dnW_om, dnW_oc, dnW_ite, dnW_join, thenD_some, thenD_ite, onIfD_bool, onJoinD_out, onJoinD_ret, onJoinD_ite, Int.reduceEq, WP_some, WP_ite, byOut_goto, byOut_ret, ↓iexec_len, ↓iexec_iaddr, ↓iexec_append, ↓iexec_store, storeF_ptr, lenF_nil, lenF_lst, lenF_sl, lenF_str, iaddrF_sl, iaddrF_lst, beq_self_eq_true, ↓hp2.one, ↓hp2.icells, ↓hp2.pure, ↓hq2.one, ↓hq2.icells, ↓hq2.pure, ipureL, ipure, grp, mkE, List.headD, one_lt_UNK, lt_UNK (show 2 ≤ 1000000 by omega), same_held ha5 ba hQ1.lst (by simp) (by simp; omega), same_held hb5 bb hPQ.lst (by simp) (by simp; omega), hcl, show (((0 : Nat) : Int) == 0) = true by decide]
    exact hK _ _ (frzE rfl rfl)
  · simp -implicitDefEqProofs only [dn_ret, dn_goto, iexec, evI_0, evI_succ, evI_int, evI_bool, evI_nilsl, evI_nilp, List.cons_append, List.nil_append, scal2_sc, abin, aun, ilift_some, Option.map_some, Option.map_none, decide_eq_true_eq, List.map_cons, List.map_nil, reduceIte, if_true, if_false, Bool.false_eq_true, inew, iload, istore, iwr, ird, icells, ione, one, List.getElem?_toArray, List.getElem?_cons_zero, List.getElem?_cons_succ, List.push_toArray, List.size_toArray, List.length_cons, List.length_nil, List.setIfInBounds_toArray, List.set_cons_zero, List.set_cons_succ, isplice_cons, List.drop_succ_cons, List.drop_zero, List.take_succ_cons, List.take_zero, List.drop_nil, List.take_nil, List.append_nil, List.all_cons, List.all_nil, Bool.and_true, Bool.true_and, Bool.and_self, Nat.zero_add, Nat.add_zero, Nat.reduceAdd, Nat.reduceLeDiff, Nat.reduceMul, Nat.le_refl, true_and, and_true, and_self, List.getElem?_nil, BI_zc, BI_zv, BI_co, zcT, zvT, coT, not_true_eq_false, not_false_eq_true, Bool.not_true, Bool.not_false, stepI', wantsI, ifill, ievs, Nat.reduceEqDiff, itup, Nat.le_add_left, Nat.le_add_right, iaggEq, List.foldl, iminI, iminF, imin2, min2, iisNil, isNil, ilen, Option.isNone_none, Option.isNone_some, Nat.zero_le, decide_true, decide_false, ireps, List.replicate, List.flatten_cons, List.flatten_nil, ichk, itouch, ctouch, ilooks, isame, untouched, Option.isSome_some, Bool.or_true, Bool.true_or, List.contains_nil, Int.reduceLT, Int.reduceLE, blkOf, IntKind.bits, iasNat, asNat, Int.toNat_natCast, Int.natCast_nonneg, List.length_map, Int.reduceToNat, iscells, ibnd, islice, capOf, Option.isSome_none, Bool.false_and, Bool.and_false, Bool.or_false, Bool.false_or, bne_self_eq_false, Nat.not_lt_zero, Nat.mul_one, Nat.one_mul, Nat.zero_mul, Nat.mul_zero, beq_self_eq_true, Nat.sub_zero, Nat.reduceSub, List.length_set, false_implies, implies_true, forall_const, ↓dnW_oca, Nat.reduceLT, evI_fn, Nat.zero_lt_one, dnW_o, dnW_om, dnW_oc, dnW_ite, dnW_join, thenD_some, thenD_ite, onIfD_bool, onJoinD_out, onJoinD_ret, onJoinD_ite, Int.reduceEq, WP_some, WP_ite, byOut_goto, byOut_ret, ↓iexec_len, ↓iexec_iaddr, ↓iexec_append, ↓iexec_store, storeF_ptr, lenF_nil, lenF_lst, lenF_sl, lenF_str, iaddrF_sl, iaddrF_lst, dcp awake18 rfl, dcp hp1' (by simp [ipureL, hp.pure, ipure]), dcp hq1' (by simp [ipureL, hq.pure, ipure]), ipureL, ipure, grp, mkE, List.headD, one_lt_UNK, lt_UNK (show 2 ≤ 1000000 by omega), hm, ↓hp2.one, ↓hp2.icells, ↓hp2.pure, ↓hq2.one, ↓hq2.icells, ↓hq2.pure]
    refine WP_call (Put_ok 0 _ _ _ [P, Q] _ _ [IB.cells 0 [.sc (.slice none 0 0)] false].toArray (wire0 (J := #[])) hPQ.lst (faults1 5 (by omega)) (by simp; omega) (by simp) (by simp)) fun v J1 hs => ?_
    obtain ⟨s1, w1, _⟩ := hs
    have e1 : [] ++ putF [⟨5, 0, 0⟩] 0 [P, Q] = [(P, 2), (Q, 0)] := rfl
    rw [e1] at w1
    simp -implicitDefEqProofs only [dn_ret, dn_goto, iexec, evI_0, evI_succ, evI_int, evI_bool, evI_nilsl, evI_nilp, List.cons_append, List.nil_append, scal2_sc, abin, aun, ilift_some, Option.map_some, Option.map_none, decide_eq_true_eq, List.map_cons, List.map_nil, reduceIte, if_true, if_false, Bool.false_eq_true, inew, iload, istore, iwr, ird, icells, ione, one, List.getElem?_toArray, List.getElem?_cons_zero, List.getElem?_cons_succ, List.push_toArray, List.size_toArray, List.length_cons, List.length_nil, List.setIfInBounds_toArray, List.set_cons_zero, List.set_cons_succ, isplice_cons, List.drop_succ_cons, List.drop_zero, List.take_succ_cons, List.take_zero, List.drop_nil, List.take_nil, List.append_nil, List.all_cons, List.all_nil, Bool.and_true, Bool.true_and, Bool.and_self, Nat.zero_add, Nat.add_zero, Nat.reduceAdd, Nat.reduceLeDiff, Nat.reduceMul, Nat.le_refl, true_and, and_true, and_self, List.getElem?_nil, BI_zc, BI_zv, BI_co, zcT, zvT, coT, not_true_eq_false, not_false_eq_true, Bool.not_true, Bool.not_false, stepI', wantsI, ifill, ievs, Nat.reduceEqDiff, itup, Nat.le_add_left, Nat.le_add_right, iaggEq, List.foldl, iminI, iminF, imin2, min2, iisNil, isNil, ilen, Option.isNone_none, Option.isNone_some, Nat.zero_le, decide_true, decide_false, ireps, List.replicate, List.flatten_cons, List.flatten_nil, ichk, itouch, ctouch, ilooks, isame, untouched, Option.isSome_some, Bool.or_true, Bool.true_or, List.contains_nil, Int.reduceLT, Int.reduceLE, blkOf, IntKind.bits, iasNat, asNat, Int.toNat_natCast, Int.natCast_nonneg, List.length_map, Int.reduceToNat, iscells, ibnd, islice, capOf, Option.isSome_none, Bool.false_and, Bool.and_false, Bool.or_false, Bool.false_or, bne_self_eq_false, Nat.not_lt_zero, Nat.mul_one, Nat.one_mul, Nat.zero_mul, Nat.mul_zero, beq_self_eq_true, Nat.sub_zero, Nat.reduceSub, List.length_set, false_implies, implies_true, forall_const, ↓dnW_oca, Nat.reduceLT, evI_fn, Nat.zero_lt_one, dnW_o, dnW_om, dnW_oc, dnW_ite, dnW_join, thenD_some, thenD_ite, onIfD_bool, onJoinD_out, onJoinD_ret, onJoinD_ite, Int.reduceEq, WP_some, WP_ite, byOut_goto, byOut_ret, ↓iexec_len, ↓iexec_iaddr, ↓iexec_append, ↓iexec_store, storeF_ptr, lenF_nil, lenF_lst, lenF_sl, lenF_str, iaddrF_sl, iaddrF_lst]
    refine WP_call (Take_held 0 s1 _ J1 w1 (by simp) (by simp)) fun a J2 hs => ?_
    obtain ⟨s2, xa, w2, ha, ba, u2⟩ := hs
    have e2 : takeE [(P, 2), (Q, 0)] = [(P, 1)] := rfl
    have e3 : nowE [(P, 2), (Q, 0)] = [Q] := rfl
    rw [e2] at w2
    rw [e3] at ba
    simp -implicitDefEqProofs only [dn_ret, dn_goto, iexec, evI_0, evI_succ, evI_int, evI_bool, evI_nilsl, evI_nilp, List.cons_append, List.nil_append, scal2_sc, abin, aun, ilift_some, Option.map_some, Option.map_none, decide_eq_true_eq, List.map_cons, List.map_nil, reduceIte, if_true, if_false, Bool.false_eq_true, inew, iload, istore, iwr, ird, icells, ione, one, List.getElem?_toArray, List.getElem?_cons_zero, List.getElem?_cons_succ, List.push_toArray, List.size_toArray, List.length_cons, List.length_nil, List.setIfInBounds_toArray, List.set_cons_zero, List.set_cons_succ, isplice_cons, List.drop_succ_cons, List.drop_zero, List.take_succ_cons, List.take_zero, List.drop_nil, List.take_nil, List.append_nil, List.all_cons, List.all_nil, Bool.and_true, Bool.true_and, Bool.and_self, Nat.zero_add, Nat.add_zero, Nat.reduceAdd, Nat.reduceLeDiff, Nat.reduceMul, Nat.le_refl, true_and, and_true, and_self, List.getElem?_nil, BI_zc, BI_zv, BI_co, zcT, zvT, coT, not_true_eq_false, not_false_eq_true, Bool.not_true, Bool.not_false, stepI', wantsI, ifill, ievs, Nat.reduceEqDiff, itup, Nat.le_add_left, Nat.le_add_right, iaggEq, List.foldl, iminI, iminF, imin2, min2, iisNil, isNil, ilen, Option.isNone_none, Option.isNone_some, Nat.zero_le, decide_true, decide_false, ireps, List.replicate, List.flatten_cons, List.flatten_nil, ichk, itouch, ctouch, ilooks, isame, untouched, Option.isSome_some, Bool.or_true, Bool.true_or, List.contains_nil, Int.reduceLT, Int.reduceLE, blkOf, IntKind.bits, iasNat, asNat, Int.toNat_natCast, Int.natCast_nonneg, List.length_map, Int.reduceToNat, iscells, ibnd, islice, capOf, Option.isSome_none, Bool.false_and, Bool.and_false, Bool.or_false, Bool.false_or, bne_self_eq_false, Nat.not_lt_zero, Nat.mul_one, Nat.one_mul, Nat.zero_mul, Nat.mul_zero, beq_self_eq_true, Nat.sub_zero, Nat.reduceSub, List.length_set, false_implies, implies_true, forall_const, ↓dnW_oca, Nat.reduceLT, evI_fn, Nat.zero_lt_one, dnW_o, dnW_om, dnW_oc, dnW_ite, dnW_join, thenD_some, thenD_ite, onIfD_bool, onJoinD_out, onJoinD_ret, onJoinD_ite, Int.reduceEq, WP_some, WP_ite, byOut_goto, byOut_ret, ↓iexec_len, ↓iexec_iaddr, ↓iexec_append, ↓iexec_store, storeF_ptr, lenF_nil, lenF_lst, lenF_sl, lenF_str, iaddrF_sl, iaddrF_lst, ↓hq2.one, ↓hq2.icells, ↓hq2.pure, ipureL, ipure, grp, mkE, List.headD, one_lt_UNK]
    refine WP_call (Put_ok 0 s2 _ _ [Q] [] _ J2 w2 hQ1.lst .nil (by simp; omega) (by simp) (by simp)) fun v J3 hs => ?_
    obtain ⟨s3, w3, u3⟩ := hs
    have e4 : [(P, 1)] ++ putF [] 0 [Q] = [(P, (1 : Int)), (Q, 0)] := rfl
    rw [e4] at w3
    have ha3 := ha.upd u3
    simp -implicitDefEqProofs only [dn_ret, dn_goto, iexec, evI_0, evI_succ, evI_int, evI_bool, evI_nilsl, evI_nilp, List.cons_append, List.nil_append, scal2_sc, abin, aun, ilift_some, Option.map_some, Option.map_none, decide_eq_true_eq, List.map_cons, List.map_nil, reduceIte, if_true, if_false, Bool.false_eq_true, inew, iload, istore, iwr, ird, icells, ione, one, List.getElem?_toArray, List.getElem?_cons_zero, List.getElem?_cons_succ, List.push_toArray, List.size_toArray, List.length_cons, List.length_nil, List.setIfInBounds_toArray, List.set_cons_zero, List.set_cons_succ, isplice_cons, List.drop_succ_cons, List.drop_zero, List.take_succ_cons, List.take_zero, List.drop_nil, List.take_nil, List.append_nil, List.all_cons, List.all_nil, Bool.and_true, Bool.true_and, Bool.and_self, Nat.zero_add, Nat.add_zero, Nat.reduceAdd, Nat.reduceLeDiff, Nat.reduceMul, Nat.le_refl, true_and, and_true, and_self, List.getElem?_nil, BI_zc, BI_zv, BI_co, zcT, zvT, coT, not_true_eq_false, not_false_eq_true, Bool.not_true, Bool.not_false, stepI', wantsI, ifill, ievs, Nat.reduceEqDiff, itup, Nat.le_add_left, Nat.le_add_right, iaggEq, List.foldl, iminI, iminF, imin2, min2, iisNil, isNil, ilen, Option.isNone_none, Option.isNone_some, Nat.zero_le, decide_true, decide_false, ireps, List.replicate, List.flatten_cons, List.flatten_nil, ichk, itouch, ctouch, ilooks, isame, untouched, Option.isSome_some, Bool.or_true, Bool.true_or, List.contains_nil, Int.reduceLT, Int.reduceLE, blkOf, IntKind.bits, iasNat, asNat, Int.toNat_natCast, Int.natCast_nonneg, List.length_map, Int.reduceToNat, iscells, ibnd, islice, capOf, Option.isSome_none, Bool.false_and, Bool.and_false, Bool.or_false, Bool.false_or, bne_self_eq_false, Nat.not_lt_zero, Nat.mul_one, Nat.one_mul, Nat.zero_mul, Nat.mul_zero, beq_self_eq_true, Nat.sub_zero, Nat.reduceSub, List.length_set, false_implies, implies_true, forall_const, ↓dnW_oca, Nat.reduceLT, evI_fn, Nat.zero_lt_one, dnW_o, dnW_om, dnW_oc, dnW_ite, dnW_join, thenD_some, thenD_ite, onIfD_bool, onJoinD_out, onJoinD_ret, onJoinD_ite, Int.reduceEq, WP_some, WP_ite, byOut_goto, byOut_ret, ↓iexec_len, ↓iexec_iaddr, ↓iexec_append, ↓iexec_store, storeF_ptr, lenF_nil, lenF_lst, lenF_sl, lenF_str, iaddrF_sl, iaddrF_lst]
    refine WP_call (Take_held 0 s3 _ J3 w3 (by simp) (by simp)) fun b J4 hs => ?_
    obtain ⟨s4, xb, w4, hb, bb, u4⟩ := hs
    have e5 : takeE [(P, 1), (Q, 0)] = [(P, 0)] := rfl
    have e6 : nowE [(P, 1), (Q, 0)] = [Q] := rfl
    rw [e5] at w4
    rw [e6] at bb
    have ha4 := ha3.upd u4
    simp -implicitDefEqProofs only [dn_ret, dn_goto, iexec, evI_0, evI_succ, evI_int, evI_bool, evI_nilsl, evI_nilp, List.cons_append, List.nil_append, scal2_sc, abin, aun, ilift_some, Option.map_some, Option.map_none, decide_eq_true_eq, List.map_cons, List.map_nil, reduceIte, if_true, if_false, Bool.false_eq_true, inew, iload, istore, iwr, ird, icells, ione, one, List.getElem?_toArray, List.getElem?_cons_zero, List.getElem?_cons_succ, List.push_toArray, List.size_toArray, List.length_cons, List.length_nil, List.setIfInBounds_toArray, List.set_cons_zero, List.set_cons_succ, isplice_cons, List.drop_succ_cons, List.drop_zero, List.take_succ_cons, List.take_zero, List.drop_nil, List.take_nil, List.append_nil, List.all_cons, List.all_nil, Bool.and_true, Bool.true_and, Bool.and_self, Nat.zero_add, Nat.add_zero, Nat.reduceAdd, Nat.reduceLeDiff, Nat.reduceMul, Nat.le_refl, true_and, and_true, and_self, List.getElem?_nil, BI_zc, BI_zv, BI_co, zcT, zvT, coT, not_true_eq_false, not_false_eq_true, Bool.not_true, Bool.not_false, stepI', wantsI, ifill, ievs, Nat.reduceEqDiff, itup, Nat.le_add_left, Nat.le_add_right, iaggEq, List.foldl, iminI, iminF, imin2, min2, iisNil, isNil, ilen, Option.isNone_none, Option.isNone_some, Nat.zero_le, decide_true, decide_false, ireps, List.replicate, List.flatten_cons, List.flatten_nil, ichk, itouch, ctouch, ilooks, isame, untouched, Option.isSome_some, Bool.or_true, Bool.true_or, List.contains_nil, Int.reduceLT, Int.reduceLE, blkOf, IntKind.bits, iasNat, asNat, Int.toNat_natCast, Int.natCast_nonneg, List.length_map, Int.reduceToNat, iscells, ibnd, islice, capOf, Option.isSome_none, Bool.false_and, Bool.and_false, Bool.or_false, Bool.false_or, bne_self_eq_false, Nat.not_lt_zero, Nat.mul_one, Nat.one_mul, Nat.zero_mul, Nat.mul_zero, beq_self_eq_true, Nat.sub_zero, Nat.reduceSub, List.length_set, false_implies, implies_true, forall_const, ↓dnW_oca, Nat.reduceLT, evI_fn, Nat.zero_lt_one, dnW_o, dnW_om, dnW_oc, dnW_ite, dnW_join, thenD_some, thenD_ite, onIfD_bool, onJoinD_out, onJoinD_ret, onJoinD_ite, Int.reduceEq, WP_some, WP_ite, byOut_goto, byOut_ret, ↓iexec_len, ↓iexec_iaddr, ↓iexec_append, ↓iexec_store, storeF_ptr, lenF_nil, lenF_lst, lenF_sl, lenF_str, iaddrF_sl, iaddrF_lst]
    refine WP_call (Take_held 0 s4 _ J4 w4 (by simp) (by simp)) fun c J5 hs => ?_
    obtain ⟨s5, xc, w5, hc, bc, u5⟩ := hs
    have e7 : nowE [(P, 0)] = [P] := rfl
    rw [e7] at bc
    have ha5 := ha4.upd u5
    have hb5 := hb.upd u5
    simp -implicitDefEqProofs only [dn_ret, dn_goto, iexec, evI_0, evI_succ, evI_int, evI_bool, evI_nilsl, evI_nilp, List.cons_append, List.nil_append, scal2_sc, abin, aun, ilift_some, Option.map_some, Option.map_none, decide_eq_true_eq, List.map_cons, List.map_nil, reduceIte, if_true, if_false, Bool.false_eq_true, inew, iload, istore, iwr, ird, icells, ione, one, List.getElem?_toArray, List.getElem?_cons_zero, List.getElem?_cons_succ, List.push_toArray, List.size_toArray, List.length_cons, List.length_nil, List.setIfInBounds_toArray, List.set_cons_zero, List.set_cons_succ, isplice_cons, List.drop_succ_cons, List.drop_zero, List.take_succ_cons, List.take_zero, List.drop_nil, List.take_nil, List.append_nil, List.all_cons, List.all_nil, Bool.and_true, Bool.true_and, Bool.and_self, Nat.zero_add, Nat.add_zero, Nat.reduceAdd, Nat.reduceLeDiff, Nat.reduceMul, Nat.le_refl, true_and, and_true, and_self, List.getElem?_nil, BI_zc, BI_zv, BI_co, zcT, zvT, coT, not_true_eq_false, not_false_eq_true, Bool.not_true, Bool.not_false, stepI', wantsI, ifill, ievs, Nat.reduceEqDiff, itup, Nat.le_add_left, Nat.le_add_right, iaggEq, List.foldl, iminI, iminF, imin2, min2, iisNil, isNil, ilen, Option.isNone_none, Option.isNone_some, Nat.zero_le, decide_true, decide_false, ireps, List.replicate, List.flatten_cons, List.flatten_nil, ichk, itouch, ctouch, ilooks, isame, untouched, Option.isSome_some, Bool.or_true, Bool.true_or, List.contains_nil, Int.reduceLT, Int.reduceLE, blkOf, IntKind.bits, iasNat, asNat, Int.toNat_natCast, Int.natCast_nonneg, List.length_map, Int.reduceToNat, iscells, ibnd, islice, capOf, Option.isSome_none, Bool.false_and, Bool.and_false, Bool.or_false, Bool.false_or, bne_self_eq_false, Nat.not_lt_zero, Nat.mul_one, Nat.one_mul, Nat.zero_mul, Nat.mul_zero, beq_self_eq_true, Nat.sub_zero, Nat.reduceSub, List.length_set, false_implies, implies_true, forall_const, ↓dnW_oca, Nat.reduceLT, evI_fn, Nat.zero_lt_one, dnW_o, dnW_om, dnW_oc, dnW_ite, dnW_join, thenD_some, thenD_ite, onIfD_bool, onJoinD_out, onJoinD_ret, onJoinD_ite, Int.reduceEq, WP_some, WP_ite, byOut_goto, byOut_ret, ↓iexec_len, ↓iexec_iaddr, ↓iexec_append, ↓iexec_store, storeF_ptr, lenF_nil, lenF_lst, lenF_sl, lenF_str, iaddrF_sl, iaddrF_lst, beq_self_eq_true, ↓hp2.one, ↓hp2.icells, ↓hp2.pure, ↓hq2.one, ↓hq2.icells, ↓hq2.pure, ipureL, ipure, grp, mkE, List.headD, one_lt_UNK, lt_UNK (show 2 ≤ 1000000 by omega), same_held ha5 ba hQ1.lst (by simp) (by simp; omega), same_held hb5 bb hQ1.lst (by simp) (by simp; omega), same_held hc bc hP1.lst (by simp) (by simp; omega), l_law18_WireLate_k0, show ((5 : Int) == 3) = false by decide]
    exact hK _ _ (frzE rfl rfl)
end Go.Proofs.Ytohclaopcejjnaa.G
namespace Go.Proofs.Ytohclaopcejjnaa.G
open Go
set_option linter.unusedSimpArgs false
set_option linter.unusedVariables false
def delta (h : Nat) : Int := if h = 1 then -1 else if h = 2 then 1 else 0
theorem delta_len (h : Nat) : ((timesF h).length : Int) = 1 + delta h := by unfold timesF delta; (repeat' split) <;> simp_all
def sumD : List FaultT → Nat → Int
  | [], _ => 0
  | _ :: _, 0 => 0
  | f :: fs, k + 1 => delta f.how + sumD fs k
theorem sumD_abs : ∀ (fs : List FaultT) (k : Nat), -(k : Int) ≤ sumD fs k ∧ sumD fs k ≤ k
  | [], k => by simp [sumD]
  | _ :: _, 0 => by simp [sumD]
  | f :: fs, k + 1 => by
    have := sumD_abs fs k
    have h : -1 ≤ delta f.how ∧ delta f.how ≤ 1 := by unfold delta; (repeat' split) <;> simp
    simp only [sumD]
    omega
theorem putF_sum (fs : List FaultT) : ∀ (ps : List (List Int)) (i : Nat), ((putF fs i ps).length : Int) = ps.length + sumD (fs.drop i) ps.length
  | [], i => by
    simp only [putF, List.length_nil]
    cases fs.drop i <;> simp [sumD]
  | p :: ps, i => by
    have ih := putF_sum fs ps (i + 1)
    have hd := delta_len (fs.getD i f0).how
    simp only [putF, List.length_append, List.length_map, List.length_cons]
    by_cases h : i < fs.length
    · rw [getD_lt h] at hd ⊢
      rw [List.drop_eq_getElem_cons h, sumD]
      omega
    · rw [getD_ge (show fs.length ≤ i by omega)] at hd ⊢
      rw [List.drop_of_length_le (show fs.length ≤ i + 1 by omega), sumD] at ih
      rw [List.drop_of_length_le (show fs.length ≤ i by omega), sumD]
      have : (timesF f0.how).length = 1 := rfl
      omega
/-- all come within three -/
theorem three : ∀ (E : List (List Int × Int)), (∀ e ∈ E, 0 ≤ e.2 ∧ e.2 ≤ 2) → (nowE E).length + (nowE (takeE E)).length + (nowE (takeE (takeE E))).length = E.length ∧ takeE (takeE (takeE E)) = []
  | [], _ => ⟨rfl, rfl⟩
  | e :: E, h => by
    obtain ⟨h1, h2⟩ := three E fun x hx => h x (by simp [hx])
    have he := h e (by simp)
    obtain ⟨p, n⟩ := e
    have hn : n = 0 ∨ n = 1 ∨ n = 2 := by simp only at he; omega
    unfold nowE takeE at *
    rcases hn with rfl | rfl | rfl
    · simp only [List.map_cons, List.filter_cons, List.length_cons]
      simp at h1 h2 ⊢
      exact ⟨by omega, h2⟩
    · simp only [List.map_cons, List.filter_cons, List.length_cons]
      simp at h1 h2 ⊢
      exact ⟨by omega, h2⟩
    · simp only [List.map_cons, List.filter_cons, List.length_cons]
      simp at h1 h2 ⊢
      exact ⟨by omega, h2⟩
theorem timesF_mem (h n : Nat) (hn : n ∈ timesF h) : n ≤ 2 := by
  unfold timesF at hn
  (repeat' split at hn) <;> simp at hn <;> omega
theorem putF_small (fs : List FaultT) : ∀ (ps : List (List Int)) (i : Nat), ∀ e ∈ putF fs i ps, 0 ≤ e.2 ∧ e.2 ≤ 2
  | [], i, e, he => by simp [putF] at he
  | p :: ps, i, e, he => by
    rw [putF] at he
    rcases List.mem_append.1 he with he | he
    · obtain ⟨n, hn, rfl⟩ := List.mem_map.1 he
      have := timesF_mem _ _ hn
      simp only
      omega
    · exact putF_small fs ps (i + 1) e he
theorem takeE_small {E : List (List Int × Int)} (h : ∀ e ∈ E, 0 ≤ e.2 ∧ e.2 ≤ 1000) : ∀ e ∈ takeE E, 0 ≤ e.2 ∧ e.2 ≤ 1000 := fun e he => by
  unfold takeE at he
  obtain ⟨h1, h2⟩ := List.mem_filter.1 he
  obtain ⟨x, hx, rfl⟩ := List.mem_map.1 h1
  have := h x hx
  simp only [decide_eq_true_eq] at h2 ⊢
  omega
theorem takeE_len (E : List (List Int × Int)) : (takeE E).length ≤ E.length := by
  unfold takeE
  refine Nat.le_trans (List.length_filter_le _ _) ?_
  simp
theorem counts_step (i : Nat) (w : Int) (fr fa : IV) (ps : List (List Int)) (fs : List FaultT) (hfr : LsR 1 Bs fr ps) (hfa : LsR 3 FR fa fs) (hi : i ≤ fs.length) (hb : fs.length ≤ 1000) (hw0 : -1000 ≤ w ∧ w ≤ 1000) (J : JH) (h00 : J[0]? = some (.cells 0 [fr, fa] false)) (K : Out IV → JH → Prop)
    (h0 : i = fs.length → K (.goto 0 [.ptr 1 0 0, .int .i64 w]) J)
    (h1 : ∀ (h : i < fs.length) J', Fr J J' [] → K (.goto 1 [.ptr 0 0 0, .ptr 1 0 0, .int .i64 (if i < ps.length then w + delta fs[i].how else w), fa, .int .i64 ((fs.length : Nat) : Int), .int .i64 ((i + 1 : Nat) : Int)]) J') :
    WP (dn BI l_law18_WireCounts_k0 [.ptr 0 0 0, .ptr 1 0 0, .int .i64 w, fa, .int .i64 ((fs.length : Nat) : Int), .int .i64 (i : Int)] J) K := by
  by_cases h : i < fs.length
  · have hw : IntKind.i64.wrap ((i : Int) + 1) = ((i + 1 : Nat) : Int) := by rw [wrap_i64 (by omega) (by omega)]; omega
    have hw1 : IntKind.i64.wrap (w - 1) = w - 1 := wrap_i64 (by omega) (by omega)
    have hw2 : IntKind.i64.wrap (w + 1) = w + 1 := wrap_i64 (by omega) (by omega)
    obtain ⟨e, ⟨rfl, _⟩, hea⟩ := hfa.at h
    unfold FaultT.iv at hea
    have hin := inb h00
    have hr := h1 h _ (Fr.push J (.cells 0 [.int .u8 fs[i].how, .int .u16 fs[i].at', .int .u32 fs[i].mask] false) [])
    have hlen := fun J => hfr.lenF (J := J)
    generalize fs[i] = f at *
    obtain ⟨how, at', mask⟩ := f
    unfold l_law18_WireCounts_k0
    by_cases hp : i < ps.length
    · rw [if_pos hp] at hr
      by_cases e1 : how = 1
      · subst e1
        simp -implicitDefEqProofs only [dn_ret, dn_goto, iexec, evI_0, evI_succ, evI_int, evI_bool, evI_nilsl, evI_nilp, List.cons_append, List.nil_append, scal2_sc, abin, aun, ilift_some, Option.map_some, Option.map_none, decide_eq_true_eq, List.map_cons, List.map_nil, reduceIte, if_true, if_false, Bool.false_eq_true, inew, iload, istore, iwr, ird, icells, ione, one, List.getElem?_toArray, List.getElem?_cons_zero, List.getElem?_cons_succ, List.push_toArray, List.size_toArray, List.length_cons, List.length_nil, List.setIfInBounds_toArray, List.set_cons_zero, List.set_cons_succ, isplice_cons, List.drop_succ_cons, List.drop_zero, List.take_succ_cons, List.take_zero, List.drop_nil, List.take_nil, List.append_nil, List.all_cons, List.all_nil, Bool.and_true, Bool.true_and, Bool.and_self, Nat.zero_add, Nat.add_zero, Nat.reduceAdd, Nat.reduceLeDiff, Nat.reduceMul, Nat.le_refl, true_and, and_true, and_self, List.getElem?_nil, BI_zc, BI_zv, BI_co, zcT, zvT, coT, not_true_eq_false, not_false_eq_true, Bool.not_true, Bool.not_false, stepI', wantsI, ifill, ievs, Nat.reduceEqDiff, itup, Nat.le_add_left, Nat.le_add_right, iaggEq, List.foldl, iminI, iminF, imin2, min2, iisNil, isNil, ilen, Option.isNone_none, Option.isNone_some, Nat.zero_le, decide_true, decide_false, ireps, List.replicate, List.flatten_cons, List.flatten_nil, ichk, itouch, ctouch, ilooks, isame, untouched, Option.isSome_some, Bool.or_true, Bool.true_or, List.contains_nil, Int.reduceLT, Int.reduceLE, blkOf, IntKind.bits, iasNat, asNat, Int.toNat_natCast, Int.natCast_nonneg, List.length_map, Int.reduceToNat, iscells, ibnd, islice, capOf, Option.isSome_none, Bool.false_and, Bool.and_false, Bool.or_false, Bool.false_or, bne_self_eq_false, Nat.not_lt_zero, Nat.mul_one, Nat.one_mul, Nat.zero_mul, Nat.mul_zero, beq_self_eq_true, Nat.sub_zero, Nat.reduceSub, List.length_set, false_implies, implies_true, forall_const, ↓dnW_oca, Nat.reduceLT, evI_fn, Nat.zero_lt_one, dnW_o, dnW_om, dnW_oc, dnW_ite, dnW_join, thenD_some, thenD_ite, onIfD_bool, onJoinD_out, onJoinD_ret, onJoinD_ite, Int.reduceEq, WP_some, WP_ite, byOut_goto, byOut_ret, ↓iexec_len, ↓iexec_iaddr, ↓iexec_append, ↓iexec_store, storeF_ptr, lenF_nil, lenF_lst, lenF_sl, lenF_str, iaddrF_sl, iaddrF_lst, show ((i : Int) < (fs.length : Int)) by omega, hea, push_set, push_at, Array.getElem?_push, Array.size_push, hin, h00, hlen, show ((i : Int) < (ps.length : Int)) by omega, hw, hw1, show (((1 : Nat) : Int) == 1) = true by decide]
        exact hr
      · have b1 : ((how : Int) == 1) = false := by rw [beq_eq_false_iff_ne]; omega
        by_cases e2 : how = 2
        · subst e2
          simp -implicitDefEqProofs only [dn_ret, dn_goto, iexec, evI_0, evI_succ, evI_int, evI_bool, evI_nilsl, evI_nilp, List.cons_append, List.nil_append, scal2_sc, abin, aun, ilift_some, Option.map_some, Option.map_none, decide_eq_true_eq, List.map_cons, List.map_nil, reduceIte, if_true, if_false, Bool.false_eq_true, inew, iload, istore, iwr, ird, icells, ione, one, List.getElem?_toArray, List.getElem?_cons_zero, List.getElem?_cons_succ, List.push_toArray, List.size_toArray, List.length_cons, List.length_nil, List.setIfInBounds_toArray, List.set_cons_zero, List.set_cons_succ, isplice_cons, List.drop_succ_cons, List.drop_zero, List.take_succ_cons, List.take_zero, List.drop_nil, List.take_nil, List.append_nil, List.all_cons, List.all_nil, Bool.and_true, Bool.true_and, Bool.and_self, Nat.zero_add, Nat.add_zero, Nat.reduceAdd, Nat.reduceLeDiff, Nat.reduceMul, Nat.le_refl, true_and, and_true, and_self, List.getElem?_nil, BI_zc, BI_zv, BI_co, zcT, zvT, coT, not_true_eq_false, not_false_eq_true, Bool.not_true, Bool.not_false, stepI', wantsI, ifill, ievs, Nat.reduceEqDiff, itup, Nat.le_add_left, Nat.le_add_right, iaggEq, List.foldl, iminI, iminF, imin2, min2, iisNil, isNil, ilen, Option.isNone_none, Option.isNone_some, Nat.zero_le, decide_true, decide_false, ireps, List.replicate, List.flatten_cons, List.flatten_nil, ichk, itouch, ctouch, ilooks, isame, untouched, Option.isSome_some, Bool.or_true, Bool.true_or, List.contains_nil, Int.reduceLT, Int.reduceLE, blkOf, IntKind.bits, iasNat, asNat, Int.toNat_natCast, Int.natCast_nonneg, List.length_map, Int.reduceToNat, iscells, ibnd, islice, capOf, Option.isSome_none, Bool.false_and, Bool.and_false, Bool.or_false, Bool.false_or, bne_self_eq_false, Nat.not_lt_zero, Nat.mul_one, Nat.one_mul, Nat.zero_mul, Nat.mul_zero, beq_self_eq_true, Nat.sub_zero, Nat.reduceSub, List.length_set, false_implies, implies_true, forall_const, ↓dnW_oca, Nat.reduceLT, evI_fn, Nat.zero_lt_one, dnW_o, dnW_om, dnW_oc, dnW_ite, dnW_join, thenD_some, thenD_ite, onIfD_bool, onJoinD_out, onJoinD_ret, onJoinD_ite, Int.reduceEq, WP_some, WP_ite, byOut_goto, byOut_ret, ↓iexec_len, ↓iexec_iaddr, ↓iexec_append, ↓iexec_store, storeF_ptr, lenF_nil, lenF_lst, lenF_sl, lenF_str, iaddrF_sl, iaddrF_lst, show ((i : Int) < (fs.length : Int)) by omega, hea, push_set, push_at, Array.getElem?_push, Array.size_push, hin, h00, hlen, show ((i : Int) < (ps.length : Int)) by omega, hw, hw2, b1, show (((2 : Nat) : Int) == 2) = true by decide]
          exact hr
        · have b2 : ((how : Int) == 2) = false := by rw [beq_eq_false_iff_ne]; omega
          have hd : delta how = 0 := by simp [delta, e1, e2]
          simp only [hd, Int.add_zero] at hr
          simp -implicitDefEqProofs only [dn_ret, dn_goto, iexec, evI_0, evI_succ, evI_int, evI_bool, evI_nilsl, evI_nilp, List.cons_append, List.nil_append, scal2_sc, abin, aun, ilift_some, Option.map_some, Option.map_none, decide_eq_true_eq, List.map_cons, List.map_nil, reduceIte, if_true, if_false, Bool.false_eq_true, inew, iload, istore, iwr, ird, icells, ione, one, List.getElem?_toArray, List.getElem?_cons_zero, List.getElem?_cons_succ, List.push_toArray, List.size_toArray, List.length_cons, List.length_nil, List.setIfInBounds_toArray, List.set_cons_zero, List.set_cons_succ, isplice_cons, List.drop_succ_cons, List.drop_zero, List.take_succ_cons, List.take_zero, List.drop_nil, List.take_nil, List.append_nil, List.all_cons, List.all_nil, Bool.and_true, Bool.true_and, Bool.and_self, Nat.zero_add, Nat.add_zero, Nat.reduceAdd, Nat.reduceLeDiff, Nat.reduceMul, Nat.le_refl, true_and, and_true, and_self, List.getElem?_nil, BI_zc, BI_zv, BI_co, zcT, zvT, coT, not_true_eq_false, not_false_eq_true, Bool.not_true, Bool.not_false, stepI', wantsI, ifill, ievs, Nat.reduceEqDiff, itup, Nat.le_add_left, Nat.le_add_right, iaggEq, List.foldl, iminI, iminF, imin2, min2, iisNil, isNil, ilen, Option.isNone_none, Option.isNone_some, Nat.zero_le, decide_true, decide_false, ireps, List.replicate, List.flatten_cons, List.flatten_nil, ichk, itouch, ctouch, ilooks, isame, untouched, Option.isSome_some, Bool.or_true, Bool.true_or, List.contains_nil, Int.reduceLT, Int.reduceLE, blkOf, IntKind.bits, iasNat, asNat, Int.toNat_natCast, Int.natCast_nonneg, List.length_map, Int.reduceToNat, iscells, ibnd, islice, capOf, Option.isSome_none, Bool.false_and, Bool.and_false, Bool.or_false, Bool.false_or, bne_self_eq_false, Nat.not_lt_zero, Nat.mul_one, Nat.one_mul, Nat.zero_mul, Nat.mul_zero, beq_self_eq_true, Nat.sub_zero, Nat.reduceSub, List.length_set, false_implies, implies_true, forall_const, ↓dnW_oca, Nat.reduceLT, evI_fn, Nat.zero_lt_one, dnW_o, dnW_om, dnW_oc, dnW_ite, dnW_join, thenD_some, thenD_ite, onIfD_bool, onJoinD_out, onJoinD_ret, onJoinD_ite, Int.reduceEq, WP_some, WP_ite, byOut_goto, byOut_ret, ↓iexec_len, ↓iexec_iaddr, ↓iexec_append, ↓iexec_store, storeF_ptr, lenF_nil, lenF_lst, lenF_sl, lenF_str, iaddrF_sl, iaddrF_lst, show ((i : Int) < (fs.length : Int)) by omega, hea, push_set, push_at, Array.getElem?_push, Array.size_push, hin, h00, hlen, show ((i : Int) < (ps.length : Int)) by omega, hw, b1, b2]
          exact hr
    · rw [if_neg hp] at hr
      simp -implicitDefEqProofs only [dn_ret, dn_goto, iexec, evI_0, evI_succ, evI_int, evI_bool, evI_nilsl, evI_nilp, List.cons_append, List.nil_append, scal2_sc, abin, aun, ilift_some, Option.map_some, Option.map_none, decide_eq_true_eq, List.map_cons, List.map_nil, reduceIte, if_true, if_false, Bool.false_eq_true, inew, iload, istore, iwr, ird, icells, ione, one, List.getElem?_toArray, List.getElem?_cons_zero, List.getElem?_cons_succ, List.push_toArray, List.size_toArray, List.length_cons, List.length_nil, List.setIfInBounds_toArray, List.set_cons_zero, List.set_cons_succ, isplice_cons, List.drop_succ_cons, List.drop_zero, List.take_succ_cons, List.take_zero, List.drop_nil, List.take_nil, List.append_nil, List.all_cons, List.all_nil, Bool.and_true, Bool.true_and, Bool.and_self, Nat.zero_add, Nat.add_zero, Nat.reduceAdd, Nat.reduceLeDiff, Nat.reduceMul, Nat.le_refl, true_and, and_true, and_self, List.getElem?_nil, BI_zc, BI_zv, BI_co, zcT, zvT, coT, not_true_eq_false, not_false_eq_true, Bool.not_true, Bool.not_false, stepI', wantsI, ifill, ievs, Nat.reduceEqDiff, itup, Nat.le_add_left, Nat.le_add_right, iaggEq, List.foldl, iminI, iminF, imin2, min2, iisNil, isNil, ilen, Option.isNone_none, Option.isNone_some, Nat.zero_le, decide_true, decide_false, ireps, List.replicate, List.flatten_cons, List.flatten_nil, ichk, itouch, ctouch, ilooks, isame, untouched, Option.isSome_some, Bool.or_true, Bool.true_or, List.contains_nil, Int.reduceLT, Int.reduceLE, blkOf, IntKind.bits, iasNat, asNat, Int.toNat_natCast, Int.natCast_nonneg, List.length_map, Int.reduceToNat, iscells, ibnd, islice, capOf, Option.isSome_none, Bool.false_and, Bool.and_false, Bool.or_false, Bool.false_or, bne_self_eq_false, Nat.not_lt_zero, Nat.mul_one, Nat.one_mul, Nat.zero_mul, Nat.mul_zero, beq_self_eq_true, Nat.sub_zero, Nat.reduceSub, List.length_set, false_implies, implies_true, forall_const, ↓dnW_oca, Nat.reduceLT, evI_fn, Nat.zero_lt_one, dnW_o, dnW_om, dnW_oc, dnW_ite, dnW_join, thenD_some, thenD_ite, onIfD_bool, onJoinD_out, onJoinD_ret, onJoinD_ite, Int.reduceEq, WP_some, WP_ite, byOut_goto, byOut_ret, ↓iexec_len, ↓iexec_iaddr, ↓iexec_append, ↓iexec_store, storeF_ptr, lenF_nil, lenF_lst, lenF_sl, lenF_str, iaddrF_sl, iaddrF_lst, show ((i : Int) < (fs.length : Int)) by omega, hea, push_set, push_at, Array.getElem?_push, Array.size_push, hin, h00, hlen, show ¬ ((i : Int) < (ps.length : Int)) by omega, hw]
      exact hr
  · unfold l_law18_WireCounts_k0
    simp -implicitDefEqProofs only [dn_ret, dn_goto, iexec, evI_0, evI_succ, evI_int, evI_bool, evI_nilsl, evI_nilp, List.cons_append, List.nil_append, scal2_sc, abin, aun, ilift_some, Option.map_some, Option.map_none, decide_eq_true_eq, List.map_cons, List.map_nil, reduceIte, if_true, if_false, Bool.false_eq_true, inew, iload, istore, iwr, ird, icells, ione, one, List.getElem?_toArray, List.getElem?_cons_zero, List.getElem?_cons_succ, List.push_toArray, List.size_toArray, List.length_cons, List.length_nil, List.setIfInBounds_toArray, List.set_cons_zero, List.set_cons_succ, isplice_cons, List.drop_succ_cons, List.drop_zero, List.take_succ_cons, List.take_zero, List.drop_nil, List.take_nil, List.append_nil, List.all_cons, List.all_nil, Bool.and_true, Bool.true_and, Bool.and_self, Nat.zero_add, Nat.add_zero, Nat.reduceAdd, Nat.reduceLeDiff, Nat.reduceMul, Nat.le_refl, true_and, and_true, and_self, List.getElem?_nil, BI_zc, BI_zv, BI_co, zcT, zvT, coT, not_true_eq_false, not_false_eq_true, Bool.not_true, Bool.not_false, stepI', wantsI, ifill, ievs, Nat.reduceEqDiff, itup, Nat.le_add_left, Nat.le_add_right, iaggEq, List.foldl, iminI, iminF, imin2, min2, iisNil, isNil, ilen, Option.isNone_none, Option.isNone_some, Nat.zero_le, decide_true, decide_false, ireps, List.replicate, List.flatten_cons, List.flatten_nil, ichk, itouch, ctouch, ilooks, isame, untouched, Option.isSome_some, Bool.or_true, Bool.true_or, List.contains_nil, Int.reduceLT, Int.reduceLE, blkOf, IntKind.bits, iasNat, asNat, Int.toNat_natCast, Int.natCast_nonneg, List.length_map, Int.reduceToNat, iscells, ibnd, islice, capOf, Option.isSome_none, Bool.false_and, Bool.and_false, Bool.or_false, Bool.false_or, bne_self_eq_false, Nat.not_lt_zero, Nat.mul_one, Nat.one_mul, Nat.zero_mul, Nat.mul_zero, beq_self_eq_true, Nat.sub_zero, Nat.reduceSub, List.length_set, false_implies, implies_true, forall_const, ↓dnW_oca, Nat.reduceLT, evI_fn, Nat.zero_lt_one, dnW_o, dnW_om, dnW_oc, dnW_ite, dnW_join, thenD_some, thenD_ite, onIfD_bool, onJoinD_out, onJoinD_ret, onJoinD_ite, Int.reduceEq, WP_some, WP_ite, byOut_goto, byOut_ret, ↓iexec_len, ↓iexec_iaddr, ↓iexec_append, ↓iexec_store, storeF_ptr, lenF_nil, lenF_lst, lenF_sl, lenF_str, iaddrF_sl, iaddrF_lst, show ¬ ((i : Int) < (fs.length : Int)) by omega]
    exact h0 (by omega)
end Go.Proofs.Ytohclaopcejjnaa.G
namespace Go.Proofs.Ytohclaopcejjnaa.G
open Go
set_option linter.unusedSimpArgs false
set_option linter.unusedVariables false
theorem Counts_ok {fr fa : IV} {ps : List (List Int)} {fs : List FaultT} (hfr : LsR 1 Bs fr ps) (hfa : LsR 3 FR fa fs) (hl : ∀ p ∈ ps, p.length ≤ 9223372036854775807) (hps : ps.length ≤ 9223372036854775807) (hfs : fs.length ≤ 9223372036854775807) : pc BI F_law18_WireCounts [.agg [fr, fa]] = some (.bool true) := by
  obtain ⟨fr', fa', l', hfew, hr1, hr2, hr3⟩ := few_ok fr fa ps fs hfr hfa hl hps hfs
  have hP : ∀ p ∈ (ps.take 8).map (fun x => x.take 40), p.length ≤ 1000000 := fun p hp => by
    obtain ⟨q, _, rfl⟩ := List.mem_map.1 hp
    rw [List.length_take]; omega
  have hPl : ((ps.take 8).map (fun x => x.take 40)).length ≤ 8 := by simp; omega
  have hFl : (fs.take 8).length ≤ 8 := by simp; omega
  generalize (ps.take 8).map (fun x => x.take 40) = P at *
  generalize fs.take 8 = F at *
  refine pcE fn_law18_WireCounts rfl fun K hK => ?_
  have o1 := hfr.one
  have o2 := hfa.one
  have o3 := hr1.one
  have o4 := hr2.one
  have len1 := fun J => hr1.lenF (J := J)
  have len2 := fun J => hr2.lenF (J := J)
  unfold l_law18_WireCounts
  simp -implicitDefEqProofs only [dn_ret, dn_goto, iexec, evI_0, evI_succ, evI_int, evI_bool, evI_nilsl, evI_nilp, List.cons_append, List.nil_append, scal2_sc, abin, aun, ilift_some, Option.map_some, Option.map_none, decide_eq_true_eq, List.map_cons, List.map_nil, reduceIte, if_true, if_false, Bool.false_eq_true, inew, iload, istore, iwr, ird, icells, ione, one, List.getElem?_toArray, List.getElem?_cons_zero, List.getElem?_cons_succ, List.push_toArray, List.size_toArray, List.length_cons, List.length_nil, List.setIfInBounds_toArray, List.set_cons_zero, List.set_cons_succ, isplice_cons, List.drop_succ_cons, List.drop_zero, List.take_succ_cons, List.take_zero, List.drop_nil, List.take_nil, List.append_nil, List.all_cons, List.all_nil, Bool.and_true, Bool.true_and, Bool.and_self, Nat.zero_add, Nat.add_zero, Nat.reduceAdd, Nat.reduceLeDiff, Nat.reduceMul, Nat.le_refl, true_and, and_true, and_self, List.getElem?_nil, BI_zc, BI_zv, BI_co, zcT, zvT, coT, not_true_eq_false, not_false_eq_true, Bool.not_true, Bool.not_false, stepI', wantsI, ifill, ievs, Nat.reduceEqDiff, itup, Nat.le_add_left, Nat.le_add_right, iaggEq, List.foldl, iminI, iminF, imin2, min2, iisNil, isNil, ilen, Option.isNone_none, Option.isNone_some, Nat.zero_le, decide_true, decide_false, ireps, List.replicate, List.flatten_cons, List.flatten_nil, ichk, itouch, ctouch, ilooks, isame, untouched, Option.isSome_some, Bool.or_true, Bool.true_or, List.contains_nil, Int.reduceLT, Int.reduceLE, blkOf, IntKind.bits, iasNat, asNat, Int.toNat_natCast, Int.natCast_nonneg, List.length_map, Int.reduceToNat, iscells, ibnd, islice, capOf, Option.isSome_none, Bool.false_and, Bool.and_false, Bool.or_false, Bool.false_or, bne_self_eq_false, Nat.not_lt_zero, Nat.mul_one, Nat.one_mul, Nat.zero_mul, Nat.mul_zero, beq_self_eq_true, Nat.sub_zero, Nat.reduceSub, List.length_set, false_implies, implies_true, forall_const, ↓dnW_oca, Nat.reduceLT, evI_fn, Nat.zero_lt_one, dnW_o, dnW_om, dnW_oc, dnW_ite, dnW_join, thenD_some, thenD_ite, onIfD_bool, onJoinD_out, onJoinD_ret, onJoinD_ite, Int.reduceEq, WP_some, WP_ite, byOut_goto, byOut_ret, ↓iexec_len, ↓iexec_iaddr, ↓iexec_append, ↓iexec_store, storeF_ptr, lenF_nil, lenF_lst, lenF_sl, lenF_str, iaddrF_sl, iaddrF_lst, ↓o1, ↓o2, ↓o3, ↓o4, dcp awake18 rfl, dcp hfew (by simp [ipureL, ipure, hfr.pure, hfa.pure])]
  refine WP_call (Put_ok 1 _ _ _ P _ _ [IB.cells 0 [fr', fa'] false, IB.cells 0 [.sc (.slice none 0 0)] false].toArray (wire0 (J := #[IB.cells 0 [fr', fa'] false])) hr1 hr2 hP (by omega) (by simp)) fun v J1 hs => ?_
  obtain ⟨s1, w1, u1⟩ := hs
  rw [List.nil_append] at w1
  have h01 : J1[0]? = some (.cells 0 [fr', fa'] false) := by rw [u1.1.2 0 (by simp) (by simp [blk, blkOf])]; rfl
  simp -implicitDefEqProofs only [dn_ret, dn_goto, iexec, evI_0, evI_succ, evI_int, evI_bool, evI_nilsl, evI_nilp, List.cons_append, List.nil_append, scal2_sc, abin, aun, ilift_some, Option.map_some, Option.map_none, decide_eq_true_eq, List.map_cons, List.map_nil, reduceIte, if_true, if_false, Bool.false_eq_true, inew, iload, istore, iwr, ird, icells, ione, one, List.getElem?_toArray, List.getElem?_cons_zero, List.getElem?_cons_succ, List.push_toArray, List.size_toArray, List.length_cons, List.length_nil, List.setIfInBounds_toArray, List.set_cons_zero, List.set_cons_succ, isplice_cons, List.drop_succ_cons, List.drop_zero, List.take_succ_cons, List.take_zero, List.drop_nil, List.take_nil, List.append_nil, List.all_cons, List.all_nil, Bool.and_true, Bool.true_and, Bool.and_self, Nat.zero_add, Nat.add_zero, Nat.reduceAdd, Nat.reduceLeDiff, Nat.reduceMul, Nat.le_refl, true_and, and_true, and_self, List.getElem?_nil, BI_zc, BI_zv, BI_co, zcT, zvT, coT, not_true_eq_false, not_false_eq_true, Bool.not_true, Bool.not_false, stepI', wantsI, ifill, ievs, Nat.reduceEqDiff, itup, Nat.le_add_left, Nat.le_add_right, iaggEq, List.foldl, iminI, iminF, imin2, min2, iisNil, isNil, ilen, Option.isNone_none, Option.isNone_some, Nat.zero_le, decide_true, decide_false, ireps, List.replicate, List.flatten_cons, List.flatten_nil, ichk, itouch, ctouch, ilooks, isame, untouched, Option.isSome_some, Bool.or_true, Bool.true_or, List.contains_nil, Int.reduceLT, Int.reduceLE, blkOf, IntKind.bits, iasNat, asNat, Int.toNat_natCast, Int.natCast_nonneg, List.length_map, Int.reduceToNat, iscells, ibnd, islice, capOf, Option.isSome_none, Bool.false_and, Bool.and_false, Bool.or_false, Bool.false_or, bne_self_eq_false, Nat.not_lt_zero, Nat.mul_one, Nat.one_mul, Nat.zero_mul, Nat.mul_zero, beq_self_eq_true, Nat.sub_zero, Nat.reduceSub, List.length_set, false_implies, implies_true, forall_const, ↓dnW_oca, Nat.reduceLT, evI_fn, Nat.zero_lt_one, dnW_o, dnW_om, dnW_oc, dnW_ite, dnW_join, thenD_some, thenD_ite, onIfD_bool, onJoinD_out, onJoinD_ret, onJoinD_ite, Int.reduceEq, WP_some, WP_ite, byOut_goto, byOut_ret, ↓iexec_len, ↓iexec_iaddr, ↓iexec_append, ↓iexec_store, storeF_ptr, lenF_nil, lenF_lst, lenF_sl, lenF_str, iaddrF_sl, iaddrF_lst, h01, len1, len2, dn_loop]
  have hsum := putF_sum F P 0
  rw [List.drop_zero] at hsum
  refine WP_loop (by decide) (fun m vs J => ∃ (i : Nat) (w : Int), i + m = F.length ∧ vs = [.ptr 0 0 0, .ptr 1 0 0, .int .i64 w, fa', .int .i64 ((F.length : Nat) : Int), .int .i64 (i : Int)] ∧ Fr J1 J [] ∧ w + sumD (F.drop i) (P.length - i) = (putF F 0 P).length) ?_ F.length _ _ ⟨0, P.length, by omega, rfl, .refl _ _, by rw [hsum]; simp⟩
  rintro m vs J ⟨i, w, hi, rfl, hf, hw⟩ K1 g1 g2 g3
  have hab := sumD_abs (F.drop i) (P.length - i)
  have hal := putF_len F P 0
  have h0J : J[0]? = some (.cells 0 [fr', fa'] false) := by rw [hf.2 0 (lt_get h01) (by simp)]; exact h01
  refine counts_step i w fr' fa' P F hr1 hr2 (by omega) (by omega) (by omega) J h0J K1 (fun he => ?_) (fun h J' hf' => ?_)
  · refine g2 _ _ ?_
    have hw' : w = ((putF F 0 P).length : Nat) := by
      rw [List.drop_of_length_le (by omega), sumD] at hw
      omega
    have w2 := w1.fr hf (by simp) (by simp)
    have hsm := putF_small F P 0
    obtain ⟨t1, t2⟩ := three _ hsm
    generalize putF F 0 P = E at *
    have hE0 : ∀ e ∈ E, 0 ≤ e.2 ∧ e.2 ≤ 1000 := fun e he => by have := hsm e he; omega
    have hE1 := takeE_small hE0
    have hE2 := takeE_small hE1
    have l1 := takeE_len E
    have l2 := takeE_len (takeE E)
    have wt := Waiting_ok 1 s1 E J w2
    unfold l_law18_WireCounts_k1
    simp -implicitDefEqProofs only [dn_ret, dn_goto, iexec, evI_0, evI_succ, evI_int, evI_bool, evI_nilsl, evI_nilp, List.cons_append, List.nil_append, scal2_sc, abin, aun, ilift_some, Option.map_some, Option.map_none, decide_eq_true_eq, List.map_cons, List.map_nil, reduceIte, if_true, if_false, Bool.false_eq_true, inew, iload, istore, iwr, ird, icells, ione, one, List.getElem?_toArray, List.getElem?_cons_zero, List.getElem?_cons_succ, List.push_toArray, List.size_toArray, List.length_cons, List.length_nil, List.setIfInBounds_toArray, List.set_cons_zero, List.set_cons_succ, isplice_cons, List.drop_succ_cons, List.drop_zero, List.take_succ_cons, List.take_zero, List.drop_nil, List.take_nil, List.append_nil, List.all_cons, List.all_nil, Bool.and_true, Bool.true_and, Bool.and_self, Nat.zero_add, Nat.add_zero, Nat.reduceAdd, Nat.reduceLeDiff, Nat.reduceMul, Nat.le_refl, true_and, and_true, and_self, List.getElem?_nil, BI_zc, BI_zv, BI_co, zcT, zvT, coT, not_true_eq_false, not_false_eq_true, Bool.not_true, Bool.not_false, stepI', wantsI, ifill, ievs, Nat.reduceEqDiff, itup, Nat.le_add_left, Nat.le_add_right, iaggEq, List.foldl, iminI, iminF, imin2, min2, iisNil, isNil, ilen, Option.isNone_none, Option.isNone_some, Nat.zero_le, decide_true, decide_false, ireps, List.replicate, List.flatten_cons, List.flatten_nil, ichk, itouch, ctouch, ilooks, isame, untouched, Option.isSome_some, Bool.or_true, Bool.true_or, List.contains_nil, Int.reduceLT, Int.reduceLE, blkOf, IntKind.bits, iasNat, asNat, Int.toNat_natCast, Int.natCast_nonneg, List.length_map, Int.reduceToNat, iscells, ibnd, islice, capOf, Option.isSome_none, Bool.false_and, Bool.and_false, Bool.or_false, Bool.false_or, bne_self_eq_false, Nat.not_lt_zero, Nat.mul_one, Nat.one_mul, Nat.zero_mul, Nat.mul_zero, beq_self_eq_true, Nat.sub_zero, Nat.reduceSub, List.length_set, false_implies, implies_true, forall_const, ↓dnW_oca, Nat.reduceLT, evI_fn, Nat.zero_lt_one, dnW_o, dnW_om, dnW_oc, dnW_ite, dnW_join, thenD_some, thenD_ite, onIfD_bool, onJoinD_out, onJoinD_ret, onJoinD_ite, Int.reduceEq, WP_some, WP_ite, byOut_goto, byOut_ret, ↓iexec_len, ↓iexec_iaddr, ↓iexec_append, ↓iexec_store, storeF_ptr, lenF_nil, lenF_lst, lenF_sl, lenF_str, iaddrF_sl, iaddrF_lst, dcr wt]
    refine WP_call (Take_held 1 s1 _ J w2 hE0 (by omega)) fun a J2 hs => ?_
    obtain ⟨s2, xa, w3, ha, ba, u2⟩ := hs
    have la : ∀ J, lenF false a J = some (.int .i64 ((nowE E).length : Nat), J) := fun J => ha.1.lenF (by rw [ba.len, Nat.mul_one]) (by omega)
    simp -implicitDefEqProofs only [dn_ret, dn_goto, iexec, evI_0, evI_succ, evI_int, evI_bool, evI_nilsl, evI_nilp, List.cons_append, List.nil_append, scal2_sc, abin, aun, ilift_some, Option.map_some, Option.map_none, decide_eq_true_eq, List.map_cons, List.map_nil, reduceIte, if_true, if_false, Bool.false_eq_true, inew, iload, istore, iwr, ird, icells, ione, one, List.getElem?_toArray, List.getElem?_cons_zero, List.getElem?_cons_succ, List.push_toArray, List.size_toArray, List.length_cons, List.length_nil, List.setIfInBounds_toArray, List.set_cons_zero, List.set_cons_succ, isplice_cons, List.drop_succ_cons, List.drop_zero, List.take_succ_cons, List.take_zero, List.drop_nil, List.take_nil, List.append_nil, List.all_cons, List.all_nil, Bool.and_true, Bool.true_and, Bool.and_self, Nat.zero_add, Nat.add_zero, Nat.reduceAdd, Nat.reduceLeDiff, Nat.reduceMul, Nat.le_refl, true_and, and_true, and_self, List.getElem?_nil, BI_zc, BI_zv, BI_co, zcT, zvT, coT, not_true_eq_false, not_false_eq_true, Bool.not_true, Bool.not_false, stepI', wantsI, ifill, ievs, Nat.reduceEqDiff, itup, Nat.le_add_left, Nat.le_add_right, iaggEq, List.foldl, iminI, iminF, imin2, min2, iisNil, isNil, ilen, Option.isNone_none, Option.isNone_some, Nat.zero_le, decide_true, decide_false, ireps, List.replicate, List.flatten_cons, List.flatten_nil, ichk, itouch, ctouch, ilooks, isame, untouched, Option.isSome_some, Bool.or_true, Bool.true_or, List.contains_nil, Int.reduceLT, Int.reduceLE, blkOf, IntKind.bits, iasNat, asNat, Int.toNat_natCast, Int.natCast_nonneg, List.length_map, Int.reduceToNat, iscells, ibnd, islice, capOf, Option.isSome_none, Bool.false_and, Bool.and_false, Bool.or_false, Bool.false_or, bne_self_eq_false, Nat.not_lt_zero, Nat.mul_one, Nat.one_mul, Nat.zero_mul, Nat.mul_zero, beq_self_eq_true, Nat.sub_zero, Nat.reduceSub, List.length_set, false_implies, implies_true, forall_const, ↓dnW_oca, Nat.reduceLT, evI_fn, Nat.zero_lt_one, dnW_o, dnW_om, dnW_oc, dnW_ite, dnW_join, thenD_some, thenD_ite, onIfD_bool, onJoinD_out, onJoinD_ret, onJoinD_ite, Int.reduceEq, WP_some, WP_ite, byOut_goto, byOut_ret, ↓iexec_len, ↓iexec_iaddr, ↓iexec_append, ↓iexec_store, storeF_ptr, lenF_nil, lenF_lst, lenF_sl, lenF_str, iaddrF_sl, iaddrF_lst, la]
    refine WP_call (Take_held 1 s2 _ J2 w3 hE1 (by omega)) fun b J3 hs => ?_
    obtain ⟨s3, xb, w4, hb, bb, u3⟩ := hs
    have lb : ∀ J, lenF false b J = some (.int .i64 ((nowE (takeE E)).length : Nat), J) := fun J => hb.1.lenF (by rw [bb.len, Nat.mul_one]) (by omega)
    have q1 : IntKind.i64.wrap (((nowE E).length : Int) + ((nowE (takeE E)).length : Int)) = (((nowE E).length + (nowE (takeE E)).length : Nat) : Int) := by rw [wrap_i64 (by omega) (by omega)]; omega
    simp -implicitDefEqProofs only [dn_ret, dn_goto, iexec, evI_0, evI_succ, evI_int, evI_bool, evI_nilsl, evI_nilp, List.cons_append, List.nil_append, scal2_sc, abin, aun, ilift_some, Option.map_some, Option.map_none, decide_eq_true_eq, List.map_cons, List.map_nil, reduceIte, if_true, if_false, Bool.false_eq_true, inew, iload, istore, iwr, ird, icells, ione, one, List.getElem?_toArray, List.getElem?_cons_zero, List.getElem?_cons_succ, List.push_toArray, List.size_toArray, List.length_cons, List.length_nil, List.setIfInBounds_toArray, List.set_cons_zero, List.set_cons_succ, isplice_cons, List.drop_succ_cons, List.drop_zero, List.take_succ_cons, List.take_zero, List.drop_nil, List.take_nil, List.append_nil, List.all_cons, List.all_nil, Bool.and_true, Bool.true_and, Bool.and_self, Nat.zero_add, Nat.add_zero, Nat.reduceAdd, Nat.reduceLeDiff, Nat.reduceMul, Nat.le_refl, true_and, and_true, and_self, List.getElem?_nil, BI_zc, BI_zv, BI_co, zcT, zvT, coT, not_true_eq_false, not_false_eq_true, Bool.not_true, Bool.not_false, stepI', wantsI, ifill, ievs, Nat.reduceEqDiff, itup, Nat.le_add_left, Nat.le_add_right, iaggEq, List.foldl, iminI, iminF, imin2, min2, iisNil, isNil, ilen, Option.isNone_none, Option.isNone_some, Nat.zero_le, decide_true, decide_false, ireps, List.replicate, List.flatten_cons, List.flatten_nil, ichk, itouch, ctouch, ilooks, isame, untouched, Option.isSome_some, Bool.or_true, Bool.true_or, List.contains_nil, Int.reduceLT, Int.reduceLE, blkOf, IntKind.bits, iasNat, asNat, Int.toNat_natCast, Int.natCast_nonneg, List.length_map, Int.reduceToNat, iscells, ibnd, islice, capOf, Option.isSome_none, Bool.false_and, Bool.and_false, Bool.or_false, Bool.false_or, bne_self_eq_false, Nat.not_lt_zero, Nat.mul_one, Nat.one_mul, Nat.zero_mul, Nat.mul_zero, beq_self_eq_true, Nat.sub_zero, Nat.reduceSub, List.length_set, false_implies, implies_true, forall_const, ↓dnW_oca, Nat.reduceLT, evI_fn, Nat.zero_lt_one, dnW_o, dnW_om, dnW_oc, dnW_ite, dnW_join, thenD_some, thenD_ite, onIfD_bool, onJoinD_out, onJoinD_ret, onJoinD_ite, Int.reduceEq, WP_some, WP_ite, byOut_goto, byOut_ret, ↓iexec_len, ↓iexec_iaddr, ↓iexec_append, ↓iexec_store, storeF_ptr, lenF_nil, lenF_lst, lenF_sl, lenF_str, iaddrF_sl, iaddrF_lst, lb, q1]
    refine WP_call (Take_held 1 s3 _ J3 w4 hE2 (by omega)) fun c J4 hs => ?_
    obtain ⟨s4, xc, w5, hc, bc, u4⟩ := hs
    have lc : ∀ J, lenF false c J = some (.int .i64 ((nowE (takeE (takeE E))).length : Nat), J) := fun J => hc.1.lenF (by rw [bc.len, Nat.mul_one]) (by omega)
    have q2 : IntKind.i64.wrap ((((nowE E).length + (nowE (takeE E)).length : Nat) : Int) + ((nowE (takeE (takeE E))).length : Int)) = (E.length : Int) := by rw [wrap_i64 (by omega) (by omega)]; omega
    rw [t2] at w5
    have wt2 := Waiting_ok 1 s4 [] J4 w5
    subst hw'
    simp -implicitDefEqProofs only [dn_ret, dn_goto, iexec, evI_0, evI_succ, evI_int, evI_bool, evI_nilsl, evI_nilp, List.cons_append, List.nil_append, scal2_sc, abin, aun, ilift_some, Option.map_some, Option.map_none, decide_eq_true_eq, List.map_cons, List.map_nil, reduceIte, if_true, if_false, Bool.false_eq_true, inew, iload, istore, iwr, ird, icells, ione, one, List.getElem?_toArray, List.getElem?_cons_zero, List.getElem?_cons_succ, List.push_toArray, List.size_toArray, List.length_cons, List.length_nil, List.setIfInBounds_toArray, List.set_cons_zero, List.set_cons_succ, isplice_cons, List.drop_succ_cons, List.drop_zero, List.take_succ_cons, List.take_zero, List.drop_nil, List.take_nil, List.append_nil, List.all_cons, List.all_nil, Bool.and_true, Bool.true_and, Bool.and_self, Nat.zero_add, Nat.add_zero, Nat.reduceAdd, Nat.reduceLeDiff, Nat.reduceMul, Nat.le_refl, true_and, and_true, and_self, List.getElem?_nil, BI_zc, BI_zv, BI_co, zcT, zvT, coT, not_true_eq_false, not_false_eq_true, Bool.not_true, Bool.not_false, stepI', wantsI, ifill, ievs, Nat.reduceEqDiff, itup, Nat.le_add_left, Nat.le_add_right, iaggEq, List.foldl, iminI, iminF, imin2, min2, iisNil, isNil, ilen, Option.isNone_none, Option.isNone_some, Nat.zero_le, decide_true, decide_false, ireps, List.replicate, List.flatten_cons, List.flatten_nil, ichk, itouch, ctouch, ilooks, isame, untouched, Option.isSome_some, Bool.or_true, Bool.true_or, List.contains_nil, Int.reduceLT, Int.reduceLE, blkOf, IntKind.bits, iasNat, asNat, Int.toNat_natCast, Int.natCast_nonneg, List.length_map, Int.reduceToNat, iscells, ibnd, islice, capOf, Option.isSome_none, Bool.false_and, Bool.and_false, Bool.or_false, Bool.false_or, bne_self_eq_false, Nat.not_lt_zero, Nat.mul_one, Nat.one_mul, Nat.zero_mul, Nat.mul_zero, beq_self_eq_true, Nat.sub_zero, Nat.reduceSub, List.length_set, false_implies, implies_true, forall_const, ↓dnW_oca, Nat.reduceLT, evI_fn, Nat.zero_lt_one, dnW_o, dnW_om, dnW_oc, dnW_ite, dnW_join, thenD_some, thenD_ite, onIfD_bool, onJoinD_out, onJoinD_ret, onJoinD_ite, Int.reduceEq, WP_some, WP_ite, byOut_goto, byOut_ret, ↓iexec_len, ↓iexec_iaddr, ↓iexec_append, ↓iexec_store, storeF_ptr, lenF_nil, lenF_lst, lenF_sl, lenF_str, iaddrF_sl, iaddrF_lst, lc, q2, beq_self_eq_true, dcr wt2, List.length_nil, show (((0 : Nat) : Int) == 0) = true by decide]
    refine WP_call (Take_held 1 s4 _ J4 w5 (by simp) (by simp)) fun d J5 hs => ?_
    obtain ⟨s5, xd, w6, hd, bd, u5⟩ := hs
    have ld : ∀ J, lenF false d J = some (.int .i64 (0 : Nat), J) := fun J => hd.1.lenF (by rw [bd.len]; rfl) (by omega)
    simp -implicitDefEqProofs only [dn_ret, dn_goto, iexec, evI_0, evI_succ, evI_int, evI_bool, evI_nilsl, evI_nilp, List.cons_append, List.nil_append, scal2_sc, abin, aun, ilift_some, Option.map_some, Option.map_none, decide_eq_true_eq, List.map_cons, List.map_nil, reduceIte, if_true, if_false, Bool.false_eq_true, inew, iload, istore, iwr, ird, icells, ione, one, List.getElem?_toArray, List.getElem?_cons_zero, List.getElem?_cons_succ, List.push_toArray, List.size_toArray, List.length_cons, List.length_nil, List.setIfInBounds_toArray, List.set_cons_zero, List.set_cons_succ, isplice_cons, List.drop_succ_cons, List.drop_zero, List.take_succ_cons, List.take_zero, List.drop_nil, List.take_nil, List.append_nil, List.all_cons, List.all_nil, Bool.and_true, Bool.true_and, Bool.and_self, Nat.zero_add, Nat.add_zero, Nat.reduceAdd, Nat.reduceLeDiff, Nat.reduceMul, Nat.le_refl, true_and, and_true, and_self, List.getElem?_nil, BI_zc, BI_zv, BI_co, zcT, zvT, coT, not_true_eq_false, not_false_eq_true, Bool.not_true, Bool.not_false, stepI', wantsI, ifill, ievs, Nat.reduceEqDiff, itup, Nat.le_add_left, Nat.le_add_right, iaggEq, List.foldl, iminI, iminF, imin2, min2, iisNil, isNil, ilen, Option.isNone_none, Option.isNone_some, Nat.zero_le, decide_true, decide_false, ireps, List.replicate, List.flatten_cons, List.flatten_nil, ichk, itouch, ctouch, ilooks, isame, untouched, Option.isSome_some, Bool.or_true, Bool.true_or, List.contains_nil, Int.reduceLT, Int.reduceLE, blkOf, IntKind.bits, iasNat, asNat, Int.toNat_natCast, Int.natCast_nonneg, List.length_map, Int.reduceToNat, iscells, ibnd, islice, capOf, Option.isSome_none, Bool.false_and, Bool.and_false, Bool.or_false, Bool.false_or, bne_self_eq_false, Nat.not_lt_zero, Nat.mul_one, Nat.one_mul, Nat.zero_mul, Nat.mul_zero, beq_self_eq_true, Nat.sub_zero, Nat.reduceSub, List.length_set, false_implies, implies_true, forall_const, ↓dnW_oca, Nat.reduceLT, evI_fn, Nat.zero_lt_one, dnW_o, dnW_om, dnW_oc, dnW_ite, dnW_join, thenD_some, thenD_ite, onIfD_bool, onJoinD_out, onJoinD_ret, onJoinD_ite, Int.reduceEq, WP_some, WP_ite, byOut_goto, byOut_ret, ↓iexec_len, ↓iexec_iaddr, ↓iexec_append, ↓iexec_store, storeF_ptr, lenF_nil, lenF_lst, lenF_sl, lenF_str, iaddrF_sl, iaddrF_lst, ld, show (((0 : Nat) : Int) == 0) = true by decide]
    exact hK _ _ (frzE rfl rfl)
  · refine g1 _ (m - 1) _ (by omega) ⟨i + 1, _, by omega, rfl, hf.trans hf' (by simp), ?_⟩
    rw [List.drop_eq_getElem_cons h] at hw
    by_cases hp : i < P.length
    · obtain ⟨k, hk⟩ : ∃ k, P.length - i = k + 1 := ⟨P.length - i - 1, by omega⟩
      rw [hk, sumD] at hw
      rw [if_pos hp, show P.length - (i + 1) = k by omega]
      omega
    · rw [show P.length - i = 0 by omega, sumD] at hw
      rw [if_neg hp, show P.length - (i + 1) = 0 by omega]
      have : sumD (F.drop (i + 1)) 0 = 0 := by cases F.drop (i + 1) <;> rfl
      omega
end Go.Proofs.Ytohclaopcejjnaa.G
namespace Go.Proofs.Ytohclaopcejjnaa.G
open Go
set_option linter.unusedSimpArgs false
set_option linter.unusedVariables false
theorem choose_R {α : Type} {R : IV → α → Prop} : ∀ {ys : List IV}, (∀ y ∈ ys, ∃ a, R y a) → ∃ as : List α, ys.length = as.length ∧ ∀ i (h : i < ys.length) (h' : i < as.length), R ys[i] as[i]
  | [], _ => ⟨[], rfl, fun i h => by simp at h⟩
  | y :: ys, h => by
    obtain ⟨a, ha⟩ := h y (by simp)
    obtain ⟨as, h1, h2⟩ := choose_R (ys := ys) fun z hz => h z (by simp [hz])
    refine ⟨a :: as, by simp [h1], fun i hi hi' => ?_⟩
    cases i with
    | zero => exact ha
    | succ i => exact h2 i (by simpa using hi) (by simpa using hi')
theorem dec_list {α : Type} {P : Program} {R : IV → α → Prop} {d : Nat} {t e : TypeId} (ht : P.underlying t = some (.slice e)) (hel : ∀ cs, cs.length = P.cellsOf e → WT P d e cs → ∃ a, R (mkE (P.cellsOf e) cs) a) {cs : List IV} (h : WT P (d + 1) t cs) : ∃ x as, cs = [x] ∧ LsR (P.cellsOf e) R x as ∧ as.length ≤ maxLen := by
  rcases wt_slice ht h with rfl | ⟨ys, rfl, h1, h2⟩
  · exact ⟨_, [], rfl, .nil, by simp⟩
  · obtain ⟨as, h3, h4⟩ := choose_R (R := R) (ys := ys) fun y hy => by
      obtain ⟨cs, rfl, hl, hw⟩ := h2 y hy
      exact hel cs hl hw
    exact ⟨_, as, rfl, ⟨ys, .lst, h3, h4⟩, by omega⟩
def BsM (x : IV) (l : List Int) : Prop := Bs x l ∧ l.length ≤ maxLen ∧ ∀ z ∈ l, (Lit.int .u8 z).wf = true
theorem dec_bytes {P : Program} {d : Nat} {t u : TypeId} (ht : P.underlying t = some (.slice u)) (hu : P.underlying u = some (.int .u8)) (hc : P.cellsOf u = 1) {cs : List IV} (h : WT P (d + 2) t cs) : ∃ x l, cs = [x] ∧ BsM x l := by
  obtain ⟨zs, h1 | h1, h2, h3⟩ := wt_ints ht hu hc h
  · exact ⟨_, zs, h1.1, .inl ⟨rfl, by rw [h1.2]; rfl⟩, h2, h3⟩
  · exact ⟨_, zs, h1, .lst, h2, h3⟩
theorem LsR.imp {α : Type} {sz : Nat} {R S : IV → α → Prop} {x : IV} {as : List α} (h : LsR sz R x as) (hi : ∀ x a, R x a → S x a) : LsR sz S x as := by
  obtain ⟨xs, h1, h2, h3⟩ := h
  exact ⟨xs, h1, h2, fun i h h' => hi _ _ (h3 i h h')⟩
theorem LsR.all {α : Type} {sz : Nat} {R : IV → α → Prop} {x : IV} {as : List α} (h : LsR sz R x as) : ∀ a ∈ as, ∃ e, R e a := fun a ha => by
  obtain ⟨i, hi, rfl⟩ := List.mem_iff_getElem.1 ha
  obtain ⟨e, he, _⟩ := h.at hi
  exact ⟨e, he⟩
theorem dec_frames {P : Program} {d : Nat} {t e u : TypeId} (ht : P.underlying t = some (.slice e)) (he : P.underlying e = some (.slice u)) (hu : P.underlying u = some (.int .u8)) (hce : P.cellsOf e = 1) (hc : P.cellsOf u = 1) {cs : List IV} (h : WT P (d + 3) t cs) : ∃ x ps, cs = [x] ∧ LsR 1 BsM x ps ∧ ps.length ≤ maxLen := by
  obtain ⟨x, as, h1, h2, h3⟩ := dec_list (R := BsM) ht (fun cs hl hw => by
    obtain ⟨x, l, rfl, hx⟩ := dec_bytes he hu hc hw
    exact ⟨l, by rw [hce]; exact hx⟩) h
  rw [hce] at h2
  exact ⟨x, as, h1, h2, h3⟩
theorem wf_fault {h a m : Int} (h1 : (Lit.int .u8 h).wf = true) (h2 : (Lit.int .u16 a).wf = true) (h3 : (Lit.int .u32 m).wf = true) : ∃ f : FaultT, f.cells = [.int .u8 h, .int .u16 a, .int .u32 m] ∧ f.ok := by
  have := wf_u8 h1
  have := wf_u16 h2
  have := wf_u32 h3
  obtain ⟨n, rfl⟩ := Int.eq_ofNat_of_zero_le (show 0 ≤ h by omega)
  obtain ⟨k, rfl⟩ := Int.eq_ofNat_of_zero_le (show 0 ≤ a by omega)
  exact ⟨⟨n, k, m⟩, rfl, by show n < 256; omega, by show k < 65536; omega, by show 0 ≤ m; omega, by show m < 4294967296; omega⟩
theorem dec_fault {P : Program} {d : Nat} {e a b c : TypeId} {fs : Array Field} (he : P.underlying e = some (.struct fs)) (hf : fs.toList.map (·.type) = [a, b, c]) (ha : P.underlying a = some (.int .u8)) (hb : P.underlying b = some (.int .u16)) (hc : P.underlying c = some (.int .u32)) {cs : List IV} (h : WT P (d + 2) e cs) : ∃ f : FaultT, cs = f.cells ∧ f.ok := by
  have hs := wt_struct he h
  generalize fs.toList = l at *
  match l, hf with
  | [x, y, z], hf =>
    simp only [List.map_cons, List.map_nil, List.cons.injEq, and_true] at hf
    obtain ⟨rfl, rfl, rfl⟩ := hf
    obtain ⟨_, _, rfl, h1, _, _, rfl, h2, _, _, rfl, h3, rfl⟩ := hs
    obtain ⟨n, rfl, w1⟩ := wt_int ha h1
    obtain ⟨k, rfl, w2⟩ := wt_int hb h2
    obtain ⟨m, rfl, w3⟩ := wt_int hc h3
    obtain ⟨f, hf, hok⟩ := wf_fault w1 w2 w3
    exact ⟨f, by rw [hf]; rfl, hok⟩
theorem dec_faults {P : Program} {d : Nat} {t e a b c : TypeId} {fs : Array Field} (ht : P.underlying t = some (.slice e)) (he : P.underlying e = some (.struct fs)) (hf : fs.toList.map (·.type) = [a, b, c]) (ha : P.underlying a = some (.int .u8)) (hb : P.underlying b = some (.int .u16)) (hc : P.underlying c = some (.int .u32)) (hce : P.cellsOf e = 3) {cs : List IV} (h : WT P (d + 3) t cs) : ∃ x fs, cs = [x] ∧ LsR 3 FR x fs ∧ fs.length ≤ maxLen := by
  obtain ⟨x, as, h1, h2, h3⟩ := dec_list (R := FR) ht (fun cs hl hw => by
    obtain ⟨f, rfl, hok⟩ := dec_fault he hf ha hb hc hw
    exact ⟨f, by rw [hce]; rfl, hok⟩) h
  rw [hce] at h2
  exact ⟨x, as, h1, h2, h3⟩
theorem dec_two {P : Program} {d : Nat} {t a b : TypeId} {fs : Array Field} (ht : P.underlying t = some (.struct fs)) (hf : fs.toList.map (·.type) = [a, b]) {cs : List IV} (h : WT P (d + 1) t cs) : ∃ x y, cs = x ++ y ∧ WT P d a x ∧ WT P d b y := by
  have hs := wt_struct ht h
  generalize fs.toList = l at *
  match l, hf with
  | [x, y], hf =>
    simp only [List.map_cons, List.map_nil, List.cons.injEq, and_true] at hf
    obtain ⟨rfl, rfl⟩ := hf
    obtain ⟨p, _, rfl, h1, q, _, rfl, h2, rfl⟩ := hs
    exact ⟨p, q, by simp, h1, h2⟩
end Go.Proofs.Ytohclaopcejjnaa.G
namespace Go.Proofs.Ytohclaopcejjnaa.G
open Go
set_option linter.unusedSimpArgs false
set_option linter.unusedVariables false
def reachF (J : JH) (l : List IV) : Option (List Nat) := reach J l
theorem dnW_occ {ρ : List IV} {J : JH} {f : FuncId} {args : List Operand} {chk} {k : L} : dn BI (oc none (.call f args) .raw chk k) ρ J = thenC (ic BI f (args.map (evI ρ)) J) J chk (reachF J (args.map (evI ρ))) ρ k := by
  rw [dnW_oc, step_chk]
  have h : iexec BI (ic BI) .raw ρ (.call f args) J = ic BI f (args.map (evI ρ)) J := rfl
  have ht : itouch BI .raw ρ (.call f args) J = reachF J (args.map (evI ρ)) := rfl
  rw [h, ht]
  unfold thenC
  generalize ic BI f (args.map (evI ρ)) J = r
  cases r with
  | none => rfl
  | some q =>
    by_cases hh : chk.all (ichk J q.2 (reachF J (args.map (evI ρ))) ρ) = true
    · simp only [hh, if_true]; rfl
    · simp only [hh]; rfl
theorem WireAt.reach {J : JH} {b : Nat} {s : IV} {E} (h : WireAt J b s E) : reachF J [.ptr b 0 0] = some (b :: blk s) := by
  obtain ⟨hb, hbs, cs, hg, he⟩ := h
  rcases hg with ⟨rfl, rfl⟩ | ⟨c, v, n, full, rfl, h1, h2, h3, h4⟩
  · have hr : refsB J b = [] := by simp [refsB, hb, irefsL, irefs]
    have key : ∀ k, reachN J (k + 1) [b] = [b] := fun k => by simp [reachN, hr]
    have h40 := key 39
    simp only [reachF, Go.Proofs.Ytohclaopcejjnaa.G.reach, irefsL, irefs, List.append_nil, h40]
    simp [hr, blk, blkOf]
  · have hbc : b ≠ c := fun h => hbs (by simp [blk, blkOf, h])
    have hr : refsB J b = [c] := by simp [refsB, hb, irefsL, irefs]
    have hf : irefsL full = [] := by
      rw [← List.take_append_drop (n * 2) full, irefsL_append, h3, h4, irefsL_pure _ he.pure]; rfl
    have hc : refsB J c = [] := by simp [refsB, h1, hf]
    have hcb : c ≠ b := fun h => hbc h.symm
    have key : ∀ k, reachN J (k + 1 + 1) [b] = [b, c] := fun k => by
      have hd : List.eraseDupsBy (fun x1 x2 : Nat => x1 == x2) [c] = [c] := by simp [List.eraseDupsBy, List.eraseDupsBy.loop]
      have hd0 : List.eraseDupsBy (fun x1 x2 : Nat => x1 == x2) [] = [] := by simp [List.eraseDupsBy, List.eraseDupsBy.loop]
      simp [reachN, hr, hc, hcb, hbc, List.eraseDups, hd, hd0]
    have h40 := key 38
    simp only [reachF, Go.Proofs.Ytohclaopcejjnaa.G.reach, irefsL, irefs, List.append_nil, h40]
    simp [hr, hc, blk, blkOf]
end Go.Proofs.Ytohclaopcejjnaa.G
namespace Go.Proofs.Ytohclaopcejjnaa.G
open Go
set_option linter.unusedSimpArgs false
set_option linter.unusedVariables false
theorem BsA.of : ∀ {X P}, X.length = P.length → (∀ i (h : i < X.length) (h' : i < P.length), Bs X[i] P[i]) → BsA X P
  | [], [], _, _ => trivial
  | x :: X, p :: P, hl, h => ⟨h 0 (by simp) (by simp), BsA.of (by simpa using hl) fun i h1 h2 => h (i + 1) (by simpa using h1) (by simpa using h2)⟩
  | [], _ :: _, hl, _ => by simp at hl
  | _ :: _, [], hl, _ => by simp at hl
theorem BsA.app : ∀ {X P Y Q}, BsA X P → BsA Y Q → BsA (X ++ Y) (P ++ Q)
  | [], [], _, _, _, k => k
  | x :: X, p :: P, _, _, h, k => ⟨h.1, BsA.app h.2 k⟩
  | [], _ :: _, _, _, h, _ => h.elim
  | _ :: _, [], _, _, h, _ => h.elim
theorem BsA.ones : ∀ {X P}, BsA X P → X.flatMap icells = X
  | [], [], _ => rfl
  | x :: X, p :: P, h => by rw [List.flatMap_cons, h.1.icells, BsA.ones h.2]; rfl
  | [], _ :: _, h => h.elim
  | _ :: _, [], h => h.elim
/-- a slice that grows, or an empty one in the open -/
def G0 (J : JH) (x : IV) (cs : List IV) : Prop := Grow J x 1 cs ∨ (x = .lst 1 true [] ∧ cs = [])
theorem G0.app {J : JH} {s y : IV} {cs ds : List IV} (h : G0 J s cs) (hy : Ls 1 y ds) (hi : ds.flatMap icells = ds) (ho : ds.all ione = true) (hf : cs.length + ds.length ≤ 1000000) :
    RP (appF 1 24 s y J) fun s' J' => G0 J' s' (cs ++ ds) ∧ Fr J J' (blk s) ∧ (∀ b ∈ blk s', b ∈ blk s ∨ J.size ≤ b) := by
  rcases h with h | ⟨rfl, rfl⟩
  · exact RP_mono (h.app (by omega) (by rw [hy.cells, hi]) hy.ilen (by omega) ho (fits24 hf)) fun s' J' q => ⟨.inl q.1, q.2⟩
  · unfold appF iappend
    rw [if_pos (by omega), hy.cells, hi, hy.ilen]
    simp only
    by_cases h0 : ds.length = 0
    · have : ds = [] := List.eq_nil_of_length_eq_zero h0
      subst this
      simp only [List.length_nil, if_true, RP_some]
      exact ⟨.inr ⟨rfl, rfl⟩, .refl _ _, fun b hb => .inl hb⟩
    · have hfit : fits (([] : List IV).length + ds.length) 24 = true := fits24 (by simpa using hf)
      simp only [if_neg h0, hfit, ho, Bool.true_and, Bool.and_true, beq_self_eq_true, Bool.and_self, if_true, RP_some]
      refine ⟨.inl (.inr ⟨J.size, 0, ds.length, ds, by simp, by simp, by omega, by rw [Nat.mul_one, List.take_length]; rfl, by rw [Nat.mul_one, List.drop_length]; rfl⟩), .push _ _ _, by simp [blk, blkOf]⟩
theorem G0.frz {J : JH} {s : IV} {cs : List IV} (h : G0 J s cs) (hp : ipureL cs = true) (ho : cs.all ione = true) : ∃ u, (∀ k, frz J (k + 1) s = some u) ∧ Ls 1 u cs := by
  rcases h with h | ⟨rfl, rfl⟩
  · exact h.frzE1 hp ho
  · exact ⟨_, fun k => frz_pure J _ rfl, .lst⟩
theorem G0.blkF {J : JH} {s : IV} {cs : List IV} (h : G0 J s cs) : blkF s = some (blk s) := by
  rcases h with h | ⟨rfl, rfl⟩
  · exact h.blkF
  · rfl
theorem G0.low {J : JH} {s : IV} {cs : List IV} (h : G0 J s cs) : ∀ b ∈ blk s, b < J.size := by
  rcases h with h | ⟨rfl, rfl⟩
  · exact h.low
  · simp [blk, blkOf]
theorem putF_nil : ∀ (P : List (List Int)) (i : Nat), putF [] i P = P.map fun p => (p, (0 : Int))
  | [], i => rfl
  | p :: P, i => by
    rw [putF, putF_nil P (i + 1)]
    rfl
theorem now_all (P : List (List Int)) : nowE (P.map fun p => (p, (0 : Int))) = P ∧ takeE (P.map fun p => (p, (0 : Int))) = [] := by
  induction P with
  | nil => exact ⟨rfl, rfl⟩
  | cons p P ih =>
    unfold nowE takeE at *
    simp at ih ⊢
    exact ih
theorem Keeps_ok {x y : IV} {ps qs : List (List Int)} (hx : LsR 1 Bs x ps) (hy : LsR 1 Bs y qs) (h1 : ∀ p ∈ ps, p.length ≤ 9223372036854775807) (h2 : ps.length ≤ 9223372036854775807) (h3 : ∀ p ∈ qs, p.length ≤ 9223372036854775807) (h4 : qs.length ≤ 9223372036854775807) : pc BI F_law18_WireKeeps [x, y] = some (.bool true) := by
  obtain ⟨fr, fa, la, hfew, hr1, hr2, _⟩ := few_ok x _ ps [] hx .nil h1 h2 (by simp)
  obtain ⟨gr, ga, lb, hgew, hq1, hq2, _⟩ := few_ok y _ qs [] hy .nil h3 h4 (by simp)
  have hP : ∀ (ps : List (List Int)), ∀ p ∈ (ps.take 8).map (fun x => x.take 40), p.length ≤ 1000000 := fun ps p hp => by
    obtain ⟨q, _, rfl⟩ := List.mem_map.1 hp
    rw [List.length_take]; omega
  have hPl : ∀ (ps : List (List Int)), ((ps.take 8).map (fun x => x.take 40)).length ≤ 8 := fun ps => by simp; omega
  have p1 := hP ps
  have p2 := hP qs
  have p3 := hPl ps
  have p4 := hPl qs
  generalize (ps.take 8).map (fun x => x.take 40) = P at *
  generalize (qs.take 8).map (fun x => x.take 40) = Q at *
  refine pcE fn_law18_WireKeeps rfl fun K hK => ?_
  have o1 := hx.one
  have o2 := hy.one
  have o3 := hr1.one
  have o4 := hr2.one
  have o5 := hq1.one
  have o6 := hq2.one
  have i1 : icells x = [x] := hx.choose_spec.1.icells
  have i2 : icells y = [y] := hy.choose_spec.1.icells
  unfold l_law18_WireKeeps
  simp -implicitDefEqProofs only [dn_ret, dn_goto, iexec, evI_0, evI_succ, evI_int, evI_bool, evI_nilsl, evI_nilp, List.cons_append, List.nil_append, scal2_sc, abin, aun, ilift_some, Option.map_some, Option.map_none, decide_eq_true_eq, List.map_cons, List.map_nil, reduceIte, if_true, if_false, Bool.false_eq_true, inew, iload, istore, iwr, ird, icells, ione, one, List.getElem?_toArray, List.getElem?_cons_zero, List.getElem?_cons_succ, List.push_toArray, List.size_toArray, List.length_cons, List.length_nil, List.setIfInBounds_toArray, List.set_cons_zero, List.set_cons_succ, isplice_cons, List.drop_succ_cons, List.drop_zero, List.take_succ_cons, List.take_zero, List.drop_nil, List.take_nil, List.append_nil, List.all_cons, List.all_nil, Bool.and_true, Bool.true_and, Bool.and_self, Nat.zero_add, Nat.add_zero, Nat.reduceAdd, Nat.reduceLeDiff, Nat.reduceMul, Nat.le_refl, true_and, and_true, and_self, List.getElem?_nil, BI_zc, BI_zv, BI_co, zcT, zvT, coT, not_true_eq_false, not_false_eq_true, Bool.not_true, Bool.not_false, stepI', wantsI, ifill, ievs, Nat.reduceEqDiff, itup, Nat.le_add_left, Nat.le_add_right, iaggEq, List.foldl, iminI, iminF, imin2, min2, iisNil, isNil, ilen, Option.isNone_none, Option.isNone_some, Nat.zero_le, decide_true, decide_false, ireps, List.replicate, List.flatten_cons, List.flatten_nil, ichk, itouch, ctouch, ilooks, isame, untouched, Option.isSome_some, Bool.or_true, Bool.true_or, List.contains_nil, Int.reduceLT, Int.reduceLE, blkOf, IntKind.bits, iasNat, asNat, Int.toNat_natCast, Int.natCast_nonneg, List.length_map, Int.reduceToNat, iscells, ibnd, islice, capOf, Option.isSome_none, Bool.false_and, Bool.and_false, Bool.or_false, Bool.false_or, bne_self_eq_false, Nat.not_lt_zero, Nat.mul_one, Nat.one_mul, Nat.zero_mul, Nat.mul_zero, beq_self_eq_true, Nat.sub_zero, Nat.reduceSub, List.length_set, false_implies, implies_true, forall_const, ↓dnW_oca, Nat.reduceLT, evI_fn, Nat.zero_lt_one, dnW_o, dnW_om, dnW_oc, dnW_ite, dnW_join, thenD_some, thenD_ite, onIfD_bool, onJoinD_out, onJoinD_ret, onJoinD_ite, Int.reduceEq, WP_some, WP_ite, byOut_goto, byOut_ret, ↓iexec_len, ↓iexec_iaddr, ↓iexec_append, ↓iexec_store, storeF_ptr, lenF_nil, lenF_lst, lenF_sl, lenF_str, iaddrF_sl, iaddrF_lst, ↓o1, ↓o2, ↓o3, ↓o4, ↓o5, ↓o6, ↓i1, ↓i2, ↓dnW_occ, dcp awake18 rfl, dcp hfew (by simp [ipureL, ipure, hx.pure]), dcp hgew (by simp [ipureL, ipure, hy.pure])]
  obtain ⟨X, hX1, hX2, hX3⟩ := hr1
  obtain ⟨Z, hZ1, hZ2, hZ3⟩ := hq1
  have bX := BsA.of hX2 hX3
  have bZ := BsA.of hZ2 hZ3
  have hr1 : LsR 1 Bs fr P := ⟨X, hX1, hX2, hX3⟩
  have hq1 : LsR 1 Bs gr Q := ⟨Z, hZ1, hZ2, hZ3⟩
  refine WP_call (Put_ok 2 _ _ _ P [] _ [IB.cells 0 [fr, fa] false, IB.cells 0 [gr, ga] false, IB.cells 0 [.sc (.slice none 0 0)] false].toArray (wire0 (J := #[IB.cells 0 [fr, fa] false, IB.cells 0 [gr, ga] false])) hr1 .nil p1 (by omega) (by simp)) fun v J1 hs => ?_
  obtain ⟨s1, w1, u1⟩ := hs
  have a0 : J1[0]? = some (.cells 0 [fr, fa] false) := by rw [u1.1.2 0 (by simp) (by simp [blk, blkOf])]; rfl
  have a1 : J1[1]? = some (.cells 0 [gr, ga] false) := by rw [u1.1.2 1 (by simp) (by simp [blk, blkOf])]; rfl
  have n0 : 0 ∉ blk s1 := fun h => by
    rcases u1.2 0 h with h | h
    · simp [blk, blkOf] at h
    · simp at h
  have n1 : 1 ∉ blk s1 := fun h => by
    rcases u1.2 1 h with h | h
    · simp [blk, blkOf] at h
    · simp at h
  rw [List.nil_append, putF_nil] at w1
  simp -implicitDefEqProofs only [dn_ret, dn_goto, iexec, evI_0, evI_succ, evI_int, evI_bool, evI_nilsl, evI_nilp, List.cons_append, List.nil_append, scal2_sc, abin, aun, ilift_some, Option.map_some, Option.map_none, decide_eq_true_eq, List.map_cons, List.map_nil, reduceIte, if_true, if_false, Bool.false_eq_true, inew, iload, istore, iwr, ird, icells, ione, one, List.getElem?_toArray, List.getElem?_cons_zero, List.getElem?_cons_succ, List.push_toArray, List.size_toArray, List.length_cons, List.length_nil, List.setIfInBounds_toArray, List.set_cons_zero, List.set_cons_succ, isplice_cons, List.drop_succ_cons, List.drop_zero, List.take_succ_cons, List.take_zero, List.drop_nil, List.take_nil, List.append_nil, List.all_cons, List.all_nil, Bool.and_true, Bool.true_and, Bool.and_self, Nat.zero_add, Nat.add_zero, Nat.reduceAdd, Nat.reduceLeDiff, Nat.reduceMul, Nat.le_refl, true_and, and_true, and_self, List.getElem?_nil, BI_zc, BI_zv, BI_co, zcT, zvT, coT, not_true_eq_false, not_false_eq_true, Bool.not_true, Bool.not_false, stepI', wantsI, ifill, ievs, Nat.reduceEqDiff, itup, Nat.le_add_left, Nat.le_add_right, iaggEq, List.foldl, iminI, iminF, imin2, min2, iisNil, isNil, ilen, Option.isNone_none, Option.isNone_some, Nat.zero_le, decide_true, decide_false, ireps, List.replicate, List.flatten_cons, List.flatten_nil, ichk, itouch, ctouch, ilooks, isame, untouched, Option.isSome_some, Bool.or_true, Bool.true_or, List.contains_nil, Int.reduceLT, Int.reduceLE, blkOf, IntKind.bits, iasNat, asNat, Int.toNat_natCast, Int.natCast_nonneg, List.length_map, Int.reduceToNat, iscells, ibnd, islice, capOf, Option.isSome_none, Bool.false_and, Bool.and_false, Bool.or_false, Bool.false_or, bne_self_eq_false, Nat.not_lt_zero, Nat.mul_one, Nat.one_mul, Nat.zero_mul, Nat.mul_zero, beq_self_eq_true, Nat.sub_zero, Nat.reduceSub, List.length_set, false_implies, implies_true, forall_const, ↓dnW_oca, Nat.reduceLT, evI_fn, Nat.zero_lt_one, dnW_o, dnW_om, dnW_oc, dnW_ite, dnW_join, thenD_some, thenD_ite, onIfD_bool, onJoinD_out, onJoinD_ret, onJoinD_ite, Int.reduceEq, WP_some, WP_ite, byOut_goto, byOut_ret, ↓iexec_len, ↓iexec_iaddr, ↓iexec_append, ↓iexec_store, storeF_ptr, lenF_nil, lenF_lst, lenF_sl, lenF_str, iaddrF_sl, iaddrF_lst, a0, a1, ↓dnW_occ]
  refine WP_call (Put_ok 2 s1 _ _ Q [] _ J1 w1 hq1 .nil p2 (by omega) (by simp; omega)) fun v J2 hs => ?_
  obtain ⟨s2, w2, u2⟩ := hs
  rw [putF_nil, ← List.map_append] at w2
  have b0 : J2[0]? = some (.cells 0 [fr, fa] false) := by rw [u2.1.2 0 (lt_get a0) (by simp [n0])]; exact a0
  have b1 : J2[1]? = some (.cells 0 [gr, ga] false) := by rw [u2.1.2 1 (lt_get a1) (by simp [n1])]; exact a1
  have m0 : 0 ∉ blk s2 := fun h => by
    rcases u2.2 0 h with h | h
    · exact n0 h
    · have := lt_get a0; omega
  have m1 : 1 ∉ blk s2 := fun h => by
    rcases u2.2 1 h with h | h
    · exact n1 h
    · have := lt_get a1; omega
  have hre := w2.reach
  simp -implicitDefEqProofs only [dn_ret, dn_goto, iexec, evI_0, evI_succ, evI_int, evI_bool, evI_nilsl, evI_nilp, List.cons_append, List.nil_append, scal2_sc, abin, aun, ilift_some, Option.map_some, Option.map_none, decide_eq_true_eq, List.map_cons, List.map_nil, reduceIte, if_true, if_false, Bool.false_eq_true, inew, iload, istore, iwr, ird, icells, ione, one, List.getElem?_toArray, List.getElem?_cons_zero, List.getElem?_cons_succ, List.push_toArray, List.size_toArray, List.length_cons, List.length_nil, List.setIfInBounds_toArray, List.set_cons_zero, List.set_cons_succ, isplice_cons, List.drop_succ_cons, List.drop_zero, List.take_succ_cons, List.take_zero, List.drop_nil, List.take_nil, List.append_nil, List.all_cons, List.all_nil, Bool.and_true, Bool.true_and, Bool.and_self, Nat.zero_add, Nat.add_zero, Nat.reduceAdd, Nat.reduceLeDiff, Nat.reduceMul, Nat.le_refl, true_and, and_true, and_self, List.getElem?_nil, BI_zc, BI_zv, BI_co, zcT, zvT, coT, not_true_eq_false, not_false_eq_true, Bool.not_true, Bool.not_false, stepI', wantsI, ifill, ievs, Nat.reduceEqDiff, itup, Nat.le_add_left, Nat.le_add_right, iaggEq, List.foldl, iminI, iminF, imin2, min2, iisNil, isNil, ilen, Option.isNone_none, Option.isNone_some, Nat.zero_le, decide_true, decide_false, ireps, List.replicate, List.flatten_cons, List.flatten_nil, ichk, itouch, ctouch, ilooks, isame, untouched, Option.isSome_some, Bool.or_true, Bool.true_or, List.contains_nil, Int.reduceLT, Int.reduceLE, blkOf, IntKind.bits, iasNat, asNat, Int.toNat_natCast, Int.natCast_nonneg, List.length_map, Int.reduceToNat, iscells, ibnd, islice, capOf, Option.isSome_none, Bool.false_and, Bool.and_false, Bool.or_false, Bool.false_or, bne_self_eq_false, Nat.not_lt_zero, Nat.mul_one, Nat.one_mul, Nat.zero_mul, Nat.mul_zero, beq_self_eq_true, Nat.sub_zero, Nat.reduceSub, List.length_set, false_implies, implies_true, forall_const, ↓dnW_oca, Nat.reduceLT, evI_fn, Nat.zero_lt_one, dnW_o, dnW_om, dnW_oc, dnW_ite, dnW_join, thenD_some, thenD_ite, onIfD_bool, onJoinD_out, onJoinD_ret, onJoinD_ite, Int.reduceEq, WP_some, WP_ite, byOut_goto, byOut_ret, ↓iexec_len, ↓iexec_iaddr, ↓iexec_append, ↓iexec_store, storeF_ptr, lenF_nil, lenF_lst, lenF_sl, lenF_str, iaddrF_sl, iaddrF_lst, b0, b1, ↓dnW_occ, hre, ipureL, ipure, grp, mkE, UNK_pos]
  obtain ⟨q1, q2⟩ := now_all (P ++ Q)
  have hlen : ((P ++ Q).map fun p => (p, (0 : Int))).length ≤ 100000 := by simp; omega
  refine WP_bindC (Take_held 2 s2 _ J2 w2 (fun e he => by obtain ⟨p, _, rfl⟩ := List.mem_map.1 he; simp) hlen) fun a J3 hs => ?_
  obtain ⟨s3, xs, w3, ha, ba, u3⟩ := hs
  rw [q1] at ba
  rw [q2] at w3
  have c0 : J3[0]? = some (.cells 0 [fr, fa] false) := by rw [u3.1.2 0 (lt_get b0) (by simp [m0])]; exact b0
  have c1 : J3[1]? = some (.cells 0 [gr, ga] false) := by rw [u3.1.2 1 (lt_get b1) (by simp [m1])]; exact b1
  have k0 : (2 :: blk s2).contains 0 = false := by simp [m0]
  have k1 : (2 :: blk s2).contains 1 = false := by simp [m1]
  refine ⟨?_, ?_⟩
  · simp -implicitDefEqProofs only [dn_ret, dn_goto, iexec, evI_0, evI_succ, evI_int, evI_bool, evI_nilsl, evI_nilp, List.cons_append, List.nil_append, scal2_sc, abin, aun, ilift_some, Option.map_some, Option.map_none, decide_eq_true_eq, List.map_cons, List.map_nil, reduceIte, if_true, if_false, Bool.false_eq_true, inew, iload, istore, iwr, ird, icells, ione, one, List.getElem?_toArray, List.getElem?_cons_zero, List.getElem?_cons_succ, List.push_toArray, List.size_toArray, List.length_cons, List.length_nil, List.setIfInBounds_toArray, List.set_cons_zero, List.set_cons_succ, isplice_cons, List.drop_succ_cons, List.drop_zero, List.take_succ_cons, List.take_zero, List.drop_nil, List.take_nil, List.append_nil, List.all_cons, List.all_nil, Bool.and_true, Bool.true_and, Bool.and_self, Nat.zero_add, Nat.add_zero, Nat.reduceAdd, Nat.reduceLeDiff, Nat.reduceMul, Nat.le_refl, true_and, and_true, and_self, List.getElem?_nil, BI_zc, BI_zv, BI_co, zcT, zvT, coT, not_true_eq_false, not_false_eq_true, Bool.not_true, Bool.not_false, stepI', wantsI, ifill, ievs, Nat.reduceEqDiff, itup, Nat.le_add_left, Nat.le_add_right, iaggEq, List.foldl, iminI, iminF, imin2, min2, iisNil, isNil, ilen, Option.isNone_none, Option.isNone_some, Nat.zero_le, decide_true, decide_false, ireps, List.replicate, List.flatten_cons, List.flatten_nil, ichk, itouch, ctouch, ilooks, isame, untouched, Option.isSome_some, Bool.or_true, Bool.true_or, List.contains_nil, Int.reduceLT, Int.reduceLE, blkOf, IntKind.bits, iasNat, asNat, Int.toNat_natCast, Int.natCast_nonneg, List.length_map, Int.reduceToNat, iscells, ibnd, islice, capOf, Option.isSome_none, Bool.false_and, Bool.and_false, Bool.or_false, Bool.false_or, bne_self_eq_false, Nat.not_lt_zero, Nat.mul_one, Nat.one_mul, Nat.zero_mul, Nat.mul_zero, beq_self_eq_true, Nat.sub_zero, Nat.reduceSub, List.length_set, false_implies, implies_true, forall_const, ↓dnW_oca, Nat.reduceLT, evI_fn, Nat.zero_lt_one, dnW_o, dnW_om, dnW_oc, dnW_ite, dnW_join, thenD_some, thenD_ite, onIfD_bool, onJoinD_out, onJoinD_ret, onJoinD_ite, Int.reduceEq, WP_some, WP_ite, byOut_goto, byOut_ret, ↓iexec_len, ↓iexec_iaddr, ↓iexec_append, ↓iexec_store, storeF_ptr, lenF_nil, lenF_lst, lenF_sl, lenF_str, iaddrF_sl, iaddrF_lst, b0, b1, c0, c1, k0, k1]
  · have hbk : blkF (.lst 1 true []) = some [] := rfl
    simp -implicitDefEqProofs only [dn_ret, dn_goto, iexec, evI_0, evI_succ, evI_int, evI_bool, evI_nilsl, evI_nilp, List.cons_append, List.nil_append, scal2_sc, abin, aun, ilift_some, Option.map_some, Option.map_none, decide_eq_true_eq, List.map_cons, List.map_nil, reduceIte, if_true, if_false, Bool.false_eq_true, inew, iload, istore, iwr, ird, icells, ione, one, List.getElem?_toArray, List.getElem?_cons_zero, List.getElem?_cons_succ, List.push_toArray, List.size_toArray, List.length_cons, List.length_nil, List.setIfInBounds_toArray, List.set_cons_zero, List.set_cons_succ, isplice_cons, List.drop_succ_cons, List.drop_zero, List.take_succ_cons, List.take_zero, List.drop_nil, List.take_nil, List.append_nil, List.all_cons, List.all_nil, Bool.and_true, Bool.true_and, Bool.and_self, Nat.zero_add, Nat.add_zero, Nat.reduceAdd, Nat.reduceLeDiff, Nat.reduceMul, Nat.le_refl, true_and, and_true, and_self, List.getElem?_nil, BI_zc, BI_zv, BI_co, zcT, zvT, coT, not_true_eq_false, not_false_eq_true, Bool.not_true, Bool.not_false, stepI', wantsI, ifill, ievs, Nat.reduceEqDiff, itup, Nat.le_add_left, Nat.le_add_right, iaggEq, List.foldl, iminI, iminF, imin2, min2, iisNil, isNil, ilen, Option.isNone_none, Option.isNone_some, Nat.zero_le, decide_true, decide_false, ireps, List.replicate, List.flatten_cons, List.flatten_nil, ichk, itouch, ctouch, ilooks, isame, untouched, Option.isSome_some, Bool.or_true, Bool.true_or, List.contains_nil, Int.reduceLT, Int.reduceLE, blkOf, IntKind.bits, iasNat, asNat, Int.toNat_natCast, Int.natCast_nonneg, List.length_map, Int.reduceToNat, iscells, ibnd, islice, capOf, Option.isSome_none, Bool.false_and, Bool.and_false, Bool.or_false, Bool.false_or, bne_self_eq_false, Nat.not_lt_zero, Nat.mul_one, Nat.one_mul, Nat.zero_mul, Nat.mul_zero, beq_self_eq_true, Nat.sub_zero, Nat.reduceSub, List.length_set, false_implies, implies_true, forall_const, ↓dnW_oca, Nat.reduceLT, evI_fn, Nat.zero_lt_one, dnW_o, dnW_om, dnW_oc, dnW_ite, dnW_join, thenD_some, thenD_ite, onIfD_bool, onJoinD_out, onJoinD_ret, onJoinD_ite, Int.reduceEq, WP_some, WP_ite, byOut_goto, byOut_ret, ↓iexec_len, ↓iexec_iaddr, ↓iexec_append, ↓iexec_store, storeF_ptr, lenF_nil, lenF_lst, lenF_sl, lenF_str, iaddrF_sl, iaddrF_lst, hbk]
    refine WP_bindC (G0.app (cs := []) (.inr ⟨rfl, rfl⟩) hX1 bX.ones bX.one (by simp; omega)) fun v1 J4 hs => ?_
    obtain ⟨g4, f4, l4⟩ := hs
    have f4' : Fr J3 J4 [] := ⟨f4.1, fun d hd _ => f4.2 d hd (by simp [blk, blkOf])⟩
    have d1 : J4[1]? = some (.cells 0 [gr, ga] false) := by rw [f4'.2 1 (lt_get c1) (by simp)]; exact c1
    have w4 := w3.fr f4' (by simp) (by simp)
    have ha4 := ha.1.fr f4' (by simp)
    have l4' : ∀ b ∈ blk v1, J3.size ≤ b := fun b hb => by
      rcases l4 b hb with h | h
      · simp [blk, blkOf] at h
      · exact h
    refine ⟨?_, ?_⟩
    · simp -implicitDefEqProofs only [dn_ret, dn_goto, iexec, evI_0, evI_succ, evI_int, evI_bool, evI_nilsl, evI_nilp, List.cons_append, List.nil_append, scal2_sc, abin, aun, ilift_some, Option.map_some, Option.map_none, decide_eq_true_eq, List.map_cons, List.map_nil, reduceIte, if_true, if_false, Bool.false_eq_true, inew, iload, istore, iwr, ird, icells, ione, one, List.getElem?_toArray, List.getElem?_cons_zero, List.getElem?_cons_succ, List.push_toArray, List.size_toArray, List.length_cons, List.length_nil, List.setIfInBounds_toArray, List.set_cons_zero, List.set_cons_succ, isplice_cons, List.drop_succ_cons, List.drop_zero, List.take_succ_cons, List.take_zero, List.drop_nil, List.take_nil, List.append_nil, List.all_cons, List.all_nil, Bool.and_true, Bool.true_and, Bool.and_self, Nat.zero_add, Nat.add_zero, Nat.reduceAdd, Nat.reduceLeDiff, Nat.reduceMul, Nat.le_refl, true_and, and_true, and_self, List.getElem?_nil, BI_zc, BI_zv, BI_co, zcT, zvT, coT, not_true_eq_false, not_false_eq_true, Bool.not_true, Bool.not_false, stepI', wantsI, ifill, ievs, Nat.reduceEqDiff, itup, Nat.le_add_left, Nat.le_add_right, iaggEq, List.foldl, iminI, iminF, imin2, min2, iisNil, isNil, ilen, Option.isNone_none, Option.isNone_some, Nat.zero_le, decide_true, decide_false, ireps, List.replicate, List.flatten_cons, List.flatten_nil, ichk, itouch, ctouch, ilooks, isame, untouched, Option.isSome_some, Bool.or_true, Bool.true_or, List.contains_nil, Int.reduceLT, Int.reduceLE, blkOf, IntKind.bits, iasNat, asNat, Int.toNat_natCast, Int.natCast_nonneg, List.length_map, Int.reduceToNat, iscells, ibnd, islice, capOf, Option.isSome_none, Bool.false_and, Bool.and_false, Bool.or_false, Bool.false_or, bne_self_eq_false, Nat.not_lt_zero, Nat.mul_one, Nat.one_mul, Nat.zero_mul, Nat.mul_zero, beq_self_eq_true, Nat.sub_zero, Nat.reduceSub, List.length_set, false_implies, implies_true, forall_const, ↓dnW_oca, Nat.reduceLT, evI_fn, Nat.zero_lt_one, dnW_o, dnW_om, dnW_oc, dnW_ite, dnW_join, thenD_some, thenD_ite, onIfD_bool, onJoinD_out, onJoinD_ret, onJoinD_ite, Int.reduceEq, WP_some, WP_ite, byOut_goto, byOut_ret, ↓iexec_len, ↓iexec_iaddr, ↓iexec_append, ↓iexec_store, storeF_ptr, lenF_nil, lenF_lst, lenF_sl, lenF_str, iaddrF_sl, iaddrF_lst, c1, d1]
    · simp -implicitDefEqProofs only [dn_ret, dn_goto, iexec, evI_0, evI_succ, evI_int, evI_bool, evI_nilsl, evI_nilp, List.cons_append, List.nil_append, scal2_sc, abin, aun, ilift_some, Option.map_some, Option.map_none, decide_eq_true_eq, List.map_cons, List.map_nil, reduceIte, if_true, if_false, Bool.false_eq_true, inew, iload, istore, iwr, ird, icells, ione, one, List.getElem?_toArray, List.getElem?_cons_zero, List.getElem?_cons_succ, List.push_toArray, List.size_toArray, List.length_cons, List.length_nil, List.setIfInBounds_toArray, List.set_cons_zero, List.set_cons_succ, isplice_cons, List.drop_succ_cons, List.drop_zero, List.take_succ_cons, List.take_zero, List.drop_nil, List.take_nil, List.append_nil, List.all_cons, List.all_nil, Bool.and_true, Bool.true_and, Bool.and_self, Nat.zero_add, Nat.add_zero, Nat.reduceAdd, Nat.reduceLeDiff, Nat.reduceMul, Nat.le_refl, true_and, and_true, and_self, List.getElem?_nil, BI_zc, BI_zv, BI_co, zcT, zvT, coT, not_true_eq_false, not_false_eq_true, Bool.not_true, Bool.not_false, stepI', wantsI, ifill, ievs, Nat.reduceEqDiff, itup, Nat.le_add_left, Nat.le_add_right, iaggEq, List.foldl, iminI, iminF, imin2, min2, iisNil, isNil, ilen, Option.isNone_none, Option.isNone_some, Nat.zero_le, decide_true, decide_false, ireps, List.replicate, List.flatten_cons, List.flatten_nil, ichk, itouch, ctouch, ilooks, isame, untouched, Option.isSome_some, Bool.or_true, Bool.true_or, List.contains_nil, Int.reduceLT, Int.reduceLE, blkOf, IntKind.bits, iasNat, asNat, Int.toNat_natCast, Int.natCast_nonneg, List.length_map, Int.reduceToNat, iscells, ibnd, islice, capOf, Option.isSome_none, Bool.false_and, Bool.and_false, Bool.or_false, Bool.false_or, bne_self_eq_false, Nat.not_lt_zero, Nat.mul_one, Nat.one_mul, Nat.zero_mul, Nat.mul_zero, beq_self_eq_true, Nat.sub_zero, Nat.reduceSub, List.length_set, false_implies, implies_true, forall_const, ↓dnW_oca, Nat.reduceLT, evI_fn, Nat.zero_lt_one, dnW_o, dnW_om, dnW_oc, dnW_ite, dnW_join, thenD_some, thenD_ite, onIfD_bool, onJoinD_out, onJoinD_ret, onJoinD_ite, Int.reduceEq, WP_some, WP_ite, byOut_goto, byOut_ret, ↓iexec_len, ↓iexec_iaddr, ↓iexec_append, ↓iexec_store, storeF_ptr, lenF_nil, lenF_lst, lenF_sl, lenF_str, iaddrF_sl, iaddrF_lst]
      refine WP_bind (g4.app hZ1 bZ.ones bZ.one (by simp; omega)) fun v2 J5 hs => ?_
      obtain ⟨g5, f5, _⟩ := hs
      have w5 := w4.fr f5 (fun h => by have := l4' 2 h; have := lt_get w3.1; omega) (fun c hc h => by
        obtain ⟨_, _, cs, hg, _⟩ := w3
        have := l4' c h; have := hg.low c hc; omega)
      have ha5 := ha4.fr f5 (fun d hd h => by have := l4' d h; have := ha.1.low d hd; omega)
      rw [List.nil_append] at g5
      obtain ⟨y1, hy1, hl1⟩ := ha5.frzE1 ba.pure ba.one
      obtain ⟨y2, hy2, hl2⟩ := g5.frz (bX.app bZ).pure (bX.app bZ).one
      have hsame := pcs (J := J5) (args := [a, v2]) (as := [y1, y2]) (by
        simp only [List.mapM_cons, List.mapM_nil, frz12, hy1 11, hy2 11]
        rfl) (bSameL_ok (ba.lsr hl1) ((bX.app bZ).lsr hl2) (by simp; omega) (fun p hp => by
          rcases List.mem_append.1 hp with h | h
          · exact p1 p h
          · exact p2 p h))
      have wt := Waiting_ok 2 s3 [] J5 w5
      simp -implicitDefEqProofs only [dn_ret, dn_goto, iexec, evI_0, evI_succ, evI_int, evI_bool, evI_nilsl, evI_nilp, List.cons_append, List.nil_append, scal2_sc, abin, aun, ilift_some, Option.map_some, Option.map_none, decide_eq_true_eq, List.map_cons, List.map_nil, reduceIte, if_true, if_false, Bool.false_eq_true, inew, iload, istore, iwr, ird, icells, ione, one, List.getElem?_toArray, List.getElem?_cons_zero, List.getElem?_cons_succ, List.push_toArray, List.size_toArray, List.length_cons, List.length_nil, List.setIfInBounds_toArray, List.set_cons_zero, List.set_cons_succ, isplice_cons, List.drop_succ_cons, List.drop_zero, List.take_succ_cons, List.take_zero, List.drop_nil, List.take_nil, List.append_nil, List.all_cons, List.all_nil, Bool.and_true, Bool.true_and, Bool.and_self, Nat.zero_add, Nat.add_zero, Nat.reduceAdd, Nat.reduceLeDiff, Nat.reduceMul, Nat.le_refl, true_and, and_true, and_self, List.getElem?_nil, BI_zc, BI_zv, BI_co, zcT, zvT, coT, not_true_eq_false, not_false_eq_true, Bool.not_true, Bool.not_false, stepI', wantsI, ifill, ievs, Nat.reduceEqDiff, itup, Nat.le_add_left, Nat.le_add_right, iaggEq, List.foldl, iminI, iminF, imin2, min2, iisNil, isNil, ilen, Option.isNone_none, Option.isNone_some, Nat.zero_le, decide_true, decide_false, ireps, List.replicate, List.flatten_cons, List.flatten_nil, ichk, itouch, ctouch, ilooks, isame, untouched, Option.isSome_some, Bool.or_true, Bool.true_or, List.contains_nil, Int.reduceLT, Int.reduceLE, blkOf, IntKind.bits, iasNat, asNat, Int.toNat_natCast, Int.natCast_nonneg, List.length_map, Int.reduceToNat, iscells, ibnd, islice, capOf, Option.isSome_none, Bool.false_and, Bool.and_false, Bool.or_false, Bool.false_or, bne_self_eq_false, Nat.not_lt_zero, Nat.mul_one, Nat.one_mul, Nat.zero_mul, Nat.mul_zero, beq_self_eq_true, Nat.sub_zero, Nat.reduceSub, List.length_set, false_implies, implies_true, forall_const, ↓dnW_oca, Nat.reduceLT, evI_fn, Nat.zero_lt_one, dnW_o, dnW_om, dnW_oc, dnW_ite, dnW_join, thenD_some, thenD_ite, onIfD_bool, onJoinD_out, onJoinD_ret, onJoinD_ite, Int.reduceEq, WP_some, WP_ite, byOut_goto, byOut_ret, ↓iexec_len, ↓iexec_iaddr, ↓iexec_append, ↓iexec_store, storeF_ptr, lenF_nil, lenF_lst, lenF_sl, lenF_str, iaddrF_sl, iaddrF_lst, hsame, dcr wt, List.length_nil, show (((0 : Nat) : Int) == 0) = true by decide]
      exact hK _ _ (frzE rfl rfl)
end Go.Proofs.Ytohclaopcejjnaa.G
