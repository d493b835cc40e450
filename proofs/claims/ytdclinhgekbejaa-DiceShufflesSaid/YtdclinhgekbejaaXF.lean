/- Joined: Q5 to SH7. -/
import Derived.Test.YtdclinhgekbejaaXE
set_option linter.unusedVariables false
set_option linter.unusedSimpArgs false
set_option maxRecDepth 20000
set_option maxHeartbeats 2000000
namespace Go.Proofs.Ytdclinhgekbejaa.G
open Go
theorem evI_int {ρ : List IV} {k : IntKind} {n : Int} : evI ρ (.const (.int k n)) = .int k n := rfl
theorem evI_bool {ρ : List IV} {b : Bool} : evI ρ (.const (.bool b)) = .bool b := rfl
theorem evI_nilsl {ρ : List IV} : evI ρ (.const (.slice none 0 0)) = .sc (.slice none 0 0) := rfl
theorem evI_nilp {ρ : List IV} : evI ρ (.const (.pointer none)) = .sc (.pointer none) := rfl
theorem BI_zc (t : TypeId) : BI.zc t = zcT t := rfl
theorem BI_zv (t : TypeId) : BI.zv t = zvT t := rfl
theorem BI_co (t : TypeId) : BI.co t = coT t := rfl
theorem dcp {f : FuncId} {args : List IV} {u : IV} {J : JH} (hp : pc BI f args = some u) (h : ipureL args = true) : doCall (ic BI) .pure f args J = some (u, J) := doCall_pure h hp
def endP (r : Option (Out IV × JH)) : Option IV := match r with | some (.ret vs, J) => frz J DEP (itup vs) | _ => none
theorem endP_ret {vs : List IV} {J : JH} : endP (some (.ret vs, J)) = frz J DEP (itup vs) := rfl
theorem endP_ite {c : Prop} [Decidable c] {a b : Option (Out IV × JH)} : endP (if c then a else b) = if c then endP a else endP b := by split <;> rfl
theorem pc_run {f : FuncId} {l : LFn} {args : List IV} {u : IV} (hf : BI.fn f = some l) (hl : args.length = l.np) (h : endP (dn BI l.body args #[]) = some u) : pc BI f args = some u := by
 unfold endP at h
 split at h
 ·rename_i vs J hd
  exact pc_intro (gv_none hf) hf hl hd h
 ·simp at h
theorem ic_run {f : FuncId} {l : LFn} {args : List IV} {vs : List IV} {J J' : JH} (hf : BI.fn f = some l) (hl : args.length = l.np) (h : dn BI l.body args J = some (.ret vs, J')) : ic BI f args J = some (itup vs, J') := ic_intro (gv_none hf) hf hl h
theorem frzP {J : JH} {v : IV} (h : ipure v = true) : frz J DEP v = some v := frz_pure J DEP h
theorem onJoin_out {l j : Nat} {vs : List IV} {J : JH} {k : List IV → JH → Option (Out IV × JH)} : onJoin l (some (.goto j vs, J)) k = if j = l then k vs J else some (.goto j vs, J) := rfl
theorem isplice_cons (a : IV) (cs : List IV) (off : Nat) (vs : List IV) : isplice (a :: cs) off vs = (a :: cs).take off ++ vs ++ (a :: cs).drop (off + vs.length) := rfl
theorem isplice_set {cs : List IV} {i : Nat} {v : IV} (h : i < cs.length) : isplice cs i [v] = cs.set i v := by
 unfold isplice
 rw [List.set_eq_take_append_cons_drop, if_pos h]
 simp
theorem isplice_ints {κ : IntKind} {ys : List Int} {i : Nat} {x : Int} (h : i < ys.length) : isplice (ys.map (IV.int κ)) i [IV.int κ x] = (ys.set i x).map (IV.int κ) := by
 rw [isplice_set (by simpa using h), List.map_set]
theorem ints_ione {κ : IntKind} {ys : List Int} : (ys.map (IV.int κ)).all ione = true := by simp [ione, one]
theorem ints_pure {κ : IntKind} {ys : List Int} : ipureL (ys.map (IV.int κ)) = true := ipureL_iff.2 fun x hx => by
 obtain ⟨y, _, rfl⟩ := List.mem_map.1 hx; rfl
theorem ints_cells {κ : IntKind} (ys : List Int) : (ys.map (IV.int κ)).flatMap icells = ys.map (IV.int κ) := by
 induction ys with
 | nil => rfl
 | cons y ys ih => simp only [List.map_cons, List.flatMap_cons, icells, ih]; rfl
theorem grp1 : ∀ (l : List IV), grp 1 l.length l = l
 | [] => rfl
 | x :: l => by simp [grp, mkE, grp1 l]
theorem wrap_i64 {x : Int} (h0 : -9223372036854775808 ≤ x) (h1 : x ≤ 9223372036854775807) : IntKind.i64.wrap x = x := by
 simp only [IntKind.wrap, IntKind.bits, IntKind.signed, if_true]
 simp
 omega
theorem wrap_u32 {x : Int} (h0 : 0 ≤ x) (h1 : x < 4294967296) : IntKind.u32.wrap x = x := by
 simp only [IntKind.wrap, IntKind.bits, IntKind.signed]
 simp
 omega
theorem wrap_u64 {x : Int} (h0 : 0 ≤ x) (h1 : x < 18446744073709551616) : IntKind.u64.wrap x = x := by
 simp only [IntKind.wrap, IntKind.bits, IntKind.signed]
 simp
 omega
theorem u32_rng (x : Int) : 0 ≤ IntKind.u32.wrap x ∧ IntKind.u32.wrap x < 4294967296 := by
 simp only [IntKind.wrap, IntKind.bits, IntKind.signed]
 simp
 omega
theorem UNK_pos : (0 < UNK) = True := by simp [UNK]
theorem one_lt_UNK : (1 < UNK) = True := by simp [UNK]
theorem lt_UNK {n : Nat} (h : n ≤ 1000000) : (n < UNK) = True := by simp [UNK]; omega
theorem not_UNK_le {n : Nat} (h : n ≤ 1000000) : (UNK ≤ n) = False := by simp [UNK]; omega
theorem frz12 : DEP = 11 + 1 := rfl
theorem frz_sl {J : JH} {k b v off n cap sz : Nat} {cs : List IV} (hsz : 0 < sz) (h : ird J b v off (n * sz) = some cs) (hp : ipureL cs = true) (ho : cs.all ione = true) : frz J (k + 1) (.sl b v off n cap sz) = some (.lst sz (n == cap && decide (cap < UNK)) (grp sz n cs)) := by
 simp only [frz, ipure, Bool.false_eq_true, if_false]
 rw [if_neg (by omega), h]
 simp only [frzL_pure J k hp, ho, if_true]
theorem frz_tup {J : JH} {k : Nat} {vs : List IV} (h : ipureL vs = false) : frz J (k + 1) (.tup vs) = (vs.mapM (frz J k)).map .tup := by
 simp only [frz, ipure, h, Bool.false_eq_true, if_false]
theorem dcf {f : FuncId} {args as : List IV} {u : IV} {J : JH} (ha : args.mapM (frz J DEP) = some as) (hp : pc BI f as = some u) : doCall (ic BI) .pure f args J = some (u, if iscal u then J else markA J (args.flatMap (shows J DEP))) := by
 unfold pc at hp
 simp only [doCall, ha]
 split at hp
 ·rename_i v J1 hc
  simp only [hc, hp]
 ·simp at hp
theorem shows_sl {J : JH} {k b v off n cap sz : Nat} {cs : List IV} (h : ird J b v off (n * sz) = some cs) (hp : ipureL cs = true) : shows J (k + 1) (.sl b v off n cap sz) = [b] := by
 simp only [shows, ipure, Bool.false_eq_true, if_false, h, showsL_pure J k hp]
def x64 (a b : Int) : Int := IntKind.u64.wrap ((BitVec.ofInt 64 a ^^^ BitVec.ofInt 64 b).toNat : Int)
def mixF (a : Int) : Int :=
 let z := IntKind.u64.wrap (x64 a (a.fdiv (2 ^ min (Int.toNat 30) 64)) * 13787848793156543929)
 let z := IntKind.u64.wrap (x64 z (z.fdiv (2 ^ min (Int.toNat 27) 64)) * 10723151780598845931)
 x64 z (z.fdiv (2 ^ min (Int.toNat 31) 64))
theorem mixed_ok (a : Int) : pc BI F_dice_mixed [.int .u64 a] = some (.int .u64 (mixF a)) := by
 refine pc_intro (gv_none fn_dice_mixed) fn_dice_mixed rfl (J' := #[]) (vs := [.int .u64 (mixF a)]) ?_ rfl
 unfold l_dice_mixed
 simp -implicitDefEqProofs only [dn_o, dn_om, dn_oc, dn_ite, dn_ret, dn_join, dn_goto, iexec, evI_0, evI_succ, evI_int, evI_bool, evI_nilsl, evI_nilp, List.cons_append, List.nil_append, scal2_sc, abin, aun, ilift_some, thenI_some, onIf_bool, onJoin_goto, onJoin_ret, onJoin_ite, thenI_ite, Option.map_some, Option.map_none, decide_eq_true_eq, List.map_cons, List.map_nil, reduceIte, if_true, if_false, Bool.false_eq_true, inew, iload, istore, iwr, ird, icells, ione, one, List.getElem?_toArray, List.getElem?_cons_zero, List.getElem?_cons_succ, List.push_toArray, List.size_toArray, List.length_cons, List.length_nil, List.setIfInBounds_toArray, List.set_cons_zero, List.set_cons_succ, isplice_cons, List.drop_succ_cons, List.drop_zero, List.take_succ_cons, List.take_zero, List.drop_nil, List.take_nil, List.append_nil, List.all_cons, List.all_nil, Bool.and_true, Bool.true_and, Bool.and_self, Nat.zero_add, Nat.add_zero, Nat.reduceAdd, Nat.reduceLeDiff, Nat.reduceMul, Nat.le_refl, true_and, and_true, and_self, List.getElem?_nil, BI_zc, BI_zv, BI_co, zcT, zvT, coT, not_true_eq_false, not_false_eq_true, Bool.not_true, Bool.not_false, stepI', wantsI, ifill, rawB, allC1, ievs, Nat.reduceEqDiff, itup, Nat.le_add_left, Nat.le_add_right, iaggEq, List.foldl, iminI, iminF, imin2, min2, iisNil, isNil, ilen, Option.isNone_none, Option.isNone_some, Nat.zero_le, decide_true, decide_false, ireps, List.replicate, List.flatten_cons, List.flatten_nil, ichk, itouch, ctouch, ilooks, isame, untouched, Option.isSome_some, Bool.or_true, Bool.true_or, List.contains_nil, Int.reduceLT, Int.reduceLE, blkOf, IntKind.bits, iasNat, asNat, Int.toNat_natCast, Int.natCast_nonneg, List.length_map, endP_ret, endP_ite, Int.reduceToNat, iscells, ibnd, islice, capOf, Option.isSome_none, Bool.false_and, Bool.and_false, Bool.or_false, Bool.false_or, bne_self_eq_false, Nat.not_lt_zero, Nat.mul_one, Nat.one_mul, Nat.zero_mul, Nat.mul_zero, onJoin_out, beq_self_eq_true, Nat.sub_zero, Nat.reduceSub, List.length_set, false_implies, implies_true, forall_const]
 rfl
def sn (s : Int) : Int := IntKind.u64.wrap (s + 11400714819323198485)
def nx (s : Int) : Int := IntKind.u32.wrap ((mixF (sn s)).fdiv (2 ^ min (Int.toNat 32) 64))
def dice (s : Int) : IV := .agg [.int .u64 s]
theorem Next_ok (s : Int) : pc BI F_dice_Dice_Next [dice s] = some (.tup [.int .u32 (nx s), dice (sn s)]) := by
 refine pc_run fn_dice_Dice_Next rfl ?_
 unfold l_dice_Dice_Next dice
 simp -implicitDefEqProofs only [dn_o, dn_om, dn_oc, dn_ite, dn_ret, dn_join, dn_goto, iexec, evI_0, evI_succ, evI_int, evI_bool, evI_nilsl, evI_nilp, List.cons_append, List.nil_append, scal2_sc, abin, aun, ilift_some, thenI_some, onIf_bool, onJoin_goto, onJoin_ret, onJoin_ite, thenI_ite, Option.map_some, Option.map_none, decide_eq_true_eq, List.map_cons, List.map_nil, reduceIte, if_true, if_false, Bool.false_eq_true, inew, iload, istore, iwr, ird, icells, ione, one, List.getElem?_toArray, List.getElem?_cons_zero, List.getElem?_cons_succ, List.push_toArray, List.size_toArray, List.length_cons, List.length_nil, List.setIfInBounds_toArray, List.set_cons_zero, List.set_cons_succ, isplice_cons, List.drop_succ_cons, List.drop_zero, List.take_succ_cons, List.take_zero, List.drop_nil, List.take_nil, List.append_nil, List.all_cons, List.all_nil, Bool.and_true, Bool.true_and, Bool.and_self, Nat.zero_add, Nat.add_zero, Nat.reduceAdd, Nat.reduceLeDiff, Nat.reduceMul, Nat.le_refl, true_and, and_true, and_self, List.getElem?_nil, BI_zc, BI_zv, BI_co, zcT, zvT, coT, not_true_eq_false, not_false_eq_true, Bool.not_true, Bool.not_false, stepI', wantsI, ifill, rawB, allC1, ievs, Nat.reduceEqDiff, itup, Nat.le_add_left, Nat.le_add_right, iaggEq, List.foldl, iminI, iminF, imin2, min2, iisNil, isNil, ilen, Option.isNone_none, Option.isNone_some, Nat.zero_le, decide_true, decide_false, ireps, List.replicate, List.flatten_cons, List.flatten_nil, ichk, itouch, ctouch, ilooks, isame, untouched, Option.isSome_some, Bool.or_true, Bool.true_or, List.contains_nil, Int.reduceLT, Int.reduceLE, blkOf, IntKind.bits, iasNat, asNat, Int.toNat_natCast, Int.natCast_nonneg, List.length_map, endP_ret, endP_ite, Int.reduceToNat, iscells, ibnd, islice, capOf, Option.isSome_none, Bool.false_and, Bool.and_false, Bool.or_false, Bool.false_or, bne_self_eq_false, Nat.not_lt_zero, Nat.mul_one, Nat.one_mul, Nat.zero_mul, Nat.mul_zero, onJoin_out, beq_self_eq_true, Nat.sub_zero, Nat.reduceSub, List.length_set, false_implies, implies_true, forall_const, dcp (mixed_ok _) rfl]
 rfl
def below (s n : Int) : Int := IntKind.u32.wrap ((IntKind.u64.wrap (IntKind.u64.wrap (nx s) * IntKind.u64.wrap n)).fdiv (2 ^ min (Int.toNat 32) 64))
theorem Below_ok (s n : Int) : pc BI F_dice_Dice_Below [dice s, .int .u32 n] = some (.tup [.int .u32 (below s n), dice (sn s)]) := by
 refine pc_run fn_dice_Dice_Below rfl ?_
 have h := Next_ok s
 unfold dice at h
 unfold l_dice_Dice_Below dice
 simp -implicitDefEqProofs only [dn_o, dn_om, dn_oc, dn_ite, dn_ret, dn_join, dn_goto, iexec, evI_0, evI_succ, evI_int, evI_bool, evI_nilsl, evI_nilp, List.cons_append, List.nil_append, scal2_sc, abin, aun, ilift_some, thenI_some, onIf_bool, onJoin_goto, onJoin_ret, onJoin_ite, thenI_ite, Option.map_some, Option.map_none, decide_eq_true_eq, List.map_cons, List.map_nil, reduceIte, if_true, if_false, Bool.false_eq_true, inew, iload, istore, iwr, ird, icells, ione, one, List.getElem?_toArray, List.getElem?_cons_zero, List.getElem?_cons_succ, List.push_toArray, List.size_toArray, List.length_cons, List.length_nil, List.setIfInBounds_toArray, List.set_cons_zero, List.set_cons_succ, isplice_cons, List.drop_succ_cons, List.drop_zero, List.take_succ_cons, List.take_zero, List.drop_nil, List.take_nil, List.append_nil, List.all_cons, List.all_nil, Bool.and_true, Bool.true_and, Bool.and_self, Nat.zero_add, Nat.add_zero, Nat.reduceAdd, Nat.reduceLeDiff, Nat.reduceMul, Nat.le_refl, true_and, and_true, and_self, List.getElem?_nil, BI_zc, BI_zv, BI_co, zcT, zvT, coT, not_true_eq_false, not_false_eq_true, Bool.not_true, Bool.not_false, stepI', wantsI, ifill, rawB, allC1, ievs, Nat.reduceEqDiff, itup, Nat.le_add_left, Nat.le_add_right, iaggEq, List.foldl, iminI, iminF, imin2, min2, iisNil, isNil, ilen, Option.isNone_none, Option.isNone_some, Nat.zero_le, decide_true, decide_false, ireps, List.replicate, List.flatten_cons, List.flatten_nil, ichk, itouch, ctouch, ilooks, isame, untouched, Option.isSome_some, Bool.or_true, Bool.true_or, List.contains_nil, Int.reduceLT, Int.reduceLE, blkOf, IntKind.bits, iasNat, asNat, Int.toNat_natCast, Int.natCast_nonneg, List.length_map, endP_ret, endP_ite, Int.reduceToNat, iscells, ibnd, islice, capOf, Option.isSome_none, Bool.false_and, Bool.and_false, Bool.or_false, Bool.false_or, bne_self_eq_false, Nat.not_lt_zero, Nat.mul_one, Nat.one_mul, Nat.zero_mul, Nat.mul_zero, onJoin_out, beq_self_eq_true, Nat.sub_zero, Nat.reduceSub, List.length_set, false_implies, implies_true, forall_const, dcp h rfl]
 rfl
def skip (s n : Int) : Int := if n > 0 then IntKind.u64.wrap (s + IntKind.u64.wrap (11400714819323198485 * IntKind.u64.wrap n)) else s
def shufL (s : Int) : Nat → List Int → List Int × Int
 | 0, ys => (ys, s)
 | i + 1, ys => shufL (sn s) i ((ys.set (i + 1) (ys.getD (below s ((i : Int) + 2)).toNat 0)).set (below s ((i : Int) + 2)).toNat (ys.getD (i + 1) 0))
theorem below_rng (s n : Int) (h0 : 0 < n) (h1 : n < 4294967296) : 0 ≤ below s n ∧ below s n < n := by
 have hx := u32_rng ((mixF (sn s)).fdiv (2 ^ min (Int.toNat 32) 64))
 change 0 ≤ nx s ∧ nx s < 4294967296 at hx
 have hxn0 : 0 ≤ nx s * n := Int.mul_nonneg hx.1 (by omega)
 have hxn : nx s * n ≤ 4294967295 * n := Int.mul_le_mul_of_nonneg_right (by omega) (by omega)
 have e1 : below s n = IntKind.u32.wrap ((nx s * n) / 4294967296) := by
  unfold below
  rw [wrap_u64 (x := nx s) hx.1 (by omega), wrap_u64 (x := n) (by omega) (by omega), wrap_u64 (x := nx s * n) hxn0 (by omega)]
  rw [show (2 : Int) ^ min (Int.toNat 32) 64 = 4294967296 from rfl, Int.fdiv_eq_ediv_of_nonneg _ (by omega)]
 rw [e1, wrap_u32 (by omega) (by omega)]
 omega
theorem fits4 {n : Nat} (h : n ≤ 1000000) : fits n 4 = true := by
 simp only [fits, Bool.and_eq_true, decide_eq_true_eq]
 omega
theorem Clone32_0 (f : Bool) (J : JH) :
  ic BI F_slices_Clone_Lint32_int32 [.lst 1 f []] J = some (.lst 1 true [], J) := by
 refine ic_run fn_slices_Clone_Lint32_int32 rfl (vs := [.lst 1 true []]) ?_
 unfold l_slices_Clone_Lint32_int32
 simp -implicitDefEqProofs only [dn_o, dn_om, dn_oc, dn_ite, dn_ret, dn_join, dn_goto, iexec, evI_0, evI_succ, evI_int, evI_bool, evI_nilsl, evI_nilp, List.cons_append, List.nil_append, scal2_sc, abin, aun, ilift_some, thenI_some, onIf_bool, onJoin_goto, onJoin_ret, onJoin_ite, thenI_ite, Option.map_some, Option.map_none, decide_eq_true_eq, List.map_cons, List.map_nil, reduceIte, if_true, if_false, Bool.false_eq_true, inew, iload, istore, iwr, ird, icells, ione, one, List.getElem?_toArray, List.getElem?_cons_zero, List.getElem?_cons_succ, List.push_toArray, List.size_toArray, List.length_cons, List.length_nil, List.setIfInBounds_toArray, List.set_cons_zero, List.set_cons_succ, isplice_cons, List.drop_succ_cons, List.drop_zero, List.take_succ_cons, List.take_zero, List.drop_nil, List.take_nil, List.append_nil, List.all_cons, List.all_nil, Bool.and_true, Bool.true_and, Bool.and_self, Nat.zero_add, Nat.add_zero, Nat.reduceAdd, Nat.reduceLeDiff, Nat.reduceMul, Nat.le_refl, true_and, and_true, and_self, List.getElem?_nil, BI_zc, BI_zv, BI_co, zcT, zvT, coT, not_true_eq_false, not_false_eq_true, Bool.not_true, Bool.not_false, stepI', wantsI, ifill, rawB, allC1, ievs, Nat.reduceEqDiff, itup, Nat.le_add_left, Nat.le_add_right, iaggEq, List.foldl, iminI, iminF, imin2, min2, iisNil, isNil, ilen, Option.isNone_none, Option.isNone_some, Nat.zero_le, decide_true, decide_false, ireps, List.replicate, List.flatten_cons, List.flatten_nil, ichk, itouch, ctouch, ilooks, isame, untouched, Option.isSome_some, Bool.or_true, Bool.true_or, List.contains_nil, Int.reduceLT, Int.reduceLE, blkOf, IntKind.bits, iasNat, asNat, Int.toNat_natCast, Int.natCast_nonneg, List.length_map, endP_ret, endP_ite, Int.reduceToNat, iscells, ibnd, islice, capOf, Option.isSome_none, Bool.false_and, Bool.and_false, Bool.or_false, Bool.false_or, bne_self_eq_false, Nat.not_lt_zero, Nat.mul_one, Nat.one_mul, Nat.zero_mul, Nat.mul_zero, onJoin_out, beq_self_eq_true, Nat.sub_zero, Nat.reduceSub, List.length_set, false_implies, implies_true, forall_const, iappend, List.flatMap_nil, ipureL, grp, Nat.lt_irrefl, Nat.zero_lt_one, UNK_pos]
def WP (r : Option (Out IV × JH)) (P : Out IV → JH → Prop) : Prop := match r with | some (o, J) => P o J | none => False
def RP (r : Option (IV × JH)) (P : IV → JH → Prop) : Prop := match r with | some (v, J) => P v J | none => False
def byOut (G : Nat → List IV → JH → Prop) (R : List IV → JH → Prop) (o : Out IV) (J : JH) : Prop := match o with | .goto j vs => G j vs J | .ret vs => R vs J
theorem byOut_goto {G R j vs J} : byOut G R (.goto j vs) J = G j vs J := rfl
theorem byOut_ret {G R vs J} : byOut G R (.ret vs) J = R vs J := rfl
theorem WP_some {o : Out IV} {J : JH} {P} : WP (some (o, J)) P = P o J := rfl
theorem RP_some {v : IV} {J : JH} {P} : RP (some (v, J)) P = P v J := rfl
theorem WP_ite {c : Prop} [Decidable c] {a b : Option (Out IV × JH)} {P} : WP (if c then a else b) P = if c then WP a P else WP b P := by split <;> rfl
theorem WP_of {r : Option (Out IV × JH)} {P} (h : WP r P) : ∃ o J, r = some (o, J) ∧ P o J := by
 cases r with
 | none => exact h.elim
 | some q => exact ⟨q.1, q.2, rfl, h⟩
theorem RP_of {r : Option (IV × JH)} {P} (h : RP r P) : ∃ v J, r = some (v, J) ∧ P v J := by
 cases r with
 | none => exact h.elim
 | some q => exact ⟨q.1, q.2, rfl, h⟩
noncomputable def thenD (r : Option (IV × JH)) (k : L) (ρ : List IV) : Option (Out IV × JH) := thenI r fun v J' => dn BI k (ρ ++ [v]) J'
noncomputable def onJoinD (l : Nat) (r : Option (Out IV × JH)) (b : L) : Option (Out IV × JH) := onJoin l r fun vs J => dn BI b vs J
noncomputable def onIfD (v : IV) (a b : L) (ρ : List IV) (J : JH) : Option (Out IV × JH) := onIf v (dn BI a ρ J) (dn BI b ρ J)
section
variable {ρ : List IV} {J : JH} {p : SOp} {k : L} {md : Md}
theorem dnW_o : dn BI (o p k) ρ J = thenD (iexec BI (ic BI) .raw ρ p J) k ρ := dn_o
theorem dnW_om : dn BI (om md p k) ρ J = thenD (iexec BI (ic BI) md ρ p J) k ρ := dn_om
theorem dnW_oc {g : Option (Operand × Bool)} {chk} : dn BI (oc g p md chk k) ρ J = thenD (stepI' BI (ic BI) ρ ⟨g, p, md, chk⟩ J) k ρ := dn_oc
theorem dnW_ite {c : Operand} {a b : L} : dn BI (.ite c a b) ρ J = onIfD (evI ρ c) a b ρ J := dn_ite
theorem dnW_join {l : Nat} {a b : L} : dn BI (.join l a b) ρ J = onJoinD l (dn BI a ρ J) b := dn_join
theorem thenD_some {v : IV} : thenD (some (v, J)) k ρ = dn BI k (ρ ++ [v]) J := rfl
theorem thenD_ite {c : Prop} [Decidable c] {a b : Option (IV × JH)} : thenD (if c then a else b) k ρ = if c then thenD a k ρ else thenD b k ρ := by split <;> rfl
theorem onIfD_bool {t : Bool} {a b : L} : onIfD (.sc (.bool t)) a b ρ J = if t = true then dn BI a ρ J else dn BI b ρ J := rfl
theorem onJoinD_out {l j : Nat} {vs : List IV} {b : L} : onJoinD l (some (.goto j vs, J)) b = if j = l then dn BI b vs J else some (.goto j vs, J) := rfl
theorem onJoinD_ret {l : Nat} {vs : List IV} {b : L} : onJoinD l (some (.ret vs, J)) b = some (.ret vs, J) := rfl
theorem onJoinD_ite {l : Nat} {c : Prop} [Decidable c] {a a' : Option (Out IV × JH)} {b : L} : onJoinD l (if c then a else a') b = if c then onJoinD l a b else onJoinD l a' b := by split <;> rfl
end
theorem WP_join {l : Nat} {r : Option (Out IV × JH)} {b : L} {K : Out IV → JH → Prop}
  (h : ∀ K' : Out IV → JH → Prop, (∀ vs J, WP (dn BI b vs J) K → K' (.goto l vs) J) → (∀ j vs J, j ≠ l → K (.goto j vs) J → K' (.goto j vs) J) → (∀ vs J, K (.ret vs) J → K' (.ret vs) J) → WP r K') : WP (onJoinD l r b) K := by
 have h1 := h (fun o J => byOut (fun j vs J => if j = l then WP (dn BI b vs J) K else K (.goto j vs) J) (fun vs J => K (.ret vs) J) o J) (fun vs J h => by simpa [byOut] using h) (fun j vs J hj h => by simpa [byOut, hj] using h) (fun vs J h => h)
 cases r with
 | none => exact h1.elim
 | some q =>
  obtain ⟨o, J⟩ := q
  cases o with
  | goto j vs =>
   simp only [WP_some, byOut_goto] at h1
   simp only [onJoinD, onJoin]
   split at h1
   ·rename_i hj; rw [if_pos hj]; exact h1
   ·rename_i hj; rw [if_neg hj]; exact h1
  | ret vs => exact h1
theorem WP_iter {f : List IV → JH → Option (Out IV × JH)} {l : Nat} {K : Out IV → JH → Prop} (I : Nat → List IV → JH → Prop)
  (hs : ∀ n vs J, I n vs J → ∀ K' : Out IV → JH → Prop, (∀ ws m J', m < n → I m ws J' → K' (.goto l ws) J') → (∀ j ws J', j ≠ l → K (.goto j ws) J' → K' (.goto j ws) J') → (∀ ws J', K (.ret ws) J' → K' (.ret ws) J') → WP (f vs J) K') :
  ∀ n vs J, I n vs J → WP (iter f l vs J) K := by
 intro n
 induction n using Nat.strongRecOn with
 | ind n ih =>
  intro vs J hI
  have h := hs n vs J hI (fun o J' => byOut (fun j ws J' => if j = l then ∃ m, m < n ∧ I m ws J' else K (.goto j ws) J') (fun ws J' => K (.ret ws) J') o J') (fun ws m J' hm hi => by simp only [byOut, if_true]; exact ⟨m, hm, hi⟩) (fun j ws J' hj hk => by simp only [byOut, if_neg hj]; exact hk) (fun ws J' h => h)
  obtain ⟨o, J', hf, hp⟩ := WP_of h
  cases o with
  | goto j ws =>
   simp only [byOut_goto] at hp
   split at hp
   ·rename_i hj
    subst hj
    obtain ⟨m, hm, hi⟩ := hp
    obtain ⟨o2, J2, h2, p2⟩ := WP_of (ih m hm ws J' hi)
    rw [iter_step hf h2]
    exact p2
   ·rename_i hj
    rw [iter_out hf hj]
    exact hp
  | ret ws =>
   rw [iter_ret hf]
   exact hp
theorem WP_loop {f : List IV → JH → Option (Out IV × JH)} {l0 l1 : Nat} {b : L} {K : Out IV → JH → Prop} (hne : l0 ≠ l1) (I : Nat → List IV → JH → Prop)
  (hs : ∀ n vs J, I n vs J → ∀ K' : Out IV → JH → Prop, (∀ ws m J', m < n → I m ws J' → K' (.goto l1 ws) J') → (∀ ws J', WP (dn BI b ws J') K → K' (.goto l0 ws) J') → (∀ ws J', K (.ret ws) J' → K' (.ret ws) J') → WP (f vs J) K') :
  ∀ n vs J, I n vs J → WP (onJoinD l0 (iter f l1 vs J) b) K := fun n vs J hI =>
 WP_join fun K1 g1 _ g3 => WP_iter I (fun n vs J hI K' k1 k2 k3 => hs n vs J hI K' k1 (fun ws J' h => k2 l0 ws J' hne (g1 ws J' h)) (fun ws J' h => k3 ws J' (g3 ws J' h))) n vs J hI
theorem RP_run {f : FuncId} {l : LFn} {args : List IV} {J : JH} {P} (hf : BI.fn f = some l) (hl : args.length = l.np) (h : ∀ K : Out IV → JH → Prop, (∀ vs J', P (itup vs) J' → K (.ret vs) J') → WP (dn BI l.body args J) K) : RP (ic BI f args J) P := by
 obtain ⟨o, J', hd, hp⟩ := WP_of (h (fun o J' => byOut (fun _ _ _ => False) (fun vs J' => P (itup vs) J') o J') (fun vs J' h => h))
 cases o with
 | goto j ws => exact hp.elim
 | ret vs => rw [ic_run hf hl hd]; exact hp
theorem WP_bind {r : Option (IV × JH)} {k : L} {ρ : List IV} {P Q} (h : RP r Q) (hk : ∀ v J', Q v J' → WP (dn BI k (ρ ++ [v]) J') P) : WP (thenD r k ρ) P := by
 obtain ⟨v, J', hc, hq⟩ := RP_of h
 rw [hc]
 exact hk v J' hq
theorem WP_call {f : FuncId} {args : List IV} {J : JH} {k : L} {ρ : List IV} {P Q} (h : RP (ic BI f args J) Q) (hk : ∀ v J', Q v J' → WP (dn BI k (ρ ++ [v]) J') P) : WP (thenD (doCall (ic BI) .raw f args J) k ρ) P := WP_bind h hk
theorem pcW {f : FuncId} {l : LFn} {args : List IV} {P : IV → Prop} (hf : BI.fn f = some l) (hl : args.length = l.np) (h : ∀ K : Out IV → JH → Prop, (∀ vs J' u, frz J' DEP (itup vs) = some u → P u → K (.ret vs) J') → WP (dn BI l.body args #[]) K) : ∃ u, pc BI f args = some u ∧ P u := by
 obtain ⟨o, J', hd, hp⟩ := WP_of (h (fun o J' => byOut (fun _ _ _ => False) (fun vs J' => ∃ u, frz J' DEP (itup vs) = some u ∧ P u) o J') (fun vs J' u h1 h2 => ⟨u, h1, h2⟩))
 cases o with
 | goto j ws => exact hp.elim
 | ret vs =>
  obtain ⟨u, hu, hp⟩ := hp
  exact ⟨u, pc_intro (gv_none hf) hf hl hd hu, hp⟩
theorem pcE {f : FuncId} {l : LFn} {args : List IV} {r : IV} (hf : BI.fn f = some l) (hl : args.length = l.np) (h : ∀ K : Out IV → JH → Prop, (∀ vs J', frz J' DEP (itup vs) = some r → K (.ret vs) J') → WP (dn BI l.body args #[]) K) : pc BI f args = some r := by
 obtain ⟨u, hu, rfl⟩ := pcW (P := fun u => u = r) hf hl (fun K hK => h K fun vs J' h1 => hK vs J' r h1 rfl)
 exact hu
theorem frzE {J : JH} {v w : IV} (h : ipure v = true) (e : v = w) : frz J DEP v = some w := by rw [← e]; exact frzP h
theorem lt_get {α : Type} {J : Array α} {b : Nat} {X : α} (h : J[b]? = some X) : b < J.size := by
 rcases Nat.lt_or_ge b J.size with h1 | h1
 ·exact h1
 ·rw [Array.getElem?_eq_none h1] at h; cases h
theorem inb {α : Type} {J : Array α} {b : Nat} {X : α} (h : J[b]? = some X) : (b < J.size) = True ∧ (b = J.size) = False ∧ (J.size = b) = False ∧ (∀ k, (b < J.size + k) = True) ∧ (∀ k, (b = J.size + k) = False) ∧ (∀ k, (J.size + k = b) = False) := by
 have := lt_get h
 refine ⟨by simp [this], by simp; omega, by simp; omega, fun k => by simp; omega, fun k => by simp; omega, fun k => by simp; omega⟩
def Fr (J J' : JH) (S : List Nat) : Prop := J.size ≤ J'.size ∧ ∀ d, d < J.size → d ∉ S → J'[d]? = J[d]?
theorem Fr.refl (J : JH) (S : List Nat) : Fr J J S := ⟨Nat.le_refl _, fun _ _ _ => rfl⟩
theorem Fr.trans {J J1 J2 : JH} {S T : List Nat} (h : Fr J J1 S) (k : Fr J1 J2 T) (hT : ∀ d, d < J.size → d ∈ T → d ∈ S) : Fr J J2 S :=
 ⟨Nat.le_trans h.1 k.1, fun d hd hn => by rw [k.2 d (Nat.lt_of_lt_of_le hd h.1) (fun ht => hn (hT d hd ht)), h.2 d hd hn]⟩
theorem Fr.push (J : JH) (X : IB) (S : List Nat) : Fr J (J.push X) S := ⟨by simp, fun d hd _ => by rw [Array.getElem?_push, if_neg (Nat.ne_of_lt hd)]⟩
theorem Fr.set (J : JH) {b : Nat} (X : IB) {S : List Nat} (hb : b ∈ S) : Fr J (J.setIfInBounds b X) S := ⟨by simp, fun d hd hn => by
 rw [Array.getElem?_setIfInBounds, if_neg]
 rintro rfl
 exact hn hb⟩
theorem evI_fn {ρ : List IV} {f : FuncId} : evI ρ (.func f) = .fn f [] [] := rfl
def storeF (sz : Nat) (p v : IV) (J : JH) : Option (IV × JH) := istore sz p v J
theorem iexec_store {B : IBook} {C : ICall} {md : Md} {ρ : List IV} {sz : Nat} {x v : Operand} {J : JH} : iexec B C md ρ (.store sz x v) J = storeF sz (evI ρ x) (evI ρ v) J := rfl
theorem storeF_ptr {sz b w off : Nat} {v : IV} {J : JH} : storeF sz (.ptr b w off) v J = if (icells v).length = sz then (match iwr J b w off (icells v) with | some J' => some ((.tup []), J') | none => none) else none := rfl
def lenF (str : Bool) (x : IV) (J : JH) : Option (IV × JH) := match x with
  | .sc (.string s) => if str then ilift (some (.int .i64 s.size)) J else ilift none J
  | v => if str then ilift none J else ilift ((ilen v).map fun n => .int .i64 (n : Nat)) J
theorem iexec_len {B : IBook} {C : ICall} {md : Md} {ρ : List IV} {str : Bool} {x : Operand} {J : JH} : iexec B C md ρ (.len str x) J = lenF str (evI ρ x) J := rfl
theorem lenF_nil {J : JH} : lenF false (.sc (.slice none 0 0)) J = some (.int .i64 0, J) := rfl
theorem lenF_lst {J : JH} {sz : Nat} {f : Bool} {xs : List IV} : lenF false (.lst sz f xs) J = some (.int .i64 (xs.length : Nat), J) := rfl
theorem lenF_sl {J : JH} {b v o n c z : Nat} : lenF false (.sl b v o n c z) J = some (.int .i64 (n : Nat), J) := rfl
theorem lenF_str {J : JH} {s : ByteArray} : lenF true (.sc (.string s)) J = some (.int .i64 s.size, J) := rfl
def iaddrF (sz : Nat) (x i : IV) (J : JH) : Option (IV × JH) := match x, iasNat i with
  | .sl b v o n _ z, some j => if j < n ∧ z = sz then ilift (some (.ptr b v (o + j * sz))) J else ilift none J
  | .lst z _ xs, some j => (match xs[j]? with | some e => if z = sz then ilift (some (.rptr e 0)) J else ilift none J | none => ilift none J)
  | _, _ => ilift none J
theorem iexec_iaddr {B : IBook} {C : ICall} {md : Md} {ρ : List IV} {sz : Nat} {x i : Operand} {J : JH} : iexec B C md ρ (.iaddr sz x i) J = iaddrF sz (evI ρ x) (evI ρ i) J := rfl
theorem iaddrF_lst {sz : Nat} {f : Bool} {xs : List IV} {κ : IntKind} {i : Int} {J : JH} : iaddrF sz (.lst sz f xs) (.int κ i) J = (match iasNat (.int κ i) with | some j => (match xs[j]? with | some e => some (.rptr e 0, J) | none => none) | none => none) := by
 simp only [iaddrF]
 cases iasNat (.int κ i) with
 | none => rfl
 | some j => simp only; cases xs[j]? <;> simp [ilift]
theorem iaddrF_sl {sz : Nat} {b v o n c : Nat} {κ : IntKind} {i : Int} {J : JH} : iaddrF sz (.sl b v o n c sz) (.int κ i) J = (match iasNat (.int κ i) with | some j => if j < n then some (.ptr b v (o + j * sz), J) else none | none => none) := by
 simp only [iaddrF]
 cases iasNat (.int κ i) with
 | none => rfl
 | some j => simp only [and_true]; split <;> rfl
def Ls (sz : Nat) (x : IV) (xs : List IV) : Prop := (x = .sc (.slice none 0 0) ∧ xs = []) ∨ ∃ f, x = .lst sz f xs
def Bs (x : IV) (l : List Int) : Prop := Ls 1 x (l.map (IV.int .u8))
theorem Ls.nil {sz : Nat} : Ls sz (.sc (.slice none 0 0)) [] := .inl ⟨rfl, rfl⟩
theorem Ls.lst {sz : Nat} {f : Bool} {xs : List IV} : Ls sz (.lst sz f xs) xs := .inr ⟨f, rfl⟩
theorem Ls.ilen {sz : Nat} {x : IV} {xs : List IV} (h : Ls sz x xs) : ilen x = some xs.length := by
 rcases h with ⟨rfl, rfl⟩ | ⟨f, rfl⟩ <;> rfl
theorem Ls.cells {sz : Nat} {x : IV} {xs : List IV} (h : Ls sz x xs) (J : JH) : iscells J sz x = some (xs.flatMap icells) := by
 rcases h with ⟨rfl, rfl⟩ | ⟨f, rfl⟩ <;> simp [iscells]
theorem Ls.pure {sz : Nat} {x : IV} {xs : List IV} (h : Ls sz x xs) : ipure x = true := by
 rcases h with ⟨rfl, rfl⟩ | ⟨f, rfl⟩ <;> simp [ipure]
theorem Ls.one {sz : Nat} {x : IV} {xs : List IV} (h : Ls sz x xs) : ione x = true := by
 rcases h with ⟨rfl, rfl⟩ | ⟨f, rfl⟩ <;> simp [ione, Go.Proofs.Ytdclinhgekbejaa.G.one]
theorem Ls.icells {sz : Nat} {x : IV} {xs : List IV} (h : Ls sz x xs) : icells x = [x] := by
 rcases h with ⟨rfl, rfl⟩ | ⟨f, rfl⟩ <;> simp [Go.Proofs.Ytdclinhgekbejaa.G.icells]
theorem Ls.ne {sz : Nat} {x : IV} {xs : List IV} (h : Ls sz x xs) (hn : xs ≠ []) : ∃ f, x = .lst sz f xs := by
 rcases h with ⟨rfl, rfl⟩ | h
 ·exact absurd rfl hn
 ·exact h
theorem Ls.get {sz : Nat} {x : IV} {xs : List IV} (h : Ls sz x xs) {i : Nat} (hi : i < xs.length) : ∃ f, x = .lst sz f xs := h.ne fun h => by rw [h] at hi; simp at hi
theorem Ls.lenF {sz : Nat} {x : IV} {xs : List IV} (h : Ls sz x xs) {J : JH} : lenF false x J = some (.int .i64 (xs.length : Nat), J) := by
 rcases h with ⟨rfl, rfl⟩ | ⟨f, rfl⟩ <;> rfl
theorem Ls.at {sz : Nat} {x : IV} {xs : List IV} (h : Ls sz x xs) {i : Nat} (hi : i < xs.length) {J : JH} : iaddrF sz x (.int .i64 (i : Int)) J = some (.rptr xs[i] 0, J) := by
 obtain ⟨f, rfl⟩ := h.get hi
 rw [iaddrF_lst]
 simp [iasNat, asNat, hi]
theorem Bs.lenF {x : IV} {l : List Int} (h : Bs x l) {J : JH} : Go.Proofs.Ytdclinhgekbejaa.G.lenF false x J = some (.int .i64 (l.length : Nat), J) := by rw [Ls.lenF h]; simp
theorem Bs.at {x : IV} {l : List Int} (h : Bs x l) {i : Nat} (hi : i < l.length) {J : JH} : iaddrF 1 x (.int .i64 (i : Int)) J = some (.rptr (.int .u8 l[i]) 0, J) := by
 rw [Ls.at h (by simpa using hi)]; simp
theorem Bs.len {x : IV} {l : List Int} (h : Bs x l) : Go.Proofs.Ytdclinhgekbejaa.G.ilen x = some l.length := by rw [Ls.ilen h]; simp
def appF (sz bytes : Nat) (s x : IV) (J : JH) : Option (IV × JH) := if 0 < sz then iappend sz bytes s x J else none
theorem iexec_append {B : IBook} {C : ICall} {md : Md} {ρ : List IV} {sz by' : Nat} {s x : Operand} {J : JH} : iexec B C md ρ (.append sz by' s x) J = appF sz by' (evI ρ s) (evI ρ x) J := by
 simp only [iexec, appF, ilift]
def blk (x : IV) : List Nat := (blkOf x).getD []
def Grow (J : JH) (x : IV) (sz : Nat) (cs : List IV) : Prop := (x = .sc (.slice none 0 0) ∧ cs = []) ∨ ∃ b v n full, x = .sl b v 0 n (UNK + sz) sz ∧ J[b]? = some (.cells v full false) ∧ n * sz ≤ full.length ∧ full.take (n * sz) = cs ∧ irefsL (full.drop (n * sz)) = []
theorem Grow.nil {J : JH} {sz : Nat} : Grow J (.sc (.slice none 0 0)) sz [] := .inl ⟨rfl, rfl⟩
theorem Grow.low {J : JH} {x : IV} {sz : Nat} {cs : List IV} (h : Grow J x sz cs) : ∀ b ∈ blk x, b < J.size := by
 rcases h with ⟨rfl, rfl⟩ | ⟨b, v, n, full, rfl, h1, h2, h3, h4⟩
 ·simp [blk, blkOf]
 ·simp only [blk, blkOf, Option.getD_some, List.mem_singleton, forall_eq]
  exact lt_get h1
theorem Grow.fr {J J' : JH} {x : IV} {sz : Nat} {cs : List IV} {S : List Nat} (h : Grow J x sz cs) (hf : Fr J J' S) (hS : ∀ b ∈ blk x, b ∉ S) : Grow J' x sz cs := by
 rcases h with ⟨rfl, rfl⟩ | ⟨b, v, n, full, rfl, h1, h2, h3, h4⟩
 ·exact .nil
 ·refine .inr ⟨b, v, n, full, rfl, ?_, h2, h3, h4⟩
  rw [hf.2 b (lt_get h1) (hS b (by simp [blk, blkOf]))]
  exact h1
theorem Grow.app {J : JH} {s y : IV} {sz by' m : Nat} {cs ds : List IV} (h : Grow J s sz cs) (hsz : 0 < sz) (hy : iscells J sz y = some ds) (hm : Go.Proofs.Ytdclinhgekbejaa.G.ilen y = some m) (hd : ds.length = m * sz) (ho : ds.all ione = true) (hf : fits (cs.length + m) by' = true) :
  RP (appF sz by' s y J) fun s' J' => Grow J' s' sz (cs ++ ds) ∧ Fr J J' (blk s) ∧ (∀ b ∈ blk s', b ∈ blk s ∨ J.size ≤ b) := by
 have hfm : ∀ k, k ≤ cs.length + m → fits k by' = true := fun k hk => by
  simp only [fits, Bool.and_eq_true, decide_eq_true_eq] at hf ⊢
  refine ⟨by omega, Nat.le_trans (Nat.mul_le_mul_right by' hk) hf.2⟩
 unfold appF
 rw [if_pos hsz]
 unfold iappend
 simp only [hy, hm]
 rcases h with ⟨rfl, rfl⟩ | ⟨b, v, n, full, rfl, h1, h2, h3, h4⟩
 ·by_cases h0 : m = 0
  ·subst h0
   have : ds = [] := List.eq_nil_of_length_eq_zero (by simpa using hd)
   subst this
   simp only [if_true, RP_some]
   exact ⟨.nil, .refl _ _, fun b hb => .inl hb⟩
  ·simp only [if_neg h0, hfm m (by omega), ho, Bool.and_self, if_true, RP_some]
   refine ⟨.inr ⟨J.size, 0, m, ds, rfl, by simp, by omega, ?_, by rw [List.drop_of_length_le (by omega)]; rfl⟩, Fr.push _ _ _, ?_⟩
   ·rw [List.nil_append, List.take_of_length_le (by omega)]
   ·simp [blk, blkOf]
 ·by_cases h0 : m = 0
  ·subst h0
   have : ds = [] := List.eq_nil_of_length_eq_zero (by simpa using hd)
   subst this
   simp only [if_true, RP_some, List.append_nil]
   exact ⟨.inr ⟨b, v, n, full, rfl, h1, h2, h3, h4⟩, .refl _ _, fun b hb => .inl hb⟩
  ·have hcl : cs.length = n * sz := by rw [← h3, List.length_take]; omega
   have hn : n ≤ cs.length := by rw [hcl]; exact Nat.le_mul_of_pos_right n hsz
   simp only [if_neg h0, hfm (n + m) (by omega), ho, Bool.and_self, and_self, if_true, h1, Nat.zero_add, h2, RP_some, Nat.le_add_right, List.drop_zero, h3]
   refine ⟨.inr ⟨b, v + 1, n + m, cs ++ ds, rfl, ?_, ?_, ?_, by rw [List.drop_of_length_le (by rw [List.length_append, hcl, hd, Nat.add_mul]; exact Nat.le_refl _)]; rfl⟩, Fr.set _ _ (by simp [blk, blkOf]), fun b hb => .inl (by simpa [blk, blkOf] using hb)⟩
   ·simp [lt_get h1]
   ·rw [List.length_append, hcl, hd, Nat.add_mul]; exact Nat.le_refl _
   ·rw [List.take_of_length_le]
    rw [List.length_append, hcl, hd, Nat.add_mul]; exact Nat.le_refl _
theorem Grow.one {J : JH} {s : IV} {sz : Nat} {cs : List IV} (h : Grow J s sz cs) : ione s = true := by
 rcases h with ⟨rfl, rfl⟩ | ⟨b, v, n, full, rfl, h1, h2, h3, h4⟩ <;> simp [ione, Go.Proofs.Ytdclinhgekbejaa.G.one]
theorem Grow.icells {J : JH} {s : IV} {sz : Nat} {cs : List IV} (h : Grow J s sz cs) : icells s = [s] := by
 rcases h with ⟨rfl, rfl⟩ | ⟨b, v, n, full, rfl, h1, h2, h3, h4⟩ <;> simp [Go.Proofs.Ytdclinhgekbejaa.G.icells]
theorem grp1' {n : Nat} {l : List IV} (h : n = l.length) : grp 1 n l = l := by subst h; exact grp1 l
theorem Grow.cells {J : JH} {s : IV} {sz : Nat} {cs : List IV} (h : Grow J s sz cs) : iscells J sz s = some cs := by
 rcases h with ⟨rfl, rfl⟩ | ⟨b, v, n, full, rfl, h1, h2, h3, h4⟩
 ·rfl
 ·simp [iscells, ird, h1, h2, h3]
theorem Grow.lenF {J J' : JH} {s : IV} {sz n : Nat} {cs : List IV} (h : Grow J s sz cs) (hn : cs.length = n * sz) (hsz : 0 < sz) : Go.Proofs.Ytdclinhgekbejaa.G.lenF false s J' = some (.int .i64 (n : Nat), J') := by
 rcases h with ⟨rfl, rfl⟩ | ⟨b, v, k, full, rfl, h1, h2, h3, h4⟩
 ·have : n = 0 := by
   rcases Nat.eq_zero_or_pos n with h | h
   ·exact h
   ·have := Nat.mul_pos h hsz; simp at hn; omega
  subst this; rfl
 ·have hcl : cs.length = k * sz := by rw [← h3, List.length_take]; omega
  rw [hn] at hcl
  rw [lenF_sl, Nat.eq_of_mul_eq_mul_right hsz hcl]
def LsR {α : Type} (sz : Nat) (R : IV → α → Prop) (x : IV) (as : List α) : Prop := ∃ xs, Ls sz x xs ∧ xs.length = as.length ∧ ∀ i (h : i < xs.length) (h' : i < as.length), R xs[i] as[i]
theorem LsR.lenF {α : Type} {sz : Nat} {R : IV → α → Prop} {x : IV} {as : List α} (h : LsR sz R x as) {J : JH} : Go.Proofs.Ytdclinhgekbejaa.G.lenF false x J = some (.int .i64 (as.length : Nat), J) := by
 obtain ⟨xs, h1, h2, _⟩ := h
 rw [← h2]; exact h1.lenF
theorem LsR.at {α : Type} {sz : Nat} {R : IV → α → Prop} {x : IV} {as : List α} (h : LsR sz R x as) {i : Nat} (hi : i < as.length) : ∃ e, R e as[i] ∧ ∀ J, iaddrF sz x (.int .i64 (i : Int)) J = some (.rptr e 0, J) := by
 obtain ⟨xs, h1, h2, h3⟩ := h
 exact ⟨xs[i]'(by omega), h3 i (by omega) hi, fun J => h1.at (by omega)⟩
theorem LsR.pure {α : Type} {sz : Nat} {R : IV → α → Prop} {x : IV} {as : List α} (h : LsR sz R x as) : ipure x = true := h.choose_spec.1.pure
theorem LsR.nil {α : Type} {sz : Nat} {R : IV → α → Prop} : LsR sz R (.sc (.slice none 0 0)) [] := ⟨[], .nil, rfl, fun i h => by simp at h⟩
noncomputable def thenC (r : Option (IV × JH)) (J : JH) (chk : List (Option (Operand × Bool) × SOp)) (t : Option (List Nat)) (ρ : List IV) (k : L) : Option (Out IV × JH) := match r with
 | some (v, J') => if chk.all (ichk J J' t ρ) then dn BI k (ρ ++ [v]) J' else none
 | none => none
theorem step_chk {ρ : List IV} {J : JH} {p : SOp} {md : Md} {chk} : stepI' BI (ic BI) ρ ⟨none, p, md, chk⟩ J = (match iexec BI (ic BI) md ρ p J with | some (v, J') => if chk.all (ichk J J' (itouch BI md ρ p J) ρ) then some (v, J') else none | none => none) := rfl
def blkF (x : IV) : Option (List Nat) := Go.Proofs.Ytdclinhgekbejaa.G.blkOf x
theorem dnW_oca {ρ : List IV} {J : JH} {sz by' : Nat} {s x : Operand} {md : Md} {chk} {k : L} : dn BI (oc none (.append sz by' s x) md chk k) ρ J = thenC (appF sz by' (evI ρ s) (evI ρ x) J) J chk (blkF (evI ρ s)) ρ k := by
 rw [dnW_oc, step_chk, iexec_append]
 have ht : itouch BI md ρ (.append sz by' s x) J = blkOf (evI ρ s) := rfl
 rw [ht]
 unfold thenC blkF
 generalize appF sz by' (evI ρ s) (evI ρ x) J = r
 cases r with
 | none => rfl
 | some q =>
  by_cases hh : chk.all (ichk J q.2 (blkOf (evI ρ s)) ρ) = true
  ·simp only [hh, if_true]; rfl
  ·simp only [hh]; rfl
theorem Grow.blkF {J : JH} {s : IV} {sz : Nat} {cs : List IV} (h : Grow J s sz cs) : blkF s = some (blk s) := by
 rcases h with ⟨rfl, rfl⟩ | ⟨b, v, n, full, rfl, h1, h2, h3, h4⟩ <;> rfl
attribute [go_sem] dnW_ite
end Go.Proofs.Ytdclinhgekbejaa.G
namespace Go.Proofs.Ytdclinhgekbejaa.G
open Go
attribute [go_sem ↓] dnW_oca iexec_len iexec_iaddr iexec_append iexec_store
attribute [go_sem] rawB allC1 dn_ret dn_goto iexec evI_0 evI_succ evI_int evI_bool evI_nilsl evI_nilp List.cons_append List.nil_append scal2_sc abin aun ilift_some Option.map_some Option.map_none decide_eq_true_eq List.map_cons List.map_nil if_true if_false Bool.false_eq_true inew iload istore iwr ird icells ione one List.getElem?_toArray List.getElem?_cons_zero List.getElem?_cons_succ List.push_toArray List.size_toArray List.length_cons List.length_nil List.setIfInBounds_toArray List.set_cons_zero List.set_cons_succ isplice_cons List.drop_succ_cons List.drop_zero List.take_succ_cons List.take_zero List.drop_nil List.take_nil List.append_nil List.all_cons List.all_nil Bool.and_true Bool.true_and Bool.and_self Nat.zero_add Nat.add_zero Nat.le_refl true_and and_true and_self List.getElem?_nil BI_zc BI_zv BI_co zcT zvT coT not_true_eq_false not_false_eq_true Bool.not_true Bool.not_false stepI' wantsI ifill ievs itup Nat.le_add_left Nat.le_add_right iaggEq List.foldl iminI iminF imin2 min2 iisNil isNil ilen Option.isNone_none Option.isNone_some Nat.zero_le decide_true decide_false ireps List.replicate List.flatten_cons List.flatten_nil ichk itouch ctouch ilooks isame untouched Option.isSome_some Bool.or_true Bool.true_or List.contains_nil blkOf IntKind.bits iasNat asNat Int.toNat_natCast Int.natCast_nonneg List.length_map iscells ibnd islice capOf Option.isSome_none Bool.false_and Bool.and_false Bool.or_false Bool.false_or bne_self_eq_false Nat.not_lt_zero Nat.mul_one Nat.one_mul Nat.zero_mul Nat.mul_zero beq_self_eq_true Nat.sub_zero List.length_set false_implies implies_true forall_const evI_fn Nat.zero_lt_one dnW_o dnW_om dnW_oc dnW_join thenD_some thenD_ite onIfD_bool onJoinD_out onJoinD_ret onJoinD_ite WP_some WP_ite byOut_goto byOut_ret storeF_ptr lenF_nil lenF_lst lenF_sl lenF_str iaddrF_sl iaddrF_lst
attribute [go_sem_proc] reduceIte Nat.reduceAdd Nat.reduceLeDiff Nat.reduceMul Nat.reduceEqDiff Int.reduceLT Int.reduceLE Int.reduceToNat Nat.reduceSub Nat.reduceLT Int.reduceEq BitVec.reduceOfInt BitVec.reduceOfNat Int.reduceGT Int.reduceGE Int.reduceBEq Int.reduceBNe Nat.reduceGT Nat.reduceBEq Nat.reduceBNe Int.reduceAdd Int.reduceSub Int.reduceNeg
section
variable {α : Type} {sz : Nat}
theorem flat_len : ∀ {X : List (List α)}, (∀ x ∈ X, x.length = sz) → X.flatten.length = X.length * sz
 | [], _ => by simp
 | x :: X, h => by
  rw [List.flatten_cons, List.length_append, h x (by simp), flat_len fun y hy => h y (by simp [hy]), List.length_cons, Nat.succ_mul]
  omega
theorem flat_drop : ∀ {X : List (List α)} {rest : List α} {i : Nat}, (∀ x ∈ X, x.length = sz) → i ≤ X.length → (X.flatten ++ rest).drop (i * sz) = (X.drop i).flatten ++ rest
 | _, _, 0, _, _ => by simp
 | [], _, i + 1, _, h => by simp at h
 | x :: X, rest, i + 1, h, hi => by
  have hx := h x (by simp)
  rw [List.flatten_cons, List.append_assoc, Nat.succ_mul, Nat.add_comm, List.drop_append, hx, List.drop_of_length_le (by omega), List.nil_append, Nat.add_sub_cancel_left, List.drop_succ_cons]
  exact flat_drop (fun y hy => h y (by simp [hy])) (by simpa using hi)
theorem flat_take : ∀ {X : List (List α)} {rest : List α} {i : Nat}, (∀ x ∈ X, x.length = sz) → i ≤ X.length → (X.flatten ++ rest).take (i * sz) = (X.take i).flatten
 | _, _, 0, _, _ => by simp
 | [], _, i + 1, _, h => by simp at h
 | x :: X, rest, i + 1, h, hi => by
  have hx := h x (by simp)
  rw [List.flatten_cons, List.append_assoc, Nat.succ_mul, Nat.add_comm, List.take_append, hx, List.take_of_length_le (by omega), Nat.add_sub_cancel_left, List.take_succ_cons, List.flatten_cons]
  rw [flat_take (fun y hy => h y (by simp [hy])) (by simpa using hi)]
end
def SlX (J : JH) (x : IV) (sz : Nat) (X : List (List IV)) : Prop := (∀ e ∈ X, e.length = sz) ∧ ((x = .sc (.slice none 0 0) ∧ X = []) ∨ ∃ b v rest, x = .sl b v 0 X.length (UNK + sz) sz ∧ J[b]? = some (.cells v (X.flatten ++ rest) false) ∧ irefsL rest = [])
theorem SlX.grow {J : JH} {x : IV} {sz : Nat} {X : List (List IV)} (h : SlX J x sz X) : Grow J x sz X.flatten := by
 obtain ⟨h1, ⟨rfl, rfl⟩ | ⟨b, v, rest, rfl, h2, h5⟩⟩ := h
 ·exact .nil
 ·refine .inr ⟨b, v, _, _, rfl, h2, ?_, ?_, by rw [flat_drop h1 (Nat.le_refl _), List.drop_length]; exact h5⟩
  ·rw [List.length_append, flat_len h1]; omega
  ·rw [flat_take h1 (Nat.le_refl _), List.take_length]
end Go.Proofs.Ytdclinhgekbejaa.G
namespace Go.Proofs.Ytdclinhgekbejaa.G
open Go
theorem ofInt_nat {w : Nat} (x : BitVec w) : BitVec.ofInt w (x.toNat : Int) = x := by
 rw [BitVec.ofInt_natCast]; simp
theorem wrapB8 (x : BitVec 8) : IntKind.u8.wrap (x.toNat : Int) = x.toNat := by
 have := x.isLt
 simp only [IntKind.wrap, IntKind.bits, IntKind.signed]; simp; omega
theorem wrapB16 (x : BitVec 16) : IntKind.u16.wrap (x.toNat : Int) = x.toNat := by
 have := x.isLt
 simp only [IntKind.wrap, IntKind.bits, IntKind.signed]; simp; omega
theorem wrapB32 (x : BitVec 32) : IntKind.u32.wrap (x.toNat : Int) = x.toNat := by
 have := x.isLt
 simp only [IntKind.wrap, IntKind.bits, IntKind.signed]; simp; omega
theorem wrapB64 (x : BitVec 64) : IntKind.u64.wrap (x.toNat : Int) = x.toNat := by
 have := x.isLt
 simp only [IntKind.wrap, IntKind.bits, IntKind.signed]; simp; omega
theorem beqB {w : Nat} (x y : BitVec w) : ((x.toNat : Int) == (y.toNat : Int)) = (x == y) := by
 rw [Bool.eq_iff_iff]; simp only [beq_iff_eq]; exact ⟨fun h => BitVec.eq_of_toNat_eq (by omega), fun h => by rw [h]⟩
theorem bneB {w : Nat} (x y : BitVec w) : ((x.toNat : Int) != (y.toNat : Int)) = (x != y) := by
 simp only [bne, beqB]
theorem beqB0 {w : Nat} (x : BitVec w) : ((x.toNat : Int) == 0) = (x == 0#w) := by
 have := beqB x 0#w; simpa using this
theorem bneB0 {w : Nat} (x : BitVec w) : ((x.toNat : Int) != 0) = (x != 0#w) := by
 simp only [bne, beqB0]
theorem wrapS {i n : Nat} (h : i < n) (hn : n ≤ 9223372036854775807) : IntKind.i64.wrap ((i : Int) + 1) = ((i + 1 : Nat) : Int) := by
 rw [wrap_i64 (by omega) (by omega)]; omega
abbrev nI (n : Nat) : IV := .int .i64 (n : Int)
theorem WP_range {f : List IV → JH → Option (Out IV × JH)} {l0 l1 : Nat} {b : L} {K : Out IV → JH → Prop} (hne : l0 ≠ l1) (N : Nat) (S : Nat → List IV → JH → Prop)
  (hs : ∀ i vs J, S i vs J → i ≤ N → ∀ K' : Out IV → JH → Prop, (i < N → ∀ ws J', S (i + 1) ws J' → K' (.goto l1 ws) J') → (∀ ws J', WP (dn BI b ws J') K → K' (.goto l0 ws) J') → (∀ ws J', K (.ret ws) J' → K' (.ret ws) J') → WP (f vs J) K')
  {vs : List IV} {J : JH} (h0 : S 0 vs J) : WP (onJoinD l0 (iter f l1 vs J) b) K :=
 WP_loop hne (fun m vs J => ∃ i, i + m = N ∧ S i vs J) (by
  rintro m vs J ⟨i, hi, h⟩ K' g1 g2 g3
  exact hs i vs J h (by omega) K' (fun hl ws J' h' => g1 ws (m - 1) J' (by omega) ⟨i + 1, by omega, h'⟩) g2 g3) N vs J ⟨0, by omega, h0⟩
theorem WP_rangeT {f : List IV → JH → Option (Out IV × JH)} {l1 : Nat} {K : Out IV → JH → Prop} (N : Nat) (S : Nat → List IV → JH → Prop)
  (hs : ∀ i vs J, S i vs J → i ≤ N → ∀ K' : Out IV → JH → Prop, (i < N → ∀ ws J', S (i + 1) ws J' → K' (.goto l1 ws) J') → (∀ j ws J', j ≠ l1 → K (.goto j ws) J' → K' (.goto j ws) J') → (∀ ws J', K (.ret ws) J' → K' (.ret ws) J') → WP (f vs J) K')
  {vs : List IV} {J : JH} (h0 : S 0 vs J) : WP (iter f l1 vs J) K :=
 WP_iter (fun m vs J => ∃ i, i + m = N ∧ S i vs J) (by
  rintro m vs J ⟨i, hi, h⟩ K' g1 g2 g3
  exact hs i vs J h (by omega) K' (fun hl ws J' h' => g1 ws (m - 1) J' (by omega) ⟨i + 1, by omega, h'⟩) g2 g3) N vs J ⟨0, by omega, h0⟩
theorem pcN (n : Nat) {f : FuncId} {args : List IV} {v u : IV} {J : JH} (h : icall BI n f args #[] = some (v, J)) (hf : frz J DEP v = some u) : pc BI f args = some u := by unfold pc; rw [lim_ic h]; exact hf
theorem convB8 {w : Nat} (x : BitVec w) : IntKind.u8.wrap (x.toNat : Int) = ((x.setWidth 8).toNat : Int) := by
 simp only [IntKind.wrap, IntKind.bits, IntKind.signed, BitVec.toNat_setWidth]; simp
theorem convB16 {w : Nat} (x : BitVec w) : IntKind.u16.wrap (x.toNat : Int) = ((x.setWidth 16).toNat : Int) := by
 simp only [IntKind.wrap, IntKind.bits, IntKind.signed, BitVec.toNat_setWidth]; simp
theorem convB32 {w : Nat} (x : BitVec w) : IntKind.u32.wrap (x.toNat : Int) = ((x.setWidth 32).toNat : Int) := by
 simp only [IntKind.wrap, IntKind.bits, IntKind.signed, BitVec.toNat_setWidth]; simp
theorem convB64 {w : Nat} (x : BitVec w) : IntKind.u64.wrap (x.toNat : Int) = ((x.setWidth 64).toNat : Int) := by
 simp only [IntKind.wrap, IntKind.bits, IntKind.signed, BitVec.toNat_setWidth]; simp
theorem i64B8 (x : BitVec 8) : IntKind.i64.wrap (x.toNat : Int) = (x.toNat : Int) := by have := x.isLt; exact wrap_i64 (by omega) (by omega)
theorem i64B16 (x : BitVec 16) : IntKind.i64.wrap (x.toNat : Int) = (x.toNat : Int) := by have := x.isLt; exact wrap_i64 (by omega) (by omega)
theorem i64B32 (x : BitVec 32) : IntKind.i64.wrap (x.toNat : Int) = (x.toNat : Int) := by have := x.isLt; exact wrap_i64 (by omega) (by omega)
theorem fdivB {w : Nat} (x : BitVec w) (k : Nat) : (x.toNat : Int).fdiv (2 ^ k) = ((x >>> k).toNat : Int) := by
 rw [show ((2 : Int) ^ k) = ((2 ^ k : Nat) : Int) by simp, Int.fdiv_eq_ediv_of_nonneg _ (Int.natCast_nonneg _), BitVec.toNat_ushiftRight, Nat.shiftRight_eq_div_pow]
 simp
theorem addB32 (x y : BitVec 32) : IntKind.u32.wrap ((x.toNat : Int) + (y.toNat : Int)) = ((x + y).toNat : Int) := by
 simp only [IntKind.wrap, IntKind.bits, IntKind.signed, BitVec.toNat_add]; simp
theorem mulB32 (x y : BitVec 32) : IntKind.u32.wrap ((x.toNat : Int) * (y.toNat : Int)) = ((x * y).toNat : Int) := by
 simp only [IntKind.wrap, IntKind.bits, IntKind.signed, BitVec.toNat_mul]; simp
theorem addB32c (x : BitVec 32) (c : Nat) : IntKind.u32.wrap ((x.toNat : Int) + no_index (@OfNat.ofNat Int c instOfNat)) = ((x + BitVec.ofNat 32 c).toNat : Int) := by
 simp only [IntKind.wrap, IntKind.bits, IntKind.signed, BitVec.toNat_add, BitVec.toNat_ofNat]
 show ((x.toNat : Int) + (c : Int)) % _ = _
 simp
theorem mulB32c (x : BitVec 32) (c : Nat) : IntKind.u32.wrap ((x.toNat : Int) * no_index (@OfNat.ofNat Int c instOfNat)) = ((x * BitVec.ofNat 32 c).toNat : Int) := by
 simp only [IntKind.wrap, IntKind.bits, IntKind.signed, BitVec.toNat_mul, BitVec.toNat_ofNat]
 show ((x.toNat : Int) * (c : Int)) % _ = _
 simp [Int.mul_emod]
theorem shlB32 (x : BitVec 32) (k : Nat) : IntKind.u32.wrap ((x.toNat : Int) * 2 ^ k) = ((x <<< k).toNat : Int) := by
 simp only [IntKind.wrap, IntKind.bits, IntKind.signed, BitVec.toNat_shiftLeft, Nat.shiftLeft_eq]; simp
theorem shlB64 (x : BitVec 64) (k : Nat) : IntKind.u64.wrap ((x.toNat : Int) * 2 ^ k) = ((x <<< k).toNat : Int) := by
 simp only [IntKind.wrap, IntKind.bits, IntKind.signed, BitVec.toNat_shiftLeft, Nat.shiftLeft_eq]; simp
theorem shl1B32 (k : Nat) : IntKind.u32.wrap (1 * 2 ^ k) = ((1#32 <<< k).toNat : Int) := shlB32 1#32 k
theorem shl1B64 (k : Nat) : IntKind.u64.wrap (1 * 2 ^ k) = ((1#64 <<< k).toNat : Int) := shlB64 1#64 k
theorem notB32 (x : BitVec 32) : aun .xor (.int .u32 (x.toNat : Int)) = some (.int .u32 ((~~~x).toNat : Int)) := by
 have e : BitVec.ofInt 32 IntKind.u32.max = BitVec.allOnes 32 := by decide
 simp only [aun, IntKind.bits, IntKind.signed, Bool.false_eq_true, if_false, ofInt_nat]
 rw [e]
 have e2 : BitVec.allOnes 32 ^^^ x = ~~~x := BitVec.allOnes_xor
 have e3 := wrapB32 (~~~x)
 rw [← e2] at e3 ⊢
 exact congrArg (fun z => some (Value.int .u32 z)) e3
theorem band8 (x y : BitVec 8) : abin .and (.int .u8 (x.toNat : Int)) (.int .u8 (y.toNat : Int)) = some (.int .u8 ((x &&& y).toNat : Int)) := by
 show some (Value.int .u8 (IntKind.u8.wrap ((BitVec.ofInt 8 (x.toNat : Int) &&& BitVec.ofInt 8 (y.toNat : Int)).toNat : Int))) = _
 rw [ofInt_nat, ofInt_nat, wrapB8]
theorem band8c (x : BitVec 8) (c : Nat) : abin .and (.int .u8 (x.toNat : Int)) (.int .u8 (no_index (@OfNat.ofNat Int c instOfNat))) = some (.int .u8 ((x &&& BitVec.ofNat 8 c).toNat : Int)) := by
 show some (Value.int .u8 (IntKind.u8.wrap ((BitVec.ofInt 8 (x.toNat : Int) &&& BitVec.ofInt 8 ((c : Nat) : Int)).toNat : Int))) = _
 rw [ofInt_nat, BitVec.ofInt_natCast, wrapB8]
theorem bor8 (x y : BitVec 8) : abin .or (.int .u8 (x.toNat : Int)) (.int .u8 (y.toNat : Int)) = some (.int .u8 ((x ||| y).toNat : Int)) := by
 show some (Value.int .u8 (IntKind.u8.wrap ((BitVec.ofInt 8 (x.toNat : Int) ||| BitVec.ofInt 8 (y.toNat : Int)).toNat : Int))) = _
 rw [ofInt_nat, ofInt_nat, wrapB8]
theorem bor8c (x : BitVec 8) (c : Nat) : abin .or (.int .u8 (x.toNat : Int)) (.int .u8 (no_index (@OfNat.ofNat Int c instOfNat))) = some (.int .u8 ((x ||| BitVec.ofNat 8 c).toNat : Int)) := by
 show some (Value.int .u8 (IntKind.u8.wrap ((BitVec.ofInt 8 (x.toNat : Int) ||| BitVec.ofInt 8 ((c : Nat) : Int)).toNat : Int))) = _
 rw [ofInt_nat, BitVec.ofInt_natCast, wrapB8]
theorem bxor8 (x y : BitVec 8) : abin .xor (.int .u8 (x.toNat : Int)) (.int .u8 (y.toNat : Int)) = some (.int .u8 ((x ^^^ y).toNat : Int)) := by
 show some (Value.int .u8 (IntKind.u8.wrap ((BitVec.ofInt 8 (x.toNat : Int) ^^^ BitVec.ofInt 8 (y.toNat : Int)).toNat : Int))) = _
 rw [ofInt_nat, ofInt_nat, wrapB8]
theorem bxor8c (x : BitVec 8) (c : Nat) : abin .xor (.int .u8 (x.toNat : Int)) (.int .u8 (no_index (@OfNat.ofNat Int c instOfNat))) = some (.int .u8 ((x ^^^ BitVec.ofNat 8 c).toNat : Int)) := by
 show some (Value.int .u8 (IntKind.u8.wrap ((BitVec.ofInt 8 (x.toNat : Int) ^^^ BitVec.ofInt 8 ((c : Nat) : Int)).toNat : Int))) = _
 rw [ofInt_nat, BitVec.ofInt_natCast, wrapB8]
theorem bandNot8 (x y : BitVec 8) : abin .andNot (.int .u8 (x.toNat : Int)) (.int .u8 (y.toNat : Int)) = some (.int .u8 ((x &&& ~~~y).toNat : Int)) := by
 show some (Value.int .u8 (IntKind.u8.wrap ((BitVec.ofInt 8 (x.toNat : Int) &&& ~~~ BitVec.ofInt 8 (y.toNat : Int)).toNat : Int))) = _
 rw [ofInt_nat, ofInt_nat, wrapB8]
theorem band16 (x y : BitVec 16) : abin .and (.int .u16 (x.toNat : Int)) (.int .u16 (y.toNat : Int)) = some (.int .u16 ((x &&& y).toNat : Int)) := by
 show some (Value.int .u16 (IntKind.u16.wrap ((BitVec.ofInt 16 (x.toNat : Int) &&& BitVec.ofInt 16 (y.toNat : Int)).toNat : Int))) = _
 rw [ofInt_nat, ofInt_nat, wrapB16]
theorem band16c (x : BitVec 16) (c : Nat) : abin .and (.int .u16 (x.toNat : Int)) (.int .u16 (no_index (@OfNat.ofNat Int c instOfNat))) = some (.int .u16 ((x &&& BitVec.ofNat 16 c).toNat : Int)) := by
 show some (Value.int .u16 (IntKind.u16.wrap ((BitVec.ofInt 16 (x.toNat : Int) &&& BitVec.ofInt 16 ((c : Nat) : Int)).toNat : Int))) = _
 rw [ofInt_nat, BitVec.ofInt_natCast, wrapB16]
theorem bor16 (x y : BitVec 16) : abin .or (.int .u16 (x.toNat : Int)) (.int .u16 (y.toNat : Int)) = some (.int .u16 ((x ||| y).toNat : Int)) := by
 show some (Value.int .u16 (IntKind.u16.wrap ((BitVec.ofInt 16 (x.toNat : Int) ||| BitVec.ofInt 16 (y.toNat : Int)).toNat : Int))) = _
 rw [ofInt_nat, ofInt_nat, wrapB16]
theorem bor16c (x : BitVec 16) (c : Nat) : abin .or (.int .u16 (x.toNat : Int)) (.int .u16 (no_index (@OfNat.ofNat Int c instOfNat))) = some (.int .u16 ((x ||| BitVec.ofNat 16 c).toNat : Int)) := by
 show some (Value.int .u16 (IntKind.u16.wrap ((BitVec.ofInt 16 (x.toNat : Int) ||| BitVec.ofInt 16 ((c : Nat) : Int)).toNat : Int))) = _
 rw [ofInt_nat, BitVec.ofInt_natCast, wrapB16]
theorem bxor16 (x y : BitVec 16) : abin .xor (.int .u16 (x.toNat : Int)) (.int .u16 (y.toNat : Int)) = some (.int .u16 ((x ^^^ y).toNat : Int)) := by
 show some (Value.int .u16 (IntKind.u16.wrap ((BitVec.ofInt 16 (x.toNat : Int) ^^^ BitVec.ofInt 16 (y.toNat : Int)).toNat : Int))) = _
 rw [ofInt_nat, ofInt_nat, wrapB16]
theorem bxor16c (x : BitVec 16) (c : Nat) : abin .xor (.int .u16 (x.toNat : Int)) (.int .u16 (no_index (@OfNat.ofNat Int c instOfNat))) = some (.int .u16 ((x ^^^ BitVec.ofNat 16 c).toNat : Int)) := by
 show some (Value.int .u16 (IntKind.u16.wrap ((BitVec.ofInt 16 (x.toNat : Int) ^^^ BitVec.ofInt 16 ((c : Nat) : Int)).toNat : Int))) = _
 rw [ofInt_nat, BitVec.ofInt_natCast, wrapB16]
theorem bandNot16 (x y : BitVec 16) : abin .andNot (.int .u16 (x.toNat : Int)) (.int .u16 (y.toNat : Int)) = some (.int .u16 ((x &&& ~~~y).toNat : Int)) := by
 show some (Value.int .u16 (IntKind.u16.wrap ((BitVec.ofInt 16 (x.toNat : Int) &&& ~~~ BitVec.ofInt 16 (y.toNat : Int)).toNat : Int))) = _
 rw [ofInt_nat, ofInt_nat, wrapB16]
theorem band32 (x y : BitVec 32) : abin .and (.int .u32 (x.toNat : Int)) (.int .u32 (y.toNat : Int)) = some (.int .u32 ((x &&& y).toNat : Int)) := by
 show some (Value.int .u32 (IntKind.u32.wrap ((BitVec.ofInt 32 (x.toNat : Int) &&& BitVec.ofInt 32 (y.toNat : Int)).toNat : Int))) = _
 rw [ofInt_nat, ofInt_nat, wrapB32]
theorem band32c (x : BitVec 32) (c : Nat) : abin .and (.int .u32 (x.toNat : Int)) (.int .u32 (no_index (@OfNat.ofNat Int c instOfNat))) = some (.int .u32 ((x &&& BitVec.ofNat 32 c).toNat : Int)) := by
 show some (Value.int .u32 (IntKind.u32.wrap ((BitVec.ofInt 32 (x.toNat : Int) &&& BitVec.ofInt 32 ((c : Nat) : Int)).toNat : Int))) = _
 rw [ofInt_nat, BitVec.ofInt_natCast, wrapB32]
theorem bor32 (x y : BitVec 32) : abin .or (.int .u32 (x.toNat : Int)) (.int .u32 (y.toNat : Int)) = some (.int .u32 ((x ||| y).toNat : Int)) := by
 show some (Value.int .u32 (IntKind.u32.wrap ((BitVec.ofInt 32 (x.toNat : Int) ||| BitVec.ofInt 32 (y.toNat : Int)).toNat : Int))) = _
 rw [ofInt_nat, ofInt_nat, wrapB32]
theorem bor32c (x : BitVec 32) (c : Nat) : abin .or (.int .u32 (x.toNat : Int)) (.int .u32 (no_index (@OfNat.ofNat Int c instOfNat))) = some (.int .u32 ((x ||| BitVec.ofNat 32 c).toNat : Int)) := by
 show some (Value.int .u32 (IntKind.u32.wrap ((BitVec.ofInt 32 (x.toNat : Int) ||| BitVec.ofInt 32 ((c : Nat) : Int)).toNat : Int))) = _
 rw [ofInt_nat, BitVec.ofInt_natCast, wrapB32]
theorem bxor32 (x y : BitVec 32) : abin .xor (.int .u32 (x.toNat : Int)) (.int .u32 (y.toNat : Int)) = some (.int .u32 ((x ^^^ y).toNat : Int)) := by
 show some (Value.int .u32 (IntKind.u32.wrap ((BitVec.ofInt 32 (x.toNat : Int) ^^^ BitVec.ofInt 32 (y.toNat : Int)).toNat : Int))) = _
 rw [ofInt_nat, ofInt_nat, wrapB32]
theorem bxor32c (x : BitVec 32) (c : Nat) : abin .xor (.int .u32 (x.toNat : Int)) (.int .u32 (no_index (@OfNat.ofNat Int c instOfNat))) = some (.int .u32 ((x ^^^ BitVec.ofNat 32 c).toNat : Int)) := by
 show some (Value.int .u32 (IntKind.u32.wrap ((BitVec.ofInt 32 (x.toNat : Int) ^^^ BitVec.ofInt 32 ((c : Nat) : Int)).toNat : Int))) = _
 rw [ofInt_nat, BitVec.ofInt_natCast, wrapB32]
theorem bandNot32 (x y : BitVec 32) : abin .andNot (.int .u32 (x.toNat : Int)) (.int .u32 (y.toNat : Int)) = some (.int .u32 ((x &&& ~~~y).toNat : Int)) := by
 show some (Value.int .u32 (IntKind.u32.wrap ((BitVec.ofInt 32 (x.toNat : Int) &&& ~~~ BitVec.ofInt 32 (y.toNat : Int)).toNat : Int))) = _
 rw [ofInt_nat, ofInt_nat, wrapB32]
theorem band64 (x y : BitVec 64) : abin .and (.int .u64 (x.toNat : Int)) (.int .u64 (y.toNat : Int)) = some (.int .u64 ((x &&& y).toNat : Int)) := by
 show some (Value.int .u64 (IntKind.u64.wrap ((BitVec.ofInt 64 (x.toNat : Int) &&& BitVec.ofInt 64 (y.toNat : Int)).toNat : Int))) = _
 rw [ofInt_nat, ofInt_nat, wrapB64]
theorem band64c (x : BitVec 64) (c : Nat) : abin .and (.int .u64 (x.toNat : Int)) (.int .u64 (no_index (@OfNat.ofNat Int c instOfNat))) = some (.int .u64 ((x &&& BitVec.ofNat 64 c).toNat : Int)) := by
 show some (Value.int .u64 (IntKind.u64.wrap ((BitVec.ofInt 64 (x.toNat : Int) &&& BitVec.ofInt 64 ((c : Nat) : Int)).toNat : Int))) = _
 rw [ofInt_nat, BitVec.ofInt_natCast, wrapB64]
theorem bor64 (x y : BitVec 64) : abin .or (.int .u64 (x.toNat : Int)) (.int .u64 (y.toNat : Int)) = some (.int .u64 ((x ||| y).toNat : Int)) := by
 show some (Value.int .u64 (IntKind.u64.wrap ((BitVec.ofInt 64 (x.toNat : Int) ||| BitVec.ofInt 64 (y.toNat : Int)).toNat : Int))) = _
 rw [ofInt_nat, ofInt_nat, wrapB64]
theorem bor64c (x : BitVec 64) (c : Nat) : abin .or (.int .u64 (x.toNat : Int)) (.int .u64 (no_index (@OfNat.ofNat Int c instOfNat))) = some (.int .u64 ((x ||| BitVec.ofNat 64 c).toNat : Int)) := by
 show some (Value.int .u64 (IntKind.u64.wrap ((BitVec.ofInt 64 (x.toNat : Int) ||| BitVec.ofInt 64 ((c : Nat) : Int)).toNat : Int))) = _
 rw [ofInt_nat, BitVec.ofInt_natCast, wrapB64]
theorem bxor64 (x y : BitVec 64) : abin .xor (.int .u64 (x.toNat : Int)) (.int .u64 (y.toNat : Int)) = some (.int .u64 ((x ^^^ y).toNat : Int)) := by
 show some (Value.int .u64 (IntKind.u64.wrap ((BitVec.ofInt 64 (x.toNat : Int) ^^^ BitVec.ofInt 64 (y.toNat : Int)).toNat : Int))) = _
 rw [ofInt_nat, ofInt_nat, wrapB64]
theorem bxor64c (x : BitVec 64) (c : Nat) : abin .xor (.int .u64 (x.toNat : Int)) (.int .u64 (no_index (@OfNat.ofNat Int c instOfNat))) = some (.int .u64 ((x ^^^ BitVec.ofNat 64 c).toNat : Int)) := by
 show some (Value.int .u64 (IntKind.u64.wrap ((BitVec.ofInt 64 (x.toNat : Int) ^^^ BitVec.ofInt 64 ((c : Nat) : Int)).toNat : Int))) = _
 rw [ofInt_nat, BitVec.ofInt_natCast, wrapB64]
theorem bandNot64 (x y : BitVec 64) : abin .andNot (.int .u64 (x.toNat : Int)) (.int .u64 (y.toNat : Int)) = some (.int .u64 ((x &&& ~~~y).toNat : Int)) := by
 show some (Value.int .u64 (IntKind.u64.wrap ((BitVec.ofInt 64 (x.toNat : Int) &&& ~~~ BitVec.ofInt 64 (y.toNat : Int)).toNat : Int))) = _
 rw [ofInt_nat, ofInt_nat, wrapB64]
def copyF (sz : Nat) (d s : IV) (J : JH) : Option (IV × JH) := icopy sz d s J
theorem iexec_copy {B : IBook} {C : ICall} {md : Md} {ρ : List IV} {sz : Nat} {d s : Operand} {J : JH} : iexec B C md ρ (.copy sz d s) J = copyF sz (evI ρ d) (evI ρ s) J := rfl
theorem push_set {α : Type} (J : Array α) (X Y : α) : (J.push X).setIfInBounds J.size Y = J.push Y := by
 rcases J with ⟨l⟩
 simp
theorem push_get {α : Type} (J : Array α) (X : α) : (J.push X)[J.size]? = some X := by simp
theorem set_get {α : Type} (J : Array α) {b : Nat} {X : α} (h : b < J.size) : (J.setIfInBounds b X)[b]? = some X := by simp [h]
theorem set_set {α : Type} (J : Array α) {b : Nat} {X Y : α} : (J.setIfInBounds b X).setIfInBounds b Y = J.setIfInBounds b Y := by
 rcases J with ⟨l⟩
 simp
theorem pcK (n : Nat) {f : FuncId} {args : List IV} {u : IV} (h : (match icall BI n f args #[] with | some (v, J) => frz J DEP v | none => none) = some u) : pc BI f args = some u := by
 split at h
 ·rename_i v J hc
  exact pcN n hc h
 ·simp at h
theorem s11 (n : Nat) : n + 1 + 1 = n + 2 := rfl
theorem s12 (n : Nat) : n + 1 + 2 = n + 3 := rfl
theorem s13 (n : Nat) : n + 1 + 3 = n + 4 := rfl
theorem s22 (n : Nat) : n + 2 + 2 = n + 4 := rfl
theorem s23 (n : Nat) : n + 2 + 3 = n + 5 := rfl
theorem s21 (n : Nat) : n + 2 + 1 = n + 3 := rfl
theorem s31 (n : Nat) : n + 3 + 1 = n + 4 := rfl
theorem s41 (n : Nat) : n + 4 + 1 = n + 5 := rfl
theorem s51 (n : Nat) : n + 5 + 1 = n + 6 := rfl
theorem ite_max {a b : Int} : (if b > a then b else a) = max a b := by split <;> omega
theorem ite_min {a b : Int} : (if b < a then b else a) = min a b := by split <;> omega
attribute [go_sem] push_set push_get Array.size_push Array.size_setIfInBounds set_set
attribute [go_sem] s11 s12 s13 s22 s23 s21 s31 s41 s51 Nat.left_eq_add Nat.add_eq_left List.contains_cons
attribute [go_sem ↓] iexec_copy notB32 band8 band8c bor8 bor8c bxor8 bxor8c bandNot8 band16 band16c bor16 bor16c bxor16 bxor16c bandNot16 band32 band32c bor32 bor32c bxor32 bxor32c bandNot32 band64 band64c bor64 bor64c bxor64 bxor64c bandNot64
attribute [go_sem] lt_UNK not_UNK_le UNK_pos one_lt_UNK Nat.min_eq_left Nat.min_eq_right convB8 convB16 convB32 convB64 i64B8 i64B16 i64B32 fdivB addB32 mulB32 addB32c mulB32c shlB32 shlB64 shl1B32 shl1B64 BitVec.setWidth_eq ite_max ite_min ofInt_nat wrapB8 wrapB16 wrapB32 wrapB64 beqB bneB beqB0 bneB0
theorem Fr.mark (J : JH) (l S : List Nat) (h : ∀ d ∈ l, d ∈ S) : Fr J (markA J l) S := ⟨by rw [markA_size]; exact Nat.le_refl _, fun d _ hn => by rw [markA_get, if_neg fun hm => hn (h d hm)]⟩
theorem Grow.shows {J : JH} {s : IV} {sz : Nat} {cs : List IV} (h : Grow J s sz cs) (hp : ipureL cs = true) : ∀ d ∈ Go.Proofs.Ytdclinhgekbejaa.G.shows J DEP s, d ∈ blk s := by
 rcases h with ⟨rfl, rfl⟩ | ⟨b, v, n, full, rfl, h1, h2, h3, h4⟩
 ·intro d hd
  rw [shows_pure J DEP rfl] at hd
  cases hd
 ·intro d hd
  rw [frz12, shows_sl (cs := cs) (by simp [ird, h1, h2, h3]) hp] at hd
  exact hd
theorem Grow.fr0 {J J' : JH} {x : IV} {sz : Nat} {cs : List IV} (h : Grow J x sz cs) (hf : Fr J J' []) : Grow J' x sz cs := h.fr hf (by simp)
theorem frz_tupL {J : JH} {k : Nat} {l us : List IV} (h : l.mapM (frz J k) = some us) : frz J (k + 1) (.tup l) = some (.tup us) := by
 by_cases hp : ipureL l = true
 ·rw [frzL_pure J k hp] at h
  cases h
  exact frz_pure J _ (by simp only [ipure, hp])
 ·rw [frz_tup (by simpa using hp), h]; rfl
theorem grp_flat {sz : Nat} : ∀ {X : List (List IV)}, (∀ x ∈ X, x.length = sz) → grp sz X.length X.flatten = X.map (mkE sz)
 | [], _ => rfl
 | x :: X, h => by
  have hx := h x (by simp)
  rw [List.length_cons, grp, List.flatten_cons, List.take_append_of_le_length (by omega), List.take_of_length_le (by omega), List.drop_append_of_le_length (by omega), List.drop_of_length_le (by omega), List.nil_append, grp_flat fun y hy => h y (by simp [hy])]
  rfl
def sliceF (sz : Nat) (x : IV) (lo hi mx : Option IV) (J : JH) : Option (IV × JH) := ilift (islice sz x lo hi mx) J
theorem iexec_slice {B : IBook} {C : ICall} {md : Md} {ρ : List IV} {sz : Nat} {x : Operand} {lo hi mx : Option Operand} {J : JH} : iexec B C md ρ (.slice sz x lo hi mx) J = sliceF sz (evI ρ x) (lo.map (evI ρ)) (hi.map (evI ρ)) (mx.map (evI ρ)) J := rfl
theorem sliceF_sl {sz b v o n c z : Nat} {lo hi mx : Option IV} {J : JH} : sliceF sz (.sl b v o n c z) lo hi mx J = ilift (islice sz (.sl b v o n c z) lo hi mx) J := rfl
attribute [go_sem ↓] iexec_slice
attribute [go_sem] sliceF_sl
theorem Ls.slice {sz : Nat} {x : IV} {xs : List IV} (hx : Ls sz x xs) {h : Nat} (hh : h ≤ xs.length) : ∃ y, (∀ J, sliceF sz x none (some (nI h)) none J = some (y, J)) ∧ Ls sz y (xs.take h) := by
 rcases hx with ⟨rfl, rfl⟩ | ⟨f, rfl⟩
 ·obtain rfl : h = 0 := by simpa using hh
  exact ⟨_, fun J => rfl, .nil⟩
 ·refine ⟨_, fun J => ?_, .lst (f := (f && h == xs.length))⟩
  simp only [sliceF, islice, Option.isSome_none, Option.isNone_some, Bool.and_false, bne_self_eq_false, Bool.or_false, Bool.false_eq_true, if_false, ibnd, iasNat, asNat, Int.natCast_nonneg, if_true, Int.toNat_natCast, Nat.zero_le, hh, Nat.le_refl, true_and, List.drop_zero, Nat.sub_zero, Bool.false_and, Bool.false_or, Option.isNone_none, Bool.and_true, false_implies, and_self, ilift]
theorem mkE_flat {sz : Nat} {X : List (List IV)} (hX : ∀ x ∈ X, x.length = sz) (ho : X.flatten.all ione = true) : (X.map (mkE sz)).flatMap icells = X.flatten := by
 induction X with
 | nil => rfl
 | cons x X ih =>
  simp only [List.flatten_cons, List.all_append, Bool.and_eq_true] at ho
  simp only [List.map_cons, List.flatMap_cons, List.flatten_cons]
  rw [ih (fun y hy => hX y (by simp [hy])) ho.2]
  congr 1
  have hl := hX x (by simp)
  unfold mkE
  by_cases h1 : sz = 1
  ·rw [if_pos h1]
   subst h1
   obtain ⟨v, rfl⟩ := List.length_eq_one_iff.1 hl
   have : ione v = true := by simpa using ho.1
   cases v <;> simp_all [icells, ione]
  ·rw [if_neg h1]; rfl
def Clip (J J' : JH) (s : IV) (sz : Nat) (X : List (List IV)) : Prop := (X = [] ∧ s = .lst sz true [] ∧ J' = J) ∨ (X ≠ [] ∧ s = .sl J.size 0 0 X.length (UNK + sz) sz ∧ J' = J.push (.cells 0 X.flatten false))
theorem app_clip {sz by' : Nat} {y : IV} {X : List (List IV)} {J : JH} (hy : Ls sz y (X.map (mkE sz))) (hsz : 0 < sz) (hX : ∀ x ∈ X, x.length = sz) (ho : X.flatten.all ione = true) (hf : fits X.length by' = true) :
  RP (appF sz by' (.lst sz true []) y J) fun s J' => Clip J J' s sz X := by
 have hc := hy.cells J
 rw [mkE_flat hX ho] at hc
 have hl := hy.ilen
 rw [List.length_map] at hl
 simp only [appF, if_pos hsz, iappend, hc, hl]
 by_cases h0 : X.length = 0
 ·rw [if_pos h0]
  exact .inl ⟨List.eq_nil_of_length_eq_zero h0, rfl, rfl⟩
 ·rw [if_neg h0]
  simp only [List.length_nil, Nat.zero_add, beq_self_eq_true, Bool.true_and, hf, ho, Bool.and_self, if_true, List.flatMap_nil, List.nil_append, RP]
  exact .inr ⟨fun e => h0 (by rw [e]; rfl), rfl, rfl⟩
theorem Clip.frz {J J' : JH} {s : IV} {sz : Nat} {X : List (List IV)} (h : Clip J J' s sz X) (hsz : 0 < sz) (hX : ∀ x ∈ X, x.length = sz) (hp : ipureL X.flatten = true) (ho : X.flatten.all ione = true) : ∃ u, (∀ k, frz J' (k + 1) s = some u) ∧ Ls sz u (X.map (mkE sz)) := by
 rcases h with ⟨rfl, rfl, rfl⟩ | ⟨hne, rfl, rfl⟩
 ·exact ⟨_, fun k => frz_pure _ _ rfl, .lst⟩
 ·refine ⟨.lst sz (X.length == UNK + sz && decide (UNK + sz < UNK)) (X.map (mkE sz)), fun k => ?_, .lst⟩
  rw [frz_sl (cs := X.flatten) hsz ?_ hp ho, grp_flat hX]
  simp only [ird, push_get, true_and, Nat.zero_add, List.drop_zero]
  rw [if_pos (by rw [flat_len hX]; exact Nat.le_refl _), List.take_of_length_le (by rw [flat_len hX]; exact Nat.le_refl _)]
theorem Clip.fr {J J' : JH} {s : IV} {sz : Nat} {X : List (List IV)} (h : Clip J J' s sz X) : Fr J J' [] := by
 rcases h with ⟨_, _, rfl⟩ | ⟨_, _, rfl⟩
 ·exact .refl _ _
 ·exact .push _ _ _
theorem Clip.lenF {J J' : JH} {s : IV} {sz : Nat} {X : List (List IV)} (h : Clip J J' s sz X) (J2 : JH) : Go.Proofs.Ytdclinhgekbejaa.G.lenF false s J2 = some (nI X.length, J2) := by
 rcases h with ⟨rfl, rfl, _⟩ | ⟨_, rfl, _⟩ <;> rfl
attribute [go_sem] Nat.add_lt_add_iff_left Nat.add_left_cancel_iff Nat.lt_add_right_iff_pos Array.getElem?_push Array.getElem?_setIfInBounds
theorem gpN {J : JH} {d : Nat} {X : IB} {r : Option IB} (h : d < J.size) (k : J[d]? = r) : (J.push X)[d]? = r := by rw [Array.getElem?_push, if_neg (by omega)]; exact k
theorem gpE {J : JH} {d : Nat} {X : IB} (h : d = J.size) : (J.push X)[d]? = some X := by subst h; exact push_get J X
def RawX (J : JH) (s : IV) (sz : Nat) (X : List (List IV)) : Prop := ∃ b v c, s = .sl b v 0 X.length c sz ∧ J[b]? = some (.cells v X.flatten false)
theorem RawX.fr {J J' : JH} {s : IV} {sz : Nat} {X : List (List IV)} {S : List Nat} (h : RawX J s sz X) (hf : Fr J J' S) (hs : ∀ d ∈ blk s, d ∉ S) : RawX J' s sz X := by
 obtain ⟨b, v, c, rfl, hb⟩ := h
 exact ⟨b, v, c, rfl, by rw [hf.2 b (lt_get hb) (hs b (by simp [blk, blkOf]))]; exact hb⟩
theorem RawX.low {J : JH} {s : IV} {sz : Nat} {X : List (List IV)} (h : RawX J s sz X) : ∀ d ∈ blk s, d < J.size := by
 obtain ⟨b, v, c, rfl, hb⟩ := h
 intro d hd; simp [blk, blkOf] at hd; subst hd; exact lt_get hb
theorem RawX.lenF {J : JH} {s : IV} {sz : Nat} {X : List (List IV)} (h : RawX J s sz X) (J2 : JH) : Go.Proofs.Ytdclinhgekbejaa.G.lenF false s J2 = some (nI X.length, J2) := by
 obtain ⟨b, v, c, rfl, hb⟩ := h; rfl
theorem RawX.rd {J : JH} {b v c sz : Nat} {X : List (List IV)} (hb : J[b]? = some (.cells v X.flatten false)) (hX : ∀ x ∈ X, x.length = sz) : ird J b v 0 (X.length * sz) = some X.flatten := by
 have hl := flat_len hX
 simp only [ird, hb, true_and, Nat.zero_add, List.drop_zero]
 rw [if_pos (by omega), List.take_of_length_le (by omega)]
theorem RawX.frz {J : JH} {s : IV} {sz : Nat} {X : List (List IV)} (h : RawX J s sz X) (hsz : 0 < sz) (hX : ∀ x ∈ X, x.length = sz) (hp : ipureL X.flatten = true) (ho : X.flatten.all ione = true) : ∃ u, (∀ k, Go.Proofs.Ytdclinhgekbejaa.G.frz J (k + 1) s = some u) ∧ Ls sz u (X.map (mkE sz)) := by
 obtain ⟨b, v, c, rfl, hb⟩ := h
 refine ⟨_, fun k => frz_sl hsz (RawX.rd (c := c) hb hX) hp ho, ?_⟩
 rw [grp_flat hX]; exact .lst
theorem RawX.shows {J : JH} {s : IV} {sz : Nat} {X : List (List IV)} (h : RawX J s sz X) (hX : ∀ x ∈ X, x.length = sz) (hp : ipureL X.flatten = true) : ∀ d ∈ Go.Proofs.Ytdclinhgekbejaa.G.shows J DEP s, d ∈ blk s := by
 obtain ⟨b, v, c, rfl, hb⟩ := h
 intro d hd
 rw [frz12, shows_sl (RawX.rd (c := c) hb hX) hp] at hd
 exact hd
inductive FA (J : JH) (S : List Nat) : List IV → List IV → Prop where
 | nil : FA J S [] []
 | pure {v : IV} {vs us : List IV} : ipure v = true → FA J S vs us → FA J S (v :: vs) (v :: us)
 | raw {v u : IV} {vs us : List IV} : frz J DEP v = some u → (∀ d ∈ shows J DEP v, d ∈ S) → FA J S vs us → FA J S (v :: vs) (u :: us)
theorem FA.mapM {J : JH} {S : List Nat} {vs us : List IV} (h : FA J S vs us) : vs.mapM (frz J DEP) = some us := by
 induction h with
 | nil => rfl
 | pure hv _ ih => rw [List.mapM_cons, frz_pure J _ hv, ih]; rfl
 | raw hv _ _ ih => rw [List.mapM_cons, hv, ih]; rfl
theorem FA.shown {J : JH} {S : List Nat} {vs us : List IV} (h : FA J S vs us) : ∀ d ∈ vs.flatMap (shows J DEP), d ∈ S := by
 induction h with
 | nil => simp
 | pure hv _ ih => rw [List.flatMap_cons, shows_pure J _ hv]; exact ih
 | raw _ hs _ ih =>
  intro d hd
  rw [List.flatMap_cons] at hd
  rcases List.mem_append.1 hd with hd | hd
  ·exact hs d hd
  ·exact ih d hd
def KeepC (J J' : JH) : Prop := ∀ (d w : Nat) (cs : List IV) (f : Bool), J[d]? = some (IB.cells w cs f) → ∃ f', J'[d]? = some (IB.cells w cs f')
theorem KeepC.refl (J : JH) : KeepC J J := fun d w cs f h => ⟨f, h⟩
theorem KeepC.mark (J : JH) (l : List Nat) : KeepC J (markA J l) := fun d w cs f h => by
 rw [markA_get]
 by_cases hm : d ∈ l
 ·rw [if_pos hm, h]; exact ⟨true, rfl⟩
 ·rw [if_neg hm, h]; exact ⟨f, rfl⟩
theorem KeepC.rd {J J' : JH} (h : KeepC J J') {b v off n : Nat} {cs : List IV} (hr : ird J b v off n = some cs) : ird J' b v off n = some cs := by
 unfold ird at hr ⊢
 cases hb : J[b]? with
 | none => rw [hb] at hr; simp at hr
 | some X =>
  rw [hb] at hr
  cases X with
  | cells w c f =>
   obtain ⟨f', hf⟩ := h b w c f hb
   rw [hf]; exact hr
  | map _ _ => simp at hr
theorem KeepC.cells {J J' : JH} (h : KeepC J J') {sz : Nat} {x : IV} {cs : List IV} (hr : iscells J sz x = some cs) : iscells J' sz x = some cs := by
 unfold iscells at hr ⊢
 split at hr
 ·exact hr
 ·exact h.rd hr
 ·exact hr
 ·cases hr
theorem WP_callK {f : FuncId} {args as : List IV} {u : IV} {J : JH} {k : L} {ρ : List IV} {P} {S : List Nat} (ha : FA J S args as) (hp : pc BI f as = some u) (hk : ∀ J', Fr J J' S → J'.size = J.size → KeepC J J' → WP (dn BI k (ρ ++ [u]) J') P) : WP (thenD (doCall (ic BI) .pure f args J) k ρ) P := by
 rw [dcf ha.mapM hp]
 by_cases h : iscal u = true
 ·rw [if_pos h]; exact hk J (.refl _ _) rfl (.refl _)
 ·rw [if_neg h]; exact hk _ (.mark _ _ _ ha.shown) (markA_size _ _) (.mark _ _)
def ones (κ : IntKind) (l : List Int) : List (List IV) := l.map fun v => [IV.int κ v]
theorem ones_len (κ l) : (ones κ l).length = l.length := by simp [ones]
theorem ones_1 (κ l) : ∀ x ∈ ones κ l, x.length = 1 := by
 intro x hx; obtain ⟨v, _, rfl⟩ := List.mem_map.1 hx; rfl
theorem ones_flat (κ l) : (ones κ l).flatten = l.map (IV.int κ) := by
 induction l with
 | nil => rfl
 | cons a l ih => simp only [ones, List.map_cons, List.flatten_cons] at ih ⊢; rw [ih]; rfl
theorem ones_mk (κ l) : (ones κ l).map (mkE 1) = l.map (IV.int κ) := by rw [ones, List.map_map]; rfl
theorem set_own {α : Type} {J : Array α} {b : Nat} {X : α} (h : J[b]? = some X) : J.setIfInBounds b X = J := by
 apply Array.ext_getElem?
 intro i
 rw [Array.getElem?_setIfInBounds]
 split
 ·rename_i e; subst e
  rw [if_pos (lt_get h), h]
 ·rfl
def uI (t : Int) : IV := .int .i32 t
def uL (X : List Int) : List IV := X.map uI
theorem uL_len (X : List Int) : (uL X).length = X.length := by simp [uL]
theorem uL_one (X : List Int) : (uL X).all ione = true := by simp [uL, uI, ione, one]
theorem uL_at (X : List Int) {j : Nat} (h : j < X.length) : ((uL X).drop j).take 1 = [uI X[j]] := by
 rw [List.drop_eq_getElem_cons (by rw [uL_len]; exact h)]
 simp [uL]
theorem uL_set (X : List Int) (j : Nat) (v : Int) (h : j < X.length) : isplice (uL X) j [uI v] = uL (X.set j v) := by
 rw [isplice_set (by rw [uL_len]; exact h), uL, uL, List.map_set]
structure InsI (X0 X : List Int) (i j : Nat) : Prop where
 perm : X.Perm X0
 cut : ∃ A x B C, X = A ++ x :: (B ++ C) ∧ A.length = j ∧ j + B.length = i ∧ (A ++ B).Pairwise (· ≤ ·) ∧ ∀ y ∈ B, x ≤ y
theorem InsI.start {X0 X : List Int} {i : Nat} (hp : X.Perm X0) (hi : i < X.length) (hs : (X.take i).Pairwise (· ≤ ·)) : InsI X0 X i i := by
 refine ⟨hp, X.take i, X[i], [], X.drop (i + 1), ?_, by simp; omega, by simp, by simpa using hs, by simp⟩
 rw [List.nil_append, ← List.drop_eq_getElem_cons hi, List.take_append_drop]
theorem InsI.lt {X0 X : List Int} {i j : Nat} (h : InsI X0 X i j) : j < X.length := by
 obtain ⟨A, x, B, C, rfl, rfl, _⟩ := h.cut
 simp
theorem InsI.step {X0 X : List Int} {i j : Nat} (h : InsI X0 X i j) (h0 : 0 < j) (a x : Int) (ha : X[j - 1]? = some a) (hx : X[j]? = some x) (hlt : x < a) : InsI X0 ((X.set j a).set (j - 1) x) i (j - 1) := by
 obtain ⟨A, x', B, C, hX, hA, hj, hs, hb⟩ := h.cut
 have hp := h.perm
 subst hX
 rcases List.eq_nil_or_concat A with rfl | ⟨A', z, rfl⟩
 ·simp at hA; omega
 ·rw [List.concat_eq_append] at *
  subst hA
  obtain rfl : x' = x := by simpa using hx
  obtain rfl : z = a := by simpa using ha
  have e : (((A' ++ [z] ++ x' :: (B ++ C)).set (A' ++ [z]).length z).set ((A' ++ [z]).length - 1) x') = A' ++ x' :: (z :: B ++ C) := by
   rw [List.set_append_right _ _ (Nat.le_refl _)]
   simp
  rw [e]
  refine ⟨?_, A', x', z :: B, C, rfl, by simp, by simp at hj ⊢; omega, by simpa using hs, ?_⟩
  ·refine List.Perm.trans ?_ hp
   simp only [List.append_assoc, List.cons_append, List.nil_append]
   exact List.Perm.append_left A' (List.Perm.swap _ _ _)
  ·intro y hy
   rcases List.mem_cons.1 hy with rfl | hy
   ·omega
   ·exact hb y hy
theorem InsI.len {X0 X : List Int} {i j : Nat} (h : InsI X0 X i j) : X.length = X0.length := h.perm.length_eq
theorem uLess_ok (a b : Int) : pc BI F_cmp_Less_int32 [uI a, uI b] = some (.sc (.bool (decide (a < b)))) := by
 have hn : ∀ x : Int, pc BI F_cmp_isNaN_int32 [uI x] = some (.bool false) := fun x => by
  refine pcE fn_cmp_isNaN_int32 rfl fun K hK => ?_
  unfold l_cmp_isNaN_int32 uI
  simp -implicitDefEqProofs only [go_sem, go_sem_proc, show (x != x) = false by simp]
  exact hK _ _ (frzP rfl)
 refine pcE fn_cmp_Less_int32 rfl fun K hK => ?_
 unfold l_cmp_Less_int32
 simp -implicitDefEqProofs only [go_sem, go_sem_proc, dcp (hn a) rfl]
 unfold uI
 simp -implicitDefEqProofs only [go_sem, go_sem_proc]
 exact hK _ _ (frzP rfl)
def sortI (l : List Int) : List Int := l.mergeSort fun a b => decide (a ≤ b)
theorem sortI_eq {Y X : List Int} (hp : Y.Perm X) (hs : Y.Pairwise (· ≤ ·)) : Y = sortI X := by
 refine List.Perm.eq_of_pairwise (le := (· ≤ ·)) (fun a b _ _ h1 h2 => by omega) hs ?_ (hp.trans (List.mergeSort_perm X _).symm)
 have := List.pairwise_mergeSort (le := fun a b : Int => decide (a ≤ b)) (fun a b c h1 h2 => by simp at *; omega) (fun a b => by simp; omega) X
 simpa [sortI] using this
structure Same (X Y : List Int) (a n : Nat) : Prop where
 perm : Y.Perm X
 out : ∀ k, k < a ∨ n ≤ k → Y[k]? = X[k]?
theorem Same.len {X Y : List Int} {a n : Nat} (h : Same X Y a n) : Y.length = X.length := h.perm.length_eq
theorem Same.refl (X : List Int) (a n : Nat) : Same X X a n := ⟨.refl _, fun _ _ => rfl⟩
theorem Same.trans {X Y Z : List Int} {a n : Nat} (h : Same X Y a n) (h2 : Same Y Z a n) : Same X Z a n := ⟨h2.perm.trans h.perm, fun k hk => (h2.out k hk).trans (h.out k hk)⟩
theorem Same.mono {X Y : List Int} {a n a' n' : Nat} (h : Same X Y a n) (h1 : a' ≤ a) (h2 : n ≤ n') : Same X Y a' n' := ⟨h.perm, fun k hk => h.out k (by omega)⟩
theorem Same.swap {X : List Int} {a n i j : Nat} (hn : n ≤ X.length) (hi : a ≤ i ∧ i < n) (hj : a ≤ j ∧ j < n) : Same X ((X.set i (X[j]'(by omega))).set j (X[i]'(by omega))) a n := by
 refine ⟨List.set_set_perm (by omega) (by omega), fun k hk => ?_⟩
 rw [List.getElem?_set_ne (by omega), List.getElem?_set_ne (by omega)]
theorem Same.all {X Y : List Int} {a n : Nat} (h : Same X Y a n) (p : Int → Prop) (hX : ∀ k v, a ≤ k → k < n → X[k]? = some v → p v) : ∀ k v, a ≤ k → k < n → Y[k]? = some v → p v := by
 have cut : ∀ Z : List Int, Z = Z.take a ++ ((Z.drop a).take (n - a) ++ (Z.drop a).drop (n - a)) := fun Z => by rw [List.take_append_drop, List.take_append_drop]
 have h1 : Y.take a = X.take a := by
  apply List.ext_getElem?
  intro k
  rw [List.getElem?_take, List.getElem?_take]
  split
  ·exact h.out k (by omega)
  ·rfl
 have h2 : (Y.drop a).drop (n - a) = (X.drop a).drop (n - a) := by
  apply List.ext_getElem?
  intro k
  rw [List.getElem?_drop, List.getElem?_drop, List.getElem?_drop, List.getElem?_drop]
  by_cases hh : n ≤ a + (n - a + k)
  ·exact h.out _ (.inr hh)
  ·omega
 have hp := h.perm
 rw [cut Y, cut X, h1, h2, List.perm_append_left_iff, List.perm_append_right_iff] at hp
 intro k v hk hkn hv
 have hm : v ∈ (Y.drop a).take (n - a) := by
  refine List.mem_of_getElem? (i := k - a) ?_
  rw [List.getElem?_take, if_pos (by omega), List.getElem?_drop, show a + (k - a) = k by omega]
  exact hv
 obtain ⟨i, hi⟩ := List.getElem?_of_mem (hp.mem_iff.1 hm)
 rw [List.getElem?_take] at hi
 split at hi
 ·rw [List.getElem?_drop] at hi
  exact hX (a + i) v (by omega) (by omega) hi
 ·cases hi
def Rises (X : List Int) (a n : Nat) : Prop := ∀ i j u v, a ≤ i → i < j → j < n → X[i]? = some u → X[j]? = some v → u ≤ v
theorem Rises.pair {X : List Int} (h : Rises X 0 X.length) : X.Pairwise (· ≤ ·) := by
 rw [List.pairwise_iff_getElem]
 intro i j hi hj hij
 exact h i j _ _ (Nat.zero_le _) hij hj (List.getElem?_eq_getElem hi) (List.getElem?_eq_getElem hj)
theorem Rises.join {X : List Int} {a m n : Nat} {p : Int} (h1 : Rises X a m) (h2 : Rises X (m + 1) n) (hp : X[m]? = some p) (hl : ∀ k v, a ≤ k → k < m → X[k]? = some v → v ≤ p) (hr : ∀ k v, m < k → k < n → X[k]? = some v → p ≤ v) : Rises X a n := by
 intro i j u v hi hij hj hu hv
 by_cases c1 : j < m
 ·exact h1 i j u v hi hij c1 hu hv
 ·by_cases c2 : m < i
  ·exact h2 i j u v (by omega) hij hj hu hv
  ·have hup : u ≤ p := by
    by_cases c3 : i = m
    ·subst c3; rw [hp] at hu; cases hu; omega
    ·exact hl i u hi (by omega) hu
   have hpv : p ≤ v := by
    by_cases c3 : j = m
    ·subst c3; rw [hp] at hv; cases hv; omega
    ·exact hr j v (by omega) hj hv
   omega
theorem Rises.same {X Y : List Int} {a n a' n' : Nat} (h : Rises X a n) (hs : Same X Y a' n') (hd : n ≤ a' ∨ n' ≤ a) : Rises Y a n := by
 intro i j u v hi hij hj hu hv
 rw [hs.out i (by omega)] at hu
 rw [hs.out j (by omega)] at hv
 exact h i j u v hi hij hj hu hv
theorem rev_round (X : List Int) (b cap i j n : Nat) (hn : X.length = n) (hi : i < j) (hj : j < n) (hc : n ≤ 1000000) (J : JH) (hJ : J[b]? = some (.cells 0 (uL X) false)) (K : Out IV → JH → Prop)
  (hK : K (.goto 0 [.sl b 0 0 n cap 1, nI (i + 1), nI (j - 1)]) (J.setIfInBounds b (.cells 0 (uL ((X.set i (X[j]'(by omega))).set j (X[i]'(by omega)))) false))) :
  WP (dn BI l_slices_reverseRangeOrdered_int32_k0 [.sl b 0 0 n cap 1, nI i, nI j] J) K := by
 unfold l_slices_reverseRangeOrdered_int32_k0
 have hw1 : IntKind.i64.wrap ((i : Int) + 1) = ((i + 1 : Nat) : Int) := by rw [wrap_i64 (by omega) (by omega)]; omega
 have hw2 : IntKind.i64.wrap ((j : Int) - 1) = ((j - 1 : Nat) : Int) := by rw [wrap_i64 (by omega) (by omega)]; omega
 have e1 : ((uL X).drop j).take 1 = [uI X[j]] := uL_at X (by omega)
 have e2 : ((uL X).drop i).take 1 = [uI X[i]] := uL_at X (by omega)
 have l1 := uL_len X
 have hb := lt_get hJ
 generalize X[j] = x at *
 generalize X[i] = a at *
 have s1 := uL_set X i x (by omega)
 have s2 := uL_set (X.set i x) j a (by rw [List.length_set]; omega)
 have l2 := uL_len (X.set i x)
 rw [List.length_set] at l2
 have c1 : ((i : Int) < (j : Int)) := by omega
 have b0 : (b < J.size) = True := by simp [hb]
 have j1 : (0 + j * 1 = j) := by omega
 have j2 : (0 + i * 1 = i) := by omega
 have j3 : (i < n) = True := by simp; omega
 have j4 : (j < n) = True := by simp [hj]
 have u1 : ∀ t, icells (uI t) = [uI t] := fun t => rfl
 have u2 : ∀ t, ione (uI t) = true := fun t => rfl
 have o1 := uL_one X
 have o2 := uL_one (X.set i x)
 have r1 : j + 1 ≤ n := by omega
 have r2 : i + 1 ≤ n := by omega
 simp -implicitDefEqProofs only [go_sem, go_sem_proc, c1, hw1, hw2, j1, j2, j3, j4, hJ, l1, hn, r1, r2, e1, e2, ↓u1, ↓u2, s1, s2, l2, set_get _ hb, set_set, Array.size_setIfInBounds, b0]
 exact hK
theorem Rev_ok (X : List Int) (b cap a n : Nat) (ha : a < n) (hn : n ≤ X.length) (hc : X.length ≤ 1000000) (J : JH) (hJ : J[b]? = some (.cells 0 (uL X) false)) :
  RP (ic BI F_slices_reverseRangeOrdered_int32 [.sl b 0 0 X.length cap 1, nI a, nI n] J) fun v J' => v = .tup [] ∧ ∃ Y, Same X Y a n ∧ J' = J.setIfInBounds b (.cells 0 (uL Y) false) := by
 refine RP_run fn_slices_reverseRangeOrdered_int32 rfl fun K hK => ?_
 unfold l_slices_reverseRangeOrdered_int32
 have hw : IntKind.i64.wrap ((n : Int) - 1) = ((n - 1 : Nat) : Int) := by rw [wrap_i64 (by omega) (by omega)]; omega
 have hb := lt_get hJ
 simp -implicitDefEqProofs only [go_sem, go_sem_proc, hw, dn_loop]
 refine WP_iter (fun m vs J' => ∃ i j Y, m = j - i ∧ vs = [.sl b 0 0 X.length cap 1, nI i, nI j] ∧ a ≤ i ∧ j < n ∧ Same X Y a n ∧ J' = J.setIfInBounds b (.cells 0 (uL Y) false)) ?_ (n - 1 - a) _ _ ⟨a, n - 1, X, rfl, rfl, Nat.le_refl _, by omega, .refl _ _ _, (set_own hJ).symm⟩
 rintro m vs J1 ⟨i, j, Y, rfl, rfl, hi, hj, hS, rfl⟩ K1 g1 g2 g3
 have hl := hS.len
 by_cases hlt : i < j
 ·refine rev_round Y b cap i j X.length hl hlt (by omega) hc _ (set_get _ hb) K1 ?_
  rw [set_set]
  exact g1 _ (j - 1 - (i + 1)) _ (by omega) ⟨i + 1, j - 1, _, rfl, rfl, by omega, by omega, hS.trans (.swap (by omega) ⟨by omega, by omega⟩ ⟨by omega, by omega⟩), rfl⟩
 ·unfold l_slices_reverseRangeOrdered_int32_k0
  simp -implicitDefEqProofs only [go_sem, go_sem_proc, show ¬ ((i : Int) < (j : Int)) by omega]
  exact g3 _ _ (hK _ _ ⟨rfl, Y, hS, rfl⟩)
structure InsR (Y : List Int) (a i j : Nat) : Prop where
 rest : ∀ p q u v, a ≤ p → p < q → q ≤ i → p ≠ j → q ≠ j → Y[p]? = some u → Y[q]? = some v → u ≤ v
 low : ∀ q v x, j < q → q ≤ i → Y[q]? = some v → Y[j]? = some x → x ≤ v
theorem InsR.start {Y : List Int} {a i : Nat} (h : Rises Y a i) : InsR Y a i i :=
 ⟨fun p q u v h1 h2 h3 h4 h5 hu hv => h p q u v h1 h2 (by omega) hu hv, fun q v x h1 h2 => by omega⟩
theorem InsR.done {Y : List Int} {a i j : Nat} (h : InsR Y a i j) (hj : j ≤ i) (hd : ∀ y x, a < j → Y[j - 1]? = some y → Y[j]? = some x → y ≤ x) (hl : i < Y.length) : Rises Y a (i + 1) := by
 intro p q u v h1 h2 h3 hu hv
 by_cases c1 : p = j
 ·subst c1; exact h.low q v u h2 (by omega) hv hu
 ·by_cases c2 : q = j
  ·subst c2
   have hy : Y[q - 1]? = some (Y[q - 1]'(by omega)) := List.getElem?_eq_getElem (by omega)
   have h5 := hd _ v (by omega) hy hv
   by_cases c3 : p = q - 1
   ·subst c3; rw [hy] at hu; cases hu; exact h5
   ·have := h.rest p (q - 1) u _ h1 (by omega) (by omega) c1 (by omega) hu hy
    omega
  ·exact h.rest p q u v h1 h2 (by omega) c1 c2 hu hv
theorem InsR.step {Y : List Int} {a i j : Nat} {x y : Int} (h : InsR Y a i j) (hj : a < j) (hji : j ≤ i) (hl : i < Y.length) (hy : Y[j - 1]? = some y) (hx : Y[j]? = some x) (hlt : x < y) : InsR ((Y.set j y).set (j - 1) x) a i (j - 1) := by
 have g : ∀ k, ((Y.set j y).set (j - 1) x)[k]? = if k = j - 1 then some x else if k = j then some y else Y[k]? := by
  intro k
  rw [List.getElem?_set, List.getElem?_set, List.length_set]
  by_cases c1 : k = j - 1
  ·subst c1; simp; omega
  ·rw [if_neg (Ne.symm c1), if_neg c1]
   by_cases c2 : k = j
   ·subst c2; simp; omega
   ·rw [if_neg (Ne.symm c2), if_neg c2]
 constructor
 ·intro p q u v h1 h2 h3 h4 h5 hu hv
  rw [g, if_neg h4] at hu
  rw [g, if_neg h5] at hv
  split at hu
  ·rename_i e; subst e
   cases hu
   rw [if_neg (by omega)] at hv
   exact h.rest (p - 1) q _ v (by omega) (by omega) h3 (by omega) (by omega) hy hv
  ·split at hv
   ·rename_i e1 e; subst e
    cases hv
    exact h.rest p (q - 1) u _ h1 (by omega) (by omega) (by omega) (by omega) hu hy
   ·exact h.rest p q u v h1 h2 h3 (by assumption) (by assumption) hu hv
 ·intro q v x' h1 h2 hv hx'
  rw [g, if_pos rfl] at hx'
  cases hx'
  rw [g, if_neg (by omega)] at hv
  split at hv
  ·cases hv; omega
  ·exact h.low q v x (by omega) h2 hv hx
theorem insR_round (X : List Int) (b cap a m i j n : Nat) (hn : X.length = n) (hj : j < n) (haj : a ≤ j) (hc : n ≤ 1000000) (J : JH) (hJ : J[b]? = some (.cells 0 (uL X) false)) (K : Out IV → JH → Prop)
  (h1 : (∀ y x, a < j → X[j - 1]? = some y → X[j]? = some x → y ≤ x) → K (.goto 1 [.sl b 0 0 n cap 1, nI a, nI m, nI i]) J)
  (h2 : ∀ y x, a < j → X[j - 1]? = some y → X[j]? = some x → x < y → K (.goto 2 [.sl b 0 0 n cap 1, nI a, nI m, nI i, nI (j - 1)]) (J.setIfInBounds b (.cells 0 (uL ((X.set j y).set (j - 1) x)) false))) :
  WP (dn BI l_slices_insertionSortOrdered_int32_k1 [.sl b 0 0 n cap 1, nI a, nI m, nI i, nI j] J) K := by
 unfold l_slices_insertionSortOrdered_int32_k1
 by_cases hj0 : j = a
 ·subst hj0
  simp -implicitDefEqProofs only [go_sem, go_sem_proc, show ¬ ((j : Int) > (j : Int)) by omega]
  exact h1 (fun y x h => by omega)
 ·have hw : IntKind.i64.wrap ((j : Int) - 1) = ((j - 1 : Nat) : Int) := by rw [wrap_i64 (by omega) (by omega)]; omega
  have e1 : ((uL X).drop j).take 1 = [uI X[j]] := uL_at X (by omega)
  have e2 : ((uL X).drop (j - 1)).take 1 = [uI X[j - 1]] := uL_at X (by omega)
  have g1 : X[j]? = some X[j] := List.getElem?_eq_getElem (by omega)
  have g2 : X[j - 1]? = some X[j - 1] := List.getElem?_eq_getElem (by omega)
  have l1 := uL_len X
  have hb := lt_get hJ
  generalize X[j] = x at *
  generalize X[j - 1] = y at *
  have hle := uLess_ok x y
  have s1 := uL_set X j y (by omega)
  have s2 := uL_set (X.set j y) (j - 1) x (by rw [List.length_set]; omega)
  have l2 := uL_len (X.set j y)
  rw [List.length_set] at l2
  have c1 : ((j : Int) > (a : Int)) := by omega
  have b0 : (b < J.size) = True := by simp [hb]
  have j1 : (0 + j * 1 = j) := by omega
  have j2 : (0 + (j - 1) * 1 = j - 1) := by omega
  have j3 : (j - 1 < n) = True := by simp; omega
  have j4 : (j < n) = True := by simp [hj]
  have u1 : ∀ t, icells (uI t) = [uI t] := fun t => rfl
  have u2 : ∀ t, ione (uI t) = true := fun t => rfl
  have r1 : j + 1 ≤ n := by omega
  have r2 : j - 1 + 1 ≤ n := by omega
  by_cases hlt : x < y
  ·have h2' := h2 y x (by omega) g2 g1 hlt
   have hl : pc BI F_cmp_Less_int32 [uI x, uI y] = some (.sc (.bool true)) := by rw [hle]; simp [hlt]
   simp -implicitDefEqProofs only [go_sem, go_sem_proc, c1, hw, j1, j2, j3, j4, hJ, l1, hn, r1, r2, e1, e2, dcp hl rfl, l_slices_insertionSortOrdered_int32_k0, ↓u1, ↓u2, s1, s2, l2, set_get _ hb, set_set, Array.size_setIfInBounds, b0]
   exact h2'
  ·have h1' := h1 (fun y' x' _ ha hx => by rw [g2] at ha; rw [g1] at hx; cases ha; cases hx; omega)
   have hl : pc BI F_cmp_Less_int32 [uI x, uI y] = some (.sc (.bool false)) := by rw [hle]; simp [hlt]
   simp -implicitDefEqProofs only [go_sem, go_sem_proc, c1, hw, j1, j2, j3, j4, hJ, l1, hn, r1, r2, e1, e2, dcp hl rfl]
   exact h1'
theorem InsR_ok (X : List Int) (b cap a n : Nat) (ha : a ≤ n) (hn : n ≤ X.length) (hc : X.length ≤ 1000000) (J : JH) (hJ : J[b]? = some (.cells 0 (uL X) false)) :
  RP (ic BI F_slices_insertionSortOrdered_int32 [.sl b 0 0 X.length cap 1, nI a, nI n] J) fun v J' => v = .tup [] ∧ ∃ Y, Same X Y a n ∧ Rises Y a n ∧ J' = J.setIfInBounds b (.cells 0 (uL Y) false) := by
 refine RP_run fn_slices_insertionSortOrdered_int32 rfl fun K hK => ?_
 unfold l_slices_insertionSortOrdered_int32
 have hb := lt_get hJ
 have hw0 : IntKind.i64.wrap ((a : Int) + 1) = ((a + 1 : Nat) : Int) := by rw [wrap_i64 (by omega) (by omega)]; omega
 simp -implicitDefEqProofs only [go_sem, go_sem_proc, hw0, dn_loop]
 refine WP_rangeT (n - a) (fun k vs J' => ∃ Y, vs = [.sl b 0 0 X.length cap 1, nI a, nI n, nI (a + 1 + k)] ∧ Same X Y a n ∧ Rises Y a (a + 1 + k) ∧ J' = J.setIfInBounds b (.cells 0 (uL Y) false)) ?_ ⟨X, rfl, .refl _ _ _, fun p q u v h1 h2 h3 => by omega, (set_own hJ).symm⟩
 rintro k vs J1 ⟨Y, rfl, hS, hR, rfl⟩ hk K1 g1 g2 g3
 unfold l_slices_insertionSortOrdered_int32_k3
 have hlen := hS.len
 by_cases hlt : a + 1 + k < n
 ·simp -implicitDefEqProofs only [go_sem, go_sem_proc, show (((a + 1 + k : Nat) : Int) < (n : Int)) by omega, dn_loop]
  refine WP_loop (by decide) (fun m vs J' => ∃ Z j, m = j ∧ a ≤ j ∧ j ≤ a + 1 + k ∧ vs = [.sl b 0 0 X.length cap 1, nI a, nI n, nI (a + 1 + k), nI j] ∧ Same X Z a n ∧ InsR Z a (a + 1 + k) j ∧ J' = J.setIfInBounds b (.cells 0 (uL Z) false)) ?_ (a + 1 + k) _ _ ⟨Y, a + 1 + k, rfl, by omega, Nat.le_refl _, rfl, hS, .start hR, rfl⟩
  rintro m vs J2 ⟨Z, j, rfl, haj, hji, rfl, hZ, hI, rfl⟩ K2 q1 q2 q3
  have hlz := hZ.len
  refine insR_round Z b cap a n (a + 1 + k) m X.length hlz (by omega) haj hc _ (set_get _ hb) K2 ?_ ?_
  ·intro hd
   refine q2 _ _ ?_
   unfold l_slices_insertionSortOrdered_int32_k2
   have hw1 : IntKind.i64.wrap (((a + 1 + k : Nat) : Int) + 1) = ((a + 1 + (k + 1) : Nat) : Int) := by rw [wrap_i64 (by omega) (by omega)]; omega
   simp -implicitDefEqProofs only [go_sem, go_sem_proc, hw1]
   exact g1 (by omega) _ _ ⟨Z, rfl, hZ, hI.done hji hd (by omega), rfl⟩
  ·intro y x h0 hy hx hlt2
   rw [set_set]
   have e : (Z.set m y).set (m - 1) x = ((Z.set m (Z[m - 1]'(by omega))).set (m - 1) (Z[m]'(by omega))) := by
    rw [List.getElem?_eq_getElem (by omega)] at hy hx
    rw [← Option.some.inj hy, ← Option.some.inj hx]
   refine q1 _ (m - 1) _ (by omega) ⟨_, m - 1, rfl, by omega, by omega, rfl, ?_, hI.step h0 hji (by omega) hy hx hlt2, rfl⟩
   rw [e]
   exact hZ.trans (.swap (by omega) ⟨by omega, by omega⟩ ⟨by omega, by omega⟩)
 ·simp -implicitDefEqProofs only [go_sem, go_sem_proc, show ¬ (((a + 1 + k : Nat) : Int) < (n : Int)) by omega]
  refine g3 _ _ (hK _ _ ⟨rfl, Y, hS, fun p q u v h1 h2 h3 => hR p q u v h1 h2 (by omega), rfl⟩)
def CntAt (J : JH) (c : Nat) (k : Nat) : Prop := ∃ z : Int, J[c]? = some (.cells 0 [.int .i64 z] false) ∧ 0 ≤ z ∧ z ≤ k
section
variable {X : List Int} {b cap : Nat} {J : JH} (hJ : J[b]? = some (.cells 0 (uL X) false)) {c : Nat}
include hJ
theorem order2_ok {k : Nat} (hk : k ≤ 100) (hc : CntAt J c k) {p q : Nat} (hp : p < X.length) (hq : q < X.length) :
  RP (ic BI F_slices_order2Ordered_int32 [.sl b 0 0 X.length cap 1, nI p, nI q, .ptr c 0 0] J) fun v J' => (∃ p' q', v = .tup [nI p', nI q'] ∧ (p' = p ∨ p' = q) ∧ (q' = p ∨ q' = q)) ∧ CntAt J' c (k + 1) ∧ Fr J J' [c] := by
 refine RP_run fn_slices_order2Ordered_int32 rfl fun K hK => ?_
 unfold l_slices_order2Ordered_int32
 obtain ⟨z, hz, z0, z1⟩ := hc
 have e1 : ((uL X).drop p).take 1 = [uI X[p]] := uL_at X (by omega)
 have e2 : ((uL X).drop q).take 1 = [uI X[q]] := uL_at X (by omega)
 have hle := uLess_ok X[q] X[p]
 have l1 := uL_len X
 generalize X[p] = x at *
 generalize X[q] = y at *
 have j1 : (0 + p * 1 = p) := by omega
 have j2 : (0 + q * 1 = q) := by omega
 have j3 : (p < X.length) = True := by simp; omega
 have j4 : (q < X.length) = True := by simp; omega
 have r1 : p + 1 ≤ X.length := by omega
 have r2 : q + 1 ≤ X.length := by omega
 have hw : IntKind.i64.wrap (z + 1) = z + 1 := wrap_i64 (by omega) (by omega)
 by_cases hlt : y < x
 ·have hl : pc BI F_cmp_Less_int32 [uI y, uI x] = some (.sc (.bool true)) := by rw [hle]; simp [hlt]
  simp -implicitDefEqProofs only [go_sem, go_sem_proc, j1, j2, j3, j4, hJ, l1, r1, r2, e1, e2, dcp hl rfl, iisNil, hz, inb hz, hw]
  exact hK _ _ ⟨⟨q, p, rfl, .inr rfl, .inl rfl⟩, ⟨z + 1, set_get _ (lt_get hz), by omega, by omega⟩, Fr.set _ _ (by simp)⟩
 ·have hl : pc BI F_cmp_Less_int32 [uI y, uI x] = some (.sc (.bool false)) := by rw [hle]; simp [hlt]
  simp -implicitDefEqProofs only [go_sem, go_sem_proc, j1, j2, j3, j4, hJ, l1, r1, r2, e1, e2, dcp hl rfl]
  exact hK _ _ ⟨⟨p, q, rfl, .inl rfl, .inr rfl⟩, ⟨z, hz, z0, by omega⟩, Fr.refl _ _⟩
theorem median_ok {k : Nat} (hk : k ≤ 50) (hcb : c ≠ b) (hc : CntAt J c k) {p q r : Nat} (hp : p < X.length) (hq : q < X.length) (hr : r < X.length) :
  RP (ic BI F_slices_medianOrdered_int32 [.sl b 0 0 X.length cap 1, nI p, nI q, nI r, .ptr c 0 0] J) fun v J' => (∃ m, v = nI m ∧ (m = p ∨ m = q ∨ m = r)) ∧ CntAt J' c (k + 3) ∧ Fr J J' [c] := by
 refine RP_run fn_slices_medianOrdered_int32 rfl fun K hK => ?_
 unfold l_slices_medianOrdered_int32
 simp -implicitDefEqProofs only [go_sem, go_sem_proc]
 refine WP_call (order2_ok hJ (by omega) hc hp hq) fun v J2 hv => ?_
 obtain ⟨⟨p1, q1, rfl, hp1, hq1⟩, hc2, f2⟩ := hv
 have hJ2 : J2[b]? = some (.cells 0 (uL X) false) := by rw [f2.2 b (lt_get hJ) (by simp; exact Ne.symm hcb)]; exact hJ
 simp -implicitDefEqProofs only [go_sem, go_sem_proc]
 refine WP_call (order2_ok hJ2 (by omega) hc2 (p := q1) (q := r) (by omega) hr) fun v J3 hv => ?_
 obtain ⟨⟨p2, q2, rfl, hp2, hq2⟩, hc3, f3⟩ := hv
 have hJ3 : J3[b]? = some (.cells 0 (uL X) false) := by rw [f3.2 b (lt_get hJ2) (by simp; exact Ne.symm hcb)]; exact hJ2
 simp -implicitDefEqProofs only [go_sem, go_sem_proc]
 refine WP_call (order2_ok hJ3 (by omega) hc3 (p := p1) (q := p2) (by omega) (by omega)) fun v J4 hv => ?_
 obtain ⟨⟨p3, q3, rfl, hp3, hq3⟩, hc4, f4⟩ := hv
 simp -implicitDefEqProofs only [go_sem, go_sem_proc]
 exact hK _ _ ⟨⟨q3, rfl, by omega⟩, hc4, (f2.trans f3 (fun _ _ h => h)).trans f4 (fun _ _ h => h)⟩
theorem choose_ok {a n : Nat} (ha : a + 8 ≤ n) (hn : n ≤ X.length) (h50 : n - a < 50) (hc : X.length ≤ 1000000) :
  RP (ic BI F_slices_choosePivotOrdered_int32 [.sl b 0 0 X.length cap 1, nI a, nI n] J) fun v J' => (∃ p : Nat, ∃ h : Int, v = .tup [nI p, .int .i64 h] ∧ a ≤ p ∧ p < n) ∧ Fr J J' [] := by
 refine RP_run fn_slices_choosePivotOrdered_int32 rfl fun K hK => ?_
 unfold l_slices_choosePivotOrdered_int32
 obtain ⟨d, hd⟩ : ∃ d, d = n - a := ⟨_, rfl⟩
 have w1 : IntKind.i64.wrap ((n : Int) - (a : Int)) = (d : Int) := by rw [wrap_i64 (by omega) (by omega)]; omega
 obtain ⟨e, he⟩ : ∃ e, e = d / 4 := ⟨_, rfl⟩
 have t1 : ((d : Int).tdiv 4) = (e : Int) := by rw [he]; rfl
 have w2 : IntKind.i64.wrap (e : Int) = (e : Int) := wrap_i64 (by omega) (by omega)
 have w3 : IntKind.i64.wrap ((e : Int) * 1) = (e : Int) := by rw [wrap_i64 (by omega) (by omega)]; omega
 have w4 : IntKind.i64.wrap ((e : Int) * 2) = ((2 * e : Nat) : Int) := by rw [wrap_i64 (by omega) (by omega)]; omega
 have w5 : IntKind.i64.wrap ((e : Int) * 3) = ((3 * e : Nat) : Int) := by rw [wrap_i64 (by omega) (by omega)]; omega
 have w6 : IntKind.i64.wrap ((a : Int) + (e : Int)) = ((a + e : Nat) : Int) := by rw [wrap_i64 (by omega) (by omega)]; omega
 have w7 : IntKind.i64.wrap ((a : Int) + ((2 * e : Nat) : Int)) = ((a + 2 * e : Nat) : Int) := by rw [wrap_i64 (by omega) (by omega)]; omega
 have w8 : IntKind.i64.wrap ((a : Int) + ((3 * e : Nat) : Int)) = ((a + 3 * e : Nat) : Int) := by rw [wrap_i64 (by omega) (by omega)]; omega
 have hb := lt_get hJ
 have hJ2 : (J.push (.cells 0 [.int .i64 0] false))[b]? = some (.cells 0 (uL X) false) := by rw [Array.getElem?_push, if_neg (by omega)]; exact hJ
 simp -implicitDefEqProofs only [go_sem, go_sem_proc, w1, t1, w2, w3, w4, w5, w6, w7, w8, show ((d : Int) ≥ 8) by omega, show ¬ ((d : Int) ≥ 50) by omega]
 refine WP_join fun K1 g1 g2 g3 => ?_
 unfold l_slices_choosePivotOrdered_int32_k0
 simp -implicitDefEqProofs only [go_sem, go_sem_proc]
 refine WP_call (median_ok hJ2 (c := J.size) (k := 0) (by omega) (by omega) ⟨0, push_get _ _, by omega, by omega⟩ (p := a + e) (q := a + 2 * e) (r := a + 3 * e) (by omega) (by omega) (by omega)) fun v J3 hv => ?_
 obtain ⟨⟨m, rfl, hm⟩, ⟨z, hz, z0, z1⟩, f3⟩ := hv
 simp -implicitDefEqProofs only [go_sem, go_sem_proc]
 refine g1 _ _ ?_
 unfold l_slices_choosePivotOrdered_int32_k1
 have ff : Fr J J3 [] := (Fr.push J (.cells 0 [.int .i64 0] false) []).trans f3 (fun d hd hm => by simp at hm; omega)
 by_cases c1 : z = 0
 ·subst c1
  simp -implicitDefEqProofs only [go_sem, go_sem_proc, hz, inb hz]
  exact hK _ _ ⟨⟨m, 1, rfl, by omega, by omega⟩, ff⟩
 ·by_cases c2 : z = 12
  ·subst c2
   simp -implicitDefEqProofs only [go_sem, go_sem_proc, hz, inb hz]
   exact hK _ _ ⟨⟨m, 2, rfl, by omega, by omega⟩, ff⟩
  ·have k1 : (z == 0) = false := by simpa using c1
   have k2 : (z == 12) = false := by simpa using c2
   simp -implicitDefEqProofs only [go_sem, go_sem_proc, hz, inb hz, k1, k2]
   exact hK _ _ ⟨⟨m, 0, rfl, by omega, by omega⟩, ff⟩
end
end Go.Proofs.Ytdclinhgekbejaa.G
namespace Go.Proofs.Ytdclinhgekbejaa.G
open Go
theorem Rises.more {X : List Int} {a i : Nat} (h : Rises X a i) (h2 : ∀ u v, a < i → X[i - 1]? = some u → X[i]? = some v → u ≤ v) (hl : i < X.length) : Rises X a (i + 1) := by
 intro p q u v h1 h3 h4 hu hv
 by_cases c : q < i
 ·exact h p q u v h1 h3 c hu hv
 ·obtain rfl : q = i := by omega
  have hy : X[q - 1]? = some (X[q - 1]'(by omega)) := List.getElem?_eq_getElem (by omega)
  have := h2 _ v (by omega) hy hv
  by_cases c2 : p = q - 1
  ·subst c2; rw [hy] at hu; cases hu; exact this
  ·have := h p (q - 1) u _ h1 (by omega) (by omega) hu hy
   omega
structure PtI (X : List Int) (p : Int) (a n i j : Nat) : Prop where
 piv : X[a]? = some p
 lo : ∀ k v, a < k → k < i → X[k]? = some v → v < p
 hi : ∀ k v, j < k → k < n → X[k]? = some v → p ≤ v
 at' : a < i ∧ i ≤ j + 1 ∧ j < n
theorem PtI.up {X : List Int} {p x : Int} {a n i j : Nat} (h : PtI X p a n i j) (hij : i ≤ j) (hx : X[i]? = some x) (hlt : x < p) : PtI X p a n (i + 1) j := by
 refine ⟨h.piv, fun k v h1 h2 hv => ?_, h.hi, by have := h.at'; omega⟩
 by_cases c : k = i
 ·subst c; rw [hx] at hv; cases hv; exact hlt
 ·exact h.lo k v h1 (by omega) hv
theorem PtI.down {X : List Int} {p x : Int} {a n i j : Nat} (h : PtI X p a n i j) (hij : i ≤ j) (hx : X[j]? = some x) (hge : p ≤ x) : PtI X p a n i (j - 1) := by
 refine ⟨h.piv, h.lo, fun k v h1 h2 hv => ?_, by have := h.at'; omega⟩
 by_cases c : k = j
 ·subst c; rw [hx] at hv; cases hv; exact hge
 ·exact h.hi k v (by omega) h2 hv
section
variable {X : List Int} {b cap : Nat} {J : JH} (hJ : J[b]? = some (.cells 0 (uL X) false)) {p : Int} {a n : Nat} (hn : n ≤ X.length) (hc : X.length ≤ 1000000)
include hJ hn hc
theorem pt_up1 {i j : Nat} (h : PtI X p a n i j) (K : Out IV → JH → Prop)
  (h1 : (∀ x, i ≤ j → X[i]? = some x → p ≤ x) → K (.goto 0 [.sl b 0 0 X.length cap 1, nI a, nI i, nI j]) J)
  (h2 : ∀ x, i ≤ j → X[i]? = some x → x < p → K (.goto 1 [.sl b 0 0 X.length cap 1, nI a, nI (i + 1), nI j]) J) :
  WP (dn BI l_slices_partitionOrdered_int32_k1 [.sl b 0 0 X.length cap 1, nI a, nI i, nI j] J) K := by
 unfold l_slices_partitionOrdered_int32_k1
 obtain ⟨a1, a2, a3⟩ := h.at'
 have hp := h.piv
 by_cases hij : i ≤ j
 ·have e1 : ((uL X).drop i).take 1 = [uI X[i]] := uL_at X (by omega)
  have e2 : ((uL X).drop a).take 1 = [uI X[a]] := uL_at X (by omega)
  have g1 : X[i]? = some X[i] := List.getElem?_eq_getElem (by omega)
  have g2 : X[a]? = some X[a] := List.getElem?_eq_getElem (by omega)
  have l1 := uL_len X
  generalize X[i] = x at *
  generalize X[a] = y at *
  obtain rfl : y = p := by rw [hp] at g2; exact (Option.some.inj g2).symm
  have hle := uLess_ok x y
  have hw1 : IntKind.i64.wrap ((i : Int) + 1) = ((i + 1 : Nat) : Int) := by rw [wrap_i64 (by omega) (by omega)]; omega
  have j1 : (0 + i * 1 = i) := by omega
  have j2 : (0 + a * 1 = a) := by omega
  have j3 : (i < X.length) = True := by simp; omega
  have j4 : (a < X.length) = True := by simp; omega
  have r1 : i + 1 ≤ X.length := by omega
  have r2 : a + 1 ≤ X.length := by omega
  by_cases hl2 : x < y
  ·have hl : pc BI F_cmp_Less_int32 [uI x, uI y] = some (.sc (.bool true)) := by rw [hle]; simp [hl2]
   simp -implicitDefEqProofs only [go_sem, go_sem_proc, show ((i : Int) ≤ (j : Int)) by omega, hw1, j1, j2, j3, j4, hJ, l1, r1, r2, e1, e2, dcp hl rfl, l_slices_partitionOrdered_int32_k0]
   exact h2 x hij g1 hl2
  ·have hl : pc BI F_cmp_Less_int32 [uI x, uI y] = some (.sc (.bool false)) := by rw [hle]; simp [hl2]
   simp -implicitDefEqProofs only [go_sem, go_sem_proc, show ((i : Int) ≤ (j : Int)) by omega, hw1, j1, j2, j3, j4, hJ, l1, r1, r2, e1, e2, dcp hl rfl, l_slices_partitionOrdered_int32_k0]
   exact h1 (fun z _ hz => by rw [g1] at hz; cases hz; omega)
 ·simp -implicitDefEqProofs only [go_sem, go_sem_proc, show ¬ ((i : Int) ≤ (j : Int)) by omega]
  exact h1 (fun x h => absurd h hij)
theorem pt_down3 {i j : Nat} (h : PtI X p a n i j) (K : Out IV → JH → Prop)
  (h1 : (∀ x, i ≤ j → X[j]? = some x → x < p) → K (.goto 1 [.sl b 0 0 X.length cap 1, nI a, nI i, nI j]) J)
  (h2 : ∀ x, i ≤ j → X[j]? = some x → p ≤ x → K (.goto 2 [.sl b 0 0 X.length cap 1, nI a, nI i, nI (j - 1)]) J) :
  WP (dn BI l_slices_partitionOrdered_int32_k3 [.sl b 0 0 X.length cap 1, nI a, nI i, nI j] J) K := by
 unfold l_slices_partitionOrdered_int32_k3
 obtain ⟨a1, a2, a3⟩ := h.at'
 have hp := h.piv
 by_cases hij : i ≤ j
 ·have e1 : ((uL X).drop j).take 1 = [uI X[j]] := uL_at X (by omega)
  have e2 : ((uL X).drop a).take 1 = [uI X[a]] := uL_at X (by omega)
  have g1 : X[j]? = some X[j] := List.getElem?_eq_getElem (by omega)
  have g2 : X[a]? = some X[a] := List.getElem?_eq_getElem (by omega)
  have l1 := uL_len X
  generalize X[j] = x at *
  generalize X[a] = y at *
  obtain rfl : y = p := by rw [hp] at g2; exact (Option.some.inj g2).symm
  have hle := uLess_ok x y
  have hw1 : IntKind.i64.wrap ((j : Int) - 1) = ((j - 1 : Nat) : Int) := by rw [wrap_i64 (by omega) (by omega)]; omega
  have j1 : (0 + j * 1 = j) := by omega
  have j2 : (0 + a * 1 = a) := by omega
  have j3 : (j < X.length) = True := by simp; omega
  have j4 : (a < X.length) = True := by simp; omega
  have r1 : j + 1 ≤ X.length := by omega
  have r2 : a + 1 ≤ X.length := by omega
  by_cases hl2 : x < y
  ·have hl : pc BI F_cmp_Less_int32 [uI x, uI y] = some (.sc (.bool true)) := by rw [hle]; simp [hl2]
   simp -implicitDefEqProofs only [go_sem, go_sem_proc, show ((i : Int) ≤ (j : Int)) by omega, hw1, j1, j2, j3, j4, hJ, l1, r1, r2, e1, e2, dcp hl rfl, l_slices_partitionOrdered_int32_k2]
   exact h1 (fun z _ hz => by rw [g1] at hz; cases hz; exact hl2)
  ·have hl : pc BI F_cmp_Less_int32 [uI x, uI y] = some (.sc (.bool false)) := by rw [hle]; simp [hl2]
   simp -implicitDefEqProofs only [go_sem, go_sem_proc, show ((i : Int) ≤ (j : Int)) by omega, hw1, j1, j2, j3, j4, hJ, l1, r1, r2, e1, e2, dcp hl rfl, l_slices_partitionOrdered_int32_k2]
   exact h2 x hij g1 (by omega)
 ·simp -implicitDefEqProofs only [go_sem, go_sem_proc, show ¬ ((i : Int) ≤ (j : Int)) by omega]
  exact h1 (fun x h => absurd h hij)
theorem pt_up5 {i j : Nat} (h : PtI X p a n i j) (K : Out IV → JH → Prop)
  (h1 : (∀ x, i ≤ j → X[i]? = some x → p ≤ x) → K (.goto 4 [.sl b 0 0 X.length cap 1, nI a, nI i, nI j]) J)
  (h2 : ∀ x, i ≤ j → X[i]? = some x → x < p → K (.goto 5 [.sl b 0 0 X.length cap 1, nI a, nI (i + 1), nI j]) J) :
  WP (dn BI l_slices_partitionOrdered_int32_k5 [.sl b 0 0 X.length cap 1, nI a, nI i, nI j] J) K := by
 unfold l_slices_partitionOrdered_int32_k5
 obtain ⟨a1, a2, a3⟩ := h.at'
 have hp := h.piv
 by_cases hij : i ≤ j
 ·have e1 : ((uL X).drop i).take 1 = [uI X[i]] := uL_at X (by omega)
  have e2 : ((uL X).drop a).take 1 = [uI X[a]] := uL_at X (by omega)
  have g1 : X[i]? = some X[i] := List.getElem?_eq_getElem (by omega)
  have g2 : X[a]? = some X[a] := List.getElem?_eq_getElem (by omega)
  have l1 := uL_len X
  generalize X[i] = x at *
  generalize X[a] = y at *
  obtain rfl : y = p := by rw [hp] at g2; exact (Option.some.inj g2).symm
  have hle := uLess_ok x y
  have hw1 : IntKind.i64.wrap ((i : Int) + 1) = ((i + 1 : Nat) : Int) := by rw [wrap_i64 (by omega) (by omega)]; omega
  have j1 : (0 + i * 1 = i) := by omega
  have j2 : (0 + a * 1 = a) := by omega
  have j3 : (i < X.length) = True := by simp; omega
  have j4 : (a < X.length) = True := by simp; omega
  have r1 : i + 1 ≤ X.length := by omega
  have r2 : a + 1 ≤ X.length := by omega
  by_cases hl2 : x < y
  ·have hl : pc BI F_cmp_Less_int32 [uI x, uI y] = some (.sc (.bool true)) := by rw [hle]; simp [hl2]
   simp -implicitDefEqProofs only [go_sem, go_sem_proc, show ((i : Int) ≤ (j : Int)) by omega, hw1, j1, j2, j3, j4, hJ, l1, r1, r2, e1, e2, dcp hl rfl, l_slices_partitionOrdered_int32_k4]
   exact h2 x hij g1 hl2
  ·have hl : pc BI F_cmp_Less_int32 [uI x, uI y] = some (.sc (.bool false)) := by rw [hle]; simp [hl2]
   simp -implicitDefEqProofs only [go_sem, go_sem_proc, show ((i : Int) ≤ (j : Int)) by omega, hw1, j1, j2, j3, j4, hJ, l1, r1, r2, e1, e2, dcp hl rfl, l_slices_partitionOrdered_int32_k4]
   exact h1 (fun z _ hz => by rw [g1] at hz; cases hz; omega)
 ·simp -implicitDefEqProofs only [go_sem, go_sem_proc, show ¬ ((i : Int) ≤ (j : Int)) by omega]
  exact h1 (fun x h => absurd h hij)
theorem pt_down7 {i j : Nat} (h : PtI X p a n i j) (K : Out IV → JH → Prop)
  (h1 : (∀ x, i ≤ j → X[j]? = some x → x < p) → K (.goto 5 [.sl b 0 0 X.length cap 1, nI a, nI i, nI j]) J)
  (h2 : ∀ x, i ≤ j → X[j]? = some x → p ≤ x → K (.goto 6 [.sl b 0 0 X.length cap 1, nI a, nI i, nI (j - 1)]) J) :
  WP (dn BI l_slices_partitionOrdered_int32_k7 [.sl b 0 0 X.length cap 1, nI a, nI i, nI j] J) K := by
 unfold l_slices_partitionOrdered_int32_k7
 obtain ⟨a1, a2, a3⟩ := h.at'
 have hp := h.piv
 by_cases hij : i ≤ j
 ·have e1 : ((uL X).drop j).take 1 = [uI X[j]] := uL_at X (by omega)
  have e2 : ((uL X).drop a).take 1 = [uI X[a]] := uL_at X (by omega)
  have g1 : X[j]? = some X[j] := List.getElem?_eq_getElem (by omega)
  have g2 : X[a]? = some X[a] := List.getElem?_eq_getElem (by omega)
  have l1 := uL_len X
  generalize X[j] = x at *
  generalize X[a] = y at *
  obtain rfl : y = p := by rw [hp] at g2; exact (Option.some.inj g2).symm
  have hle := uLess_ok x y
  have hw1 : IntKind.i64.wrap ((j : Int) - 1) = ((j - 1 : Nat) : Int) := by rw [wrap_i64 (by omega) (by omega)]; omega
  have j1 : (0 + j * 1 = j) := by omega
  have j2 : (0 + a * 1 = a) := by omega
  have j3 : (j < X.length) = True := by simp; omega
  have j4 : (a < X.length) = True := by simp; omega
  have r1 : j + 1 ≤ X.length := by omega
  have r2 : a + 1 ≤ X.length := by omega
  by_cases hl2 : x < y
  ·have hl : pc BI F_cmp_Less_int32 [uI x, uI y] = some (.sc (.bool true)) := by rw [hle]; simp [hl2]
   simp -implicitDefEqProofs only [go_sem, go_sem_proc, show ((i : Int) ≤ (j : Int)) by omega, hw1, j1, j2, j3, j4, hJ, l1, r1, r2, e1, e2, dcp hl rfl, l_slices_partitionOrdered_int32_k6]
   exact h1 (fun z _ hz => by rw [g1] at hz; cases hz; exact hl2)
  ·have hl : pc BI F_cmp_Less_int32 [uI x, uI y] = some (.sc (.bool false)) := by rw [hle]; simp [hl2]
   simp -implicitDefEqProofs only [go_sem, go_sem_proc, show ((i : Int) ≤ (j : Int)) by omega, hw1, j1, j2, j3, j4, hJ, l1, r1, r2, e1, e2, dcp hl rfl, l_slices_partitionOrdered_int32_k6]
   exact h2 x hij g1 (by omega)
 ·simp -implicitDefEqProofs only [go_sem, go_sem_proc, show ¬ ((i : Int) ≤ (j : Int)) by omega]
  exact h1 (fun x h => absurd h hij)
end
end Go.Proofs.Ytdclinhgekbejaa.G
namespace Go.Proofs.Ytdclinhgekbejaa.G
open Go
theorem swap_get {X : List Int} {i j : Nat} {x y : Int} (hi : i < X.length) (hj : j < X.length) (k : Nat) : ((X.set i y).set j x)[k]? = if k = j then some x else if k = i then some y else X[k]? := by
 rw [List.getElem?_set, List.getElem?_set, List.length_set]
 by_cases c1 : k = j
 ·subst c1; simp; omega
 ·rw [if_neg (Ne.symm c1), if_neg c1]
  by_cases c2 : k = i
  ·subst c2; simp; omega
  ·rw [if_neg (Ne.symm c2), if_neg c2]
theorem PtI.exch {X : List Int} {p x y : Int} {a n i j : Nat} (h : PtI X p a n i j) (hn : n ≤ X.length) (hij : i ≤ j) (hx : X[i]? = some x) (hy : X[j]? = some y) (h1 : p ≤ x) (h2 : y < p) : PtI ((X.set i y).set j x) p a n (i + 1) (j - 1) := by
 obtain ⟨a1, a2, a3⟩ := h.at'
 have hne : i ≠ j := by rintro rfl; rw [hx] at hy; cases hy; omega
 have g := fun k => swap_get (X := X) (i := i) (j := j) (x := x) (y := y) (by omega) (by omega) k
 refine ⟨by rw [g, if_neg (by omega), if_neg (by omega)]; exact h.piv, fun k v k1 k2 hv => ?_, fun k v k1 k2 hv => ?_, by omega⟩
 ·rw [g, if_neg (by omega)] at hv
  split at hv
  ·cases hv; exact h2
  ·exact h.lo k v k1 (by omega) hv
 ·rw [g] at hv
  split at hv
  ·cases hv; exact h1
  ·rw [if_neg (by omega)] at hv
   exact h.hi k v (by omega) k2 hv
structure Parted (Y : List Int) (a m n : Nat) : Prop where
 at' : a ≤ m ∧ m < n
 ex : ∃ p, Y[m]? = some p ∧ (∀ k v, a ≤ k → k < m → Y[k]? = some v → v ≤ p) ∧ ∀ k v, m < k → k < n → Y[k]? = some v → p ≤ v
theorem PtI.fin {X : List Int} {p y : Int} {a n i j : Nat} (h : PtI X p a n i j) (hn : n ≤ X.length) (hij : ¬ i ≤ j) (hy : X[j]? = some y) : Parted ((X.set j p).set a y) a j n := by
 obtain ⟨a1, a2, a3⟩ := h.at'
 have g := fun k => swap_get (X := X) (i := j) (j := a) (x := y) (y := p) (by omega) (by omega) k
 refine ⟨by omega, p, ?_, fun k v k1 k2 hv => ?_, fun k v k1 k2 hv => ?_⟩
 ·rw [g]
  by_cases c : j = a
  ·rw [if_pos c]; subst c; rw [h.piv] at hy; cases hy; rfl
  ·rw [if_neg c, if_pos rfl]
 ·rw [g] at hv
  split at hv
  ·cases hv
   have := h.lo j y (by omega) (by omega) hy
   omega
  ·rw [if_neg (by omega)] at hv
   have := h.lo k v (by omega) (by omega) hv
   omega
 ·rw [g, if_neg (by omega), if_neg (by omega)] at hv
  exact h.hi k v k1 k2 hv
section
variable {X : List Int} {b cap : Nat} {J : JH} (hJ : J[b]? = some (.cells 0 (uL X) false)) {a n : Nat} (hn : n ≤ X.length) (hc : X.length ≤ 1000000)
include hJ hn hc
omit hc in
theorem pt_k11 {j : Nat} {x p : Int} (ha : a ≤ j) (hj : j < n) (hx : X[j]? = some x) (hp : X[a]? = some p) (K : Out IV → JH → Prop)
  (hK : K (.ret [nI j, .sc (.bool false)]) (J.setIfInBounds b (.cells 0 (uL ((X.set j p).set a x)) false))) :
  WP (dn BI l_slices_partitionOrdered_int32_k11 [.sl b 0 0 X.length cap 1, nI a, nI j] J) K := by
 unfold l_slices_partitionOrdered_int32_k11
 have e1 : ((uL X).drop j).take 1 = [uI X[j]] := uL_at X (by omega)
 have e2 : ((uL X).drop a).take 1 = [uI X[a]] := uL_at X (by omega)
 rw [List.getElem?_eq_getElem (by omega)] at hx hp
 have hx := Option.some.inj hx
 have hp := Option.some.inj hp
 rw [hx] at e1
 rw [hp] at e2
 have l1 := uL_len X
 have hb := lt_get hJ
 have s1 := uL_set X j p (by omega)
 have s2 := uL_set (X.set j p) a x (by rw [List.length_set]; omega)
 have l2 := uL_len (X.set j p)
 rw [List.length_set] at l2
 have b0 : (b < J.size) = True := by simp [hb]
 have j1 : (0 + j * 1 = j) := by omega
 have j2 : (0 + a * 1 = a) := by omega
 have j3 : (a < X.length) = True := by simp; omega
 have j4 : (j < X.length) = True := by simp; omega
 have u1 : ∀ t, icells (uI t) = [uI t] := fun t => rfl
 have u2 : ∀ t, ione (uI t) = true := fun t => rfl
 have o1 := uL_one X
 have o2 := uL_one (X.set j p)
 have r1 : j + 1 ≤ X.length := by omega
 have r2 : a + 1 ≤ X.length := by omega
 simp -implicitDefEqProofs only [go_sem, go_sem_proc, j1, j2, j3, j4, hJ, l1, r1, r2, e1, e2, ↓u1, ↓u2, s1, s2, l2, set_get _ hb, set_set, Array.size_setIfInBounds, b0]
 exact hK
end
end Go.Proofs.Ytdclinhgekbejaa.G
namespace Go.Proofs.Ytdclinhgekbejaa.G
open Go
section
variable {X : List Int} {b cap : Nat} {J : JH} (hJ : J[b]? = some (.cells 0 (uL X) false)) {p : Int} {a n : Nat} (hn : n ≤ X.length) (hc : X.length ≤ 1000000)
include hJ hn hc
theorem pt_L1 {i j : Nat} (h : PtI X p a n i j) (body : L) (K : Out IV → JH → Prop)
  (hK : ∀ i', i ≤ i' → PtI X p a n i' j → (∀ x, i' ≤ j → X[i']? = some x → p ≤ x) → WP (dn BI body [.sl b 0 0 X.length cap 1, nI a, nI i', nI j] J) K) :
  WP (onJoinD 0 (iter (dn BI l_slices_partitionOrdered_int32_k1) 1 [.sl b 0 0 X.length cap 1, nI a, nI i, nI j] J) body) K := by
 refine WP_loop (by decide) (fun m vs J' => ∃ i', i ≤ i' ∧ m = j + 1 - i' ∧ vs = [.sl b 0 0 X.length cap 1, nI a, nI i', nI j] ∧ PtI X p a n i' j ∧ J' = J) ?_ (j + 1 - i) _ _ ⟨i, Nat.le_refl _, rfl, rfl, h, rfl⟩
 rintro m vs J1 ⟨i', hii, rfl, rfl, hI, rfl⟩ K1 g1 g2 g3
 refine pt_up1 hJ hn hc hI K1 (fun hd => g2 _ _ (hK i' hii hI hd)) fun x hij hx hlt => ?_
 exact g1 _ (j + 1 - (i' + 1)) _ (by omega) ⟨i' + 1, by omega, rfl, rfl, hI.up hij hx hlt, rfl⟩
theorem pt_L3 {i j : Nat} (h : PtI X p a n i j) (body : L) (K : Out IV → JH → Prop)
  (hK : ∀ j', j' ≤ j → PtI X p a n i j' → (∀ x, i ≤ j' → X[j']? = some x → x < p) → WP (dn BI body [.sl b 0 0 X.length cap 1, nI a, nI i, nI j'] J) K) :
  WP (onJoinD 1 (iter (dn BI l_slices_partitionOrdered_int32_k3) 2 [.sl b 0 0 X.length cap 1, nI a, nI i, nI j] J) body) K := by
 refine WP_loop (by decide) (fun m vs J' => ∃ j', j' ≤ j ∧ m = j' ∧ vs = [.sl b 0 0 X.length cap 1, nI a, nI i, nI j'] ∧ PtI X p a n i j' ∧ J' = J) ?_ j _ _ ⟨j, Nat.le_refl _, rfl, rfl, h, rfl⟩
 rintro m vs J1 ⟨j', hjj, rfl, rfl, hI, rfl⟩ K1 g1 g2 g3
 refine pt_down3 hJ hn hc hI K1 (fun hd => g2 _ _ (hK m hjj hI hd)) fun x hij hx hge => ?_
 exact g1 _ (m - 1) _ (by have := hI.at'; omega) ⟨m - 1, by omega, rfl, rfl, hI.down hij hx hge, rfl⟩
theorem pt_L5 {i j : Nat} (h : PtI X p a n i j) (body : L) (K : Out IV → JH → Prop)
  (hK : ∀ i', i ≤ i' → PtI X p a n i' j → (∀ x, i' ≤ j → X[i']? = some x → p ≤ x) → WP (dn BI body [.sl b 0 0 X.length cap 1, nI a, nI i', nI j] J) K) :
  WP (onJoinD 4 (iter (dn BI l_slices_partitionOrdered_int32_k5) 5 [.sl b 0 0 X.length cap 1, nI a, nI i, nI j] J) body) K := by
 refine WP_loop (by decide) (fun m vs J' => ∃ i', i ≤ i' ∧ m = j + 1 - i' ∧ vs = [.sl b 0 0 X.length cap 1, nI a, nI i', nI j] ∧ PtI X p a n i' j ∧ J' = J) ?_ (j + 1 - i) _ _ ⟨i, Nat.le_refl _, rfl, rfl, h, rfl⟩
 rintro m vs J1 ⟨i', hii, rfl, rfl, hI, rfl⟩ K1 g1 g2 g3
 refine pt_up5 hJ hn hc hI K1 (fun hd => g2 _ _ (hK i' hii hI hd)) fun x hij hx hlt => ?_
 exact g1 _ (j + 1 - (i' + 1)) _ (by omega) ⟨i' + 1, by omega, rfl, rfl, hI.up hij hx hlt, rfl⟩
theorem pt_L7 {i j : Nat} (h : PtI X p a n i j) (body : L) (K : Out IV → JH → Prop)
  (hK : ∀ j', j' ≤ j → PtI X p a n i j' → (∀ x, i ≤ j' → X[j']? = some x → x < p) → WP (dn BI body [.sl b 0 0 X.length cap 1, nI a, nI i, nI j'] J) K) :
  WP (onJoinD 5 (iter (dn BI l_slices_partitionOrdered_int32_k7) 6 [.sl b 0 0 X.length cap 1, nI a, nI i, nI j] J) body) K := by
 refine WP_loop (by decide) (fun m vs J' => ∃ j', j' ≤ j ∧ m = j' ∧ vs = [.sl b 0 0 X.length cap 1, nI a, nI i, nI j'] ∧ PtI X p a n i j' ∧ J' = J) ?_ j _ _ ⟨j, Nat.le_refl _, rfl, rfl, h, rfl⟩
 rintro m vs J1 ⟨j', hjj, rfl, rfl, hI, rfl⟩ K1 g1 g2 g3
 refine pt_down7 hJ hn hc hI K1 (fun hd => g2 _ _ (hK m hjj hI hd)) fun x hij hx hge => ?_
 exact g1 _ (m - 1) _ (by have := hI.at'; omega) ⟨m - 1, by omega, rfl, rfl, hI.down hij hx hge, rfl⟩
theorem pt_k8x {i j : Nat} {x y : Int} (hij : i ≤ j) (h0 : 0 < j) (hj : j < n) (hx : X[i]? = some x) (hy : X[j]? = some y) (K : Out IV → JH → Prop)
  (hK : K (.goto 3 [.sl b 0 0 X.length cap 1, nI a, nI (i + 1), nI (j - 1)]) (J.setIfInBounds b (.cells 0 (uL ((X.set i y).set j x)) false))) :
  WP (dn BI l_slices_partitionOrdered_int32_k8 [.sl b 0 0 X.length cap 1, nI a, nI i, nI j] J) K := by
 unfold l_slices_partitionOrdered_int32_k8
 have e1 : ((uL X).drop j).take 1 = [uI y] := by rw [uL_at X (by omega)]; rw [List.getElem?_eq_getElem (by omega)] at hy; rw [Option.some.inj hy]
 have e2 : ((uL X).drop i).take 1 = [uI x] := by rw [uL_at X (by omega)]; rw [List.getElem?_eq_getElem (by omega)] at hx; rw [Option.some.inj hx]
 have l1 := uL_len X
 have hb := lt_get hJ
 have s1 := uL_set X i y (by omega)
 have s2 := uL_set (X.set i y) j x (by rw [List.length_set]; omega)
 have l2 := uL_len (X.set i y)
 rw [List.length_set] at l2
 have b0 : (b < J.size) = True := by simp [hb]
 have j1 : (0 + j * 1 = j) := by omega
 have j2 : (0 + i * 1 = i) := by omega
 have j3 : (i < X.length) = True := by simp; omega
 have j4 : (j < X.length) = True := by simp; omega
 have u1 : ∀ t, icells (uI t) = [uI t] := fun t => rfl
 have u2 : ∀ t, ione (uI t) = true := fun t => rfl
 have r1 : j + 1 ≤ X.length := by omega
 have r2 : i + 1 ≤ X.length := by omega
 have hw1 : IntKind.i64.wrap ((i : Int) + 1) = ((i + 1 : Nat) : Int) := by rw [wrap_i64 (by omega) (by omega)]; omega
 have hw2 : IntKind.i64.wrap ((j : Int) - 1) = ((j - 1 : Nat) : Int) := by rw [wrap_i64 (by omega) (by omega)]; omega
 simp -implicitDefEqProofs only [go_sem, go_sem_proc, show ¬ ((i : Int) > (j : Int)) by omega, hw1, hw2, j1, j2, j3, j4, hJ, l1, r1, r2, e1, e2, ↓u1, ↓u2, s1, s2, l2, set_get _ hb, set_set, Array.size_setIfInBounds, b0]
 exact hK
theorem pt_k12x {i j : Nat} {x y : Int} (hij : i ≤ j) (h0 : 0 < j) (hj : j < n) (hx : X[i]? = some x) (hy : X[j]? = some y) (K : Out IV → JH → Prop)
  (hK : WP (onJoinD 2 (iter (dn BI l_slices_partitionOrdered_int32_k10) 3 [.sl b 0 0 X.length cap 1, nI a, nI (i + 1), nI (j - 1)] (J.setIfInBounds b (.cells 0 (uL ((X.set i y).set j x)) false))) l_slices_partitionOrdered_int32_k11) K) :
  WP (dn BI l_slices_partitionOrdered_int32_k12 [.sl b 0 0 X.length cap 1, nI a, nI i, nI j] J) K := by
 unfold l_slices_partitionOrdered_int32_k12
 have e1 : ((uL X).drop j).take 1 = [uI y] := by rw [uL_at X (by omega)]; rw [List.getElem?_eq_getElem (by omega)] at hy; rw [Option.some.inj hy]
 have e2 : ((uL X).drop i).take 1 = [uI x] := by rw [uL_at X (by omega)]; rw [List.getElem?_eq_getElem (by omega)] at hx; rw [Option.some.inj hx]
 have l1 := uL_len X
 have hb := lt_get hJ
 have s1 := uL_set X i y (by omega)
 have s2 := uL_set (X.set i y) j x (by rw [List.length_set]; omega)
 have l2 := uL_len (X.set i y)
 rw [List.length_set] at l2
 have b0 : (b < J.size) = True := by simp [hb]
 have j1 : (0 + j * 1 = j) := by omega
 have j2 : (0 + i * 1 = i) := by omega
 have j3 : (i < X.length) = True := by simp; omega
 have j4 : (j < X.length) = True := by simp; omega
 have u1 : ∀ t, icells (uI t) = [uI t] := fun t => rfl
 have u2 : ∀ t, ione (uI t) = true := fun t => rfl
 have r1 : j + 1 ≤ X.length := by omega
 have r2 : i + 1 ≤ X.length := by omega
 have hw1 : IntKind.i64.wrap ((i : Int) + 1) = ((i + 1 : Nat) : Int) := by rw [wrap_i64 (by omega) (by omega)]; omega
 have hw2 : IntKind.i64.wrap ((j : Int) - 1) = ((j - 1 : Nat) : Int) := by rw [wrap_i64 (by omega) (by omega)]; omega
 simp -implicitDefEqProofs only [go_sem, go_sem_proc, show ¬ ((i : Int) > (j : Int)) by omega, hw1, hw2, j1, j2, j3, j4, hJ, l1, r1, r2, e1, e2, ↓u1, ↓u2, s1, s2, l2, set_get _ hb, set_set, Array.size_setIfInBounds, b0, dn_loop]
 exact hK
end
end Go.Proofs.Ytdclinhgekbejaa.G
namespace Go.Proofs.Ytdclinhgekbejaa.G
open Go
section
variable {X : List Int} {b cap : Nat} {J : JH} (hJ : J[b]? = some (.cells 0 (uL X) false)) {p : Int} {a n : Nat} (hn : n ≤ X.length) (hc : X.length ≤ 1000000)
include hJ hn hc
theorem pt_loop {i j : Nat} (h : PtI X p a n i j) (K : Out IV → JH → Prop)
  (hK : ∀ Y m, Same X Y a n → Parted Y a m n → K (.ret [nI m, .sc (.bool false)]) (J.setIfInBounds b (.cells 0 (uL Y) false))) :
  WP (onJoinD 2 (iter (dn BI l_slices_partitionOrdered_int32_k10) 3 [.sl b 0 0 X.length cap 1, nI a, nI i, nI j] J) l_slices_partitionOrdered_int32_k11) K := by
 have hb := lt_get hJ
 refine WP_loop (by decide) (fun m vs J' => ∃ Y i j, m = j + 1 - i ∧ vs = [.sl b 0 0 X.length cap 1, nI a, nI i, nI j] ∧ PtI Y p a n i j ∧ Same X Y a n ∧ J' = J.setIfInBounds b (.cells 0 (uL Y) false)) ?_ (j + 1 - i) _ _ ⟨X, i, j, rfl, rfl, h, .refl _ _ _, (set_own hJ).symm⟩
 rintro m vs J1 ⟨Y, i, j, rfl, rfl, hI, hS, rfl⟩ K1 g1 g2 g3
 have hl := hS.len
 have hJY : (J.setIfInBounds b (.cells 0 (uL Y) false))[b]? = some (.cells 0 (uL Y) false) := set_get _ hb
 have hnY : n ≤ Y.length := by omega
 have hcY : Y.length ≤ 1000000 := by omega
 rw [← hl]
 unfold l_slices_partitionOrdered_int32_k10
 simp -implicitDefEqProofs only [go_sem, go_sem_proc, dn_loop]
 refine pt_L5 hJY hnY hcY hI _ K1 fun i' hii hI' hd => ?_
 unfold l_slices_partitionOrdered_int32_k9
 simp -implicitDefEqProofs only [go_sem, go_sem_proc, dn_loop]
 refine pt_L7 hJY hnY hcY hI' _ K1 fun j' hjj hI2 hd2 => ?_
 obtain ⟨a1, a2, a3⟩ := hI2.at'
 obtain ⟨b1, b2, b3⟩ := hI'.at'
 obtain ⟨c1, c2, c3⟩ := hI.at'
 by_cases hij : i' ≤ j'
 ·have hx : Y[i']? = some (Y[i']'(by omega)) := List.getElem?_eq_getElem (by omega)
  have hy : Y[j']? = some (Y[j']'(by omega)) := List.getElem?_eq_getElem (by omega)
  have sw := Same.swap (X := Y) (a := a) (n := n) (i := i') (j := j') hnY ⟨by omega, by omega⟩ ⟨by omega, by omega⟩
  have ex := hI2.exch hnY hij hx hy (hd _ (by omega) hx) (hd2 _ hij hy)
  refine pt_k8x hJY hnY hcY hij (by omega) a3 hx hy K1 ?_
  rw [set_set]
  exact g1 _ (j' - 1 + 1 - (i' + 1)) _ (by omega) ⟨_, i' + 1, j' - 1, rfl, by rw [hl], ex, hS.trans sw, rfl⟩
 ·unfold l_slices_partitionOrdered_int32_k8
  simp -implicitDefEqProofs only [go_sem, go_sem_proc, show ((i' : Int) > (j' : Int)) by omega]
  have hy : Y[j']? = some (Y[j']'(by omega)) := List.getElem?_eq_getElem (by omega)
  have sw := Same.swap (X := Y) (a := a) (n := n) (i := j') (j := a) hnY ⟨by omega, by omega⟩ ⟨by omega, by omega⟩
  have hpa : Y[a]'(by omega) = p := by have := hI2.piv; rw [List.getElem?_eq_getElem (by omega)] at this; exact Option.some.inj this
  rw [hpa] at sw
  refine g2 _ _ (pt_k11 hJY hnY (by omega) a3 hy hI2.piv K ?_)
  rw [set_set]
  exact hK _ j' (hS.trans sw) (hI2.fin hnY hij hy)
end
end Go.Proofs.Ytdclinhgekbejaa.G
namespace Go.Proofs.Ytdclinhgekbejaa.G
open Go
section
variable {X : List Int} {b cap : Nat} {J : JH} (hJ : J[b]? = some (.cells 0 (uL X) false)) {p : Int} {a n : Nat} (hn : n ≤ X.length) (hc : X.length ≤ 1000000)
include hJ hn
theorem pt_k12e {i j : Nat} {x : Int} (hij : ¬ i ≤ j) (ha : a ≤ j) (hj : j < n) (hx : X[j]? = some x) (hp : X[a]? = some p) (K : Out IV → JH → Prop)
  (hK : K (.ret [nI j, .sc (.bool true)]) (J.setIfInBounds b (.cells 0 (uL ((X.set j p).set a x)) false))) :
  WP (dn BI l_slices_partitionOrdered_int32_k12 [.sl b 0 0 X.length cap 1, nI a, nI i, nI j] J) K := by
 unfold l_slices_partitionOrdered_int32_k12
 have e1 : ((uL X).drop j).take 1 = [uI x] := by rw [uL_at X (by omega)]; rw [List.getElem?_eq_getElem (by omega)] at hx; rw [Option.some.inj hx]
 have e2 : ((uL X).drop a).take 1 = [uI p] := by rw [uL_at X (by omega)]; rw [List.getElem?_eq_getElem (by omega)] at hp; rw [Option.some.inj hp]
 have l1 := uL_len X
 have hb := lt_get hJ
 have s1 := uL_set X j p (by omega)
 have s2 := uL_set (X.set j p) a x (by rw [List.length_set]; omega)
 have l2 := uL_len (X.set j p)
 rw [List.length_set] at l2
 have b0 : (b < J.size) = True := by simp [hb]
 have j1 : (0 + j * 1 = j) := by omega
 have j2 : (0 + a * 1 = a) := by omega
 have j3 : (a < X.length) = True := by simp; omega
 have j4 : (j < X.length) = True := by simp; omega
 have u1 : ∀ t, icells (uI t) = [uI t] := fun t => rfl
 have u2 : ∀ t, ione (uI t) = true := fun t => rfl
 have r1 : j + 1 ≤ X.length := by omega
 have r2 : a + 1 ≤ X.length := by omega
 simp -implicitDefEqProofs only [go_sem, go_sem_proc, show ((i : Int) > (j : Int)) by omega, j1, j2, j3, j4, hJ, l1, r1, r2, e1, e2, ↓u1, ↓u2, s1, s2, l2, set_get _ hb, set_set, Array.size_setIfInBounds, b0]
 exact hK
include hc
theorem pt_main (h : PtI X p a n (a + 1) (n - 1)) (K : Out IV → JH → Prop)
  (hK : ∀ Y m f, Same X Y a n → Parted Y a m n → K (.ret [nI m, .sc (.bool f)]) (J.setIfInBounds b (.cells 0 (uL Y) false))) :
  WP (onJoinD 0 (iter (dn BI l_slices_partitionOrdered_int32_k1) 1 [.sl b 0 0 X.length cap 1, nI a, nI (a + 1), nI (n - 1)] J) l_slices_partitionOrdered_int32_k13) K := by
 have hb := lt_get hJ
 refine pt_L1 hJ hn hc h _ K fun i hii hI hd => ?_
 unfold l_slices_partitionOrdered_int32_k13
 simp -implicitDefEqProofs only [go_sem, go_sem_proc, dn_loop]
 refine pt_L3 hJ hn hc hI _ K fun j hjj hI2 hd2 => ?_
 obtain ⟨a1, a2, a3⟩ := hI2.at'
 have hy : X[j]? = some (X[j]'(by omega)) := List.getElem?_eq_getElem (by omega)
 by_cases hij : i ≤ j
 ·have hx : X[i]? = some (X[i]'(by omega)) := List.getElem?_eq_getElem (by omega)
  have sw := Same.swap (X := X) (a := a) (n := n) (i := i) (j := j) hn ⟨by omega, by omega⟩ ⟨by omega, by omega⟩
  have ex := hI2.exch hn hij hx hy (hd _ (by omega) hx) (hd2 _ hij hy)
  refine pt_k12x hJ hn hc hij (by omega) a3 hx hy K ?_
  have hl := sw.len
  have hlp := pt_loop (X := (X.set i (X[j]'(by omega))).set j (X[i]'(by omega))) (cap := cap) (J := J.setIfInBounds b (.cells 0 (uL ((X.set i (X[j]'(by omega))).set j (X[i]'(by omega)))) false)) (set_get _ hb) (by omega) (by omega) ex K fun Y m hS hP => by
   rw [set_set]
   exact hK Y m false (sw.trans hS) hP
  rw [hl] at hlp
  exact hlp
 ·have hpa : X[a]'(by omega) = p := by have := hI2.piv; rw [List.getElem?_eq_getElem (by omega)] at this; exact Option.some.inj this
  have sw := Same.swap (X := X) (a := a) (n := n) (i := j) (j := a) hn ⟨by omega, by omega⟩ ⟨by omega, by omega⟩
  rw [hpa] at sw
  exact pt_k12e hJ hn hij (by omega) a3 hy hI2.piv K (hK _ j true sw (hI2.fin hn hij hy))
theorem Part_ok {q : Nat} (hq : a ≤ q ∧ q < n) : RP (ic BI F_slices_partitionOrdered_int32 [.sl b 0 0 X.length cap 1, nI a, nI n, nI q] J) fun v J' => ∃ (m : Nat) (f : Bool) (Y : List Int), v = .tup [nI m, .sc (.bool f)] ∧ Same X Y a n ∧ Parted Y a m n ∧ J' = J.setIfInBounds b (.cells 0 (uL Y) false) := by
 refine RP_run fn_slices_partitionOrdered_int32 rfl fun K hK => ?_
 unfold l_slices_partitionOrdered_int32
 have e1 : ((uL X).drop q).take 1 = [uI X[q]] := uL_at X (by omega)
 have e2 : ((uL X).drop a).take 1 = [uI X[a]] := uL_at X (by omega)
 have sw := Same.swap (X := X) (a := a) (n := n) (i := a) (j := q) hn ⟨by omega, by omega⟩ hq
 generalize X[q] = x at *
 generalize X[a] = y at *
 have l1 := uL_len X
 have hb := lt_get hJ
 have s1 := uL_set X a x (by omega)
 have s2 := uL_set (X.set a x) q y (by rw [List.length_set]; omega)
 have l2 := uL_len (X.set a x)
 rw [List.length_set] at l2
 have b0 : (b < J.size) = True := by simp [hb]
 have j1 : (0 + q * 1 = q) := by omega
 have j2 : (0 + a * 1 = a) := by omega
 have j3 : (a < X.length) = True := by simp; omega
 have j4 : (q < X.length) = True := by simp; omega
 have u1 : ∀ t, icells (uI t) = [uI t] := fun t => rfl
 have u2 : ∀ t, ione (uI t) = true := fun t => rfl
 have r1 : q + 1 ≤ X.length := by omega
 have r2 : a + 1 ≤ X.length := by omega
 have hw1 : IntKind.i64.wrap ((a : Int) + 1) = ((a + 1 : Nat) : Int) := by rw [wrap_i64 (by omega) (by omega)]; omega
 have hw2 : IntKind.i64.wrap ((n : Int) - 1) = ((n - 1 : Nat) : Int) := by rw [wrap_i64 (by omega) (by omega)]; omega
 simp -implicitDefEqProofs only [go_sem, go_sem_proc, hw1, hw2, j1, j2, j3, j4, hJ, l1, r1, r2, e1, e2, ↓u1, ↓u2, s1, s2, l2, set_get _ hb, set_set, Array.size_setIfInBounds, b0, dn_loop]
 have hl := sw.len
 have hpv : ((X.set a x).set q y)[a]? = some (((X.set a x).set q y)[a]'(by omega)) := List.getElem?_eq_getElem (by omega)
 have hm := pt_main (X := (X.set a x).set q y) (cap := cap) (J := J.setIfInBounds b (.cells 0 (uL ((X.set a x).set q y)) false)) (p := ((X.set a x).set q y)[a]'(by omega)) (a := a) (n := n) (set_get _ hb) (by omega) (by omega) ⟨hpv, fun k v h1 h2 => by omega, fun k v h1 h2 => by omega, by omega⟩ K fun Y m f hS hP => by
  rw [set_set]
  exact hK _ _ ⟨m, f, Y, rfl, sw.trans hS, hP, rfl⟩
 rw [hl] at hm
 exact hm
end
end Go.Proofs.Ytdclinhgekbejaa.G
namespace Go.Proofs.Ytdclinhgekbejaa.G
open Go
structure PeI (X : List Int) (p : Int) (a n i j : Nat) : Prop where
 piv : X[a]? = some p
 lo : ∀ k v, a < k → k < i → X[k]? = some v → v ≤ p
 hi : ∀ k v, j < k → k < n → X[k]? = some v → p < v
 at' : a < i ∧ i ≤ j + 1 ∧ j < n
theorem PeI.up {X : List Int} {p x : Int} {a n i j : Nat} (h : PeI X p a n i j) (hij : i ≤ j) (hx : X[i]? = some x) (hlt : x ≤ p) : PeI X p a n (i + 1) j := by
 refine ⟨h.piv, fun k v h1 h2 hv => ?_, h.hi, by have := h.at'; omega⟩
 by_cases c : k = i
 ·subst c; rw [hx] at hv; cases hv; exact hlt
 ·exact h.lo k v h1 (by omega) hv
theorem PeI.down {X : List Int} {p x : Int} {a n i j : Nat} (h : PeI X p a n i j) (hij : i ≤ j) (hx : X[j]? = some x) (hge : p < x) : PeI X p a n i (j - 1) := by
 refine ⟨h.piv, h.lo, fun k v h1 h2 hv => ?_, by have := h.at'; omega⟩
 by_cases c : k = j
 ·subst c; rw [hx] at hv; cases hv; exact hge
 ·exact h.hi k v (by omega) h2 hv
theorem PeI.exch {X : List Int} {p x y : Int} {a n i j : Nat} (h : PeI X p a n i j) (hn : n ≤ X.length) (hij : i ≤ j) (hx : X[i]? = some x) (hy : X[j]? = some y) (h1 : p < x) (h2 : y ≤ p) : PeI ((X.set i y).set j x) p a n (i + 1) (j - 1) := by
 obtain ⟨a1, a2, a3⟩ := h.at'
 have hne : i ≠ j := by rintro rfl; rw [hx] at hy; cases hy; omega
 have g := fun k => swap_get (X := X) (i := i) (j := j) (x := x) (y := y) (by omega) (by omega) k
 refine ⟨by rw [g, if_neg (by omega), if_neg (by omega)]; exact h.piv, fun k v k1 k2 hv => ?_, fun k v k1 k2 hv => ?_, by omega⟩
 ·rw [g, if_neg (by omega)] at hv
  split at hv
  ·cases hv; exact h2
  ·exact h.lo k v k1 (by omega) hv
 ·rw [g] at hv
  split at hv
  ·cases hv; exact h1
  ·rw [if_neg (by omega)] at hv
   exact h.hi k v (by omega) k2 hv
section
variable {X : List Int} {b cap : Nat} {J : JH} (hJ : J[b]? = some (.cells 0 (uL X) false)) {p : Int} {a n : Nat} (hn : n ≤ X.length) (hc : X.length ≤ 1000000)
include hJ hn hc
theorem pe_up1 {i j : Nat} (h : PeI X p a n i j) (K : Out IV → JH → Prop)
  (h1 : (∀ x, i ≤ j → X[i]? = some x → p < x) → K (.goto 2 [.sl b 0 0 X.length cap 1, nI a, nI i, nI j]) J)
  (h2 : ∀ x, i ≤ j → X[i]? = some x → x ≤ p → K (.goto 3 [.sl b 0 0 X.length cap 1, nI a, nI (i + 1), nI j]) J) :
  WP (dn BI l_slices_partitionEqualOrdered_int32_k1 [.sl b 0 0 X.length cap 1, nI a, nI i, nI j] J) K := by
 unfold l_slices_partitionEqualOrdered_int32_k1
 obtain ⟨a1, a2, a3⟩ := h.at'
 have hp := h.piv
 by_cases hij : i ≤ j
 ·have e1 : ((uL X).drop i).take 1 = [uI X[i]] := uL_at X (by omega)
  have e2 : ((uL X).drop a).take 1 = [uI X[a]] := uL_at X (by omega)
  have g1 : X[i]? = some X[i] := List.getElem?_eq_getElem (by omega)
  have g2 : X[a]? = some X[a] := List.getElem?_eq_getElem (by omega)
  have l1 := uL_len X
  generalize X[i] = x at *
  generalize X[a] = y at *
  obtain rfl : y = p := by rw [hp] at g2; exact (Option.some.inj g2).symm
  have hle := uLess_ok y x
  have hw1 : IntKind.i64.wrap ((i : Int) + 1) = ((i + 1 : Nat) : Int) := by rw [wrap_i64 (by omega) (by omega)]; omega
  have j1 : (0 + i * 1 = i) := by omega
  have j2 : (0 + a * 1 = a) := by omega
  have j3 : (i < X.length) = True := by simp; omega
  have j4 : (a < X.length) = True := by simp; omega
  have r1 : i + 1 ≤ X.length := by omega
  have r2 : a + 1 ≤ X.length := by omega
  by_cases hl2 : y < x
  ·have hl : pc BI F_cmp_Less_int32 [uI y, uI x] = some (.sc (.bool true)) := by rw [hle]; simp [hl2]
   simp -implicitDefEqProofs only [go_sem, go_sem_proc, show ((i : Int) ≤ (j : Int)) by omega, hw1, j1, j2, j3, j4, hJ, l1, r1, r2, e1, e2, dcp hl rfl, l_slices_partitionEqualOrdered_int32_k0]
   exact h1 (fun z _ hz => by rw [g1] at hz; cases hz; exact hl2)
  ·have hl : pc BI F_cmp_Less_int32 [uI y, uI x] = some (.sc (.bool false)) := by rw [hle]; simp [hl2]
   simp -implicitDefEqProofs only [go_sem, go_sem_proc, show ((i : Int) ≤ (j : Int)) by omega, hw1, j1, j2, j3, j4, hJ, l1, r1, r2, e1, e2, dcp hl rfl, l_slices_partitionEqualOrdered_int32_k0]
   exact h2 x hij g1 (by omega)
 ·simp -implicitDefEqProofs only [go_sem, go_sem_proc, show ¬ ((i : Int) ≤ (j : Int)) by omega]
  exact h1 (fun x h => absurd h hij)
theorem pe_down3 {i j : Nat} (h : PeI X p a n i j) (K : Out IV → JH → Prop)
  (h1 : (∀ x, i ≤ j → X[j]? = some x → x ≤ p) → K (.goto 3 [.sl b 0 0 X.length cap 1, nI a, nI i, nI j]) J)
  (h2 : ∀ x, i ≤ j → X[j]? = some x → p < x → K (.goto 4 [.sl b 0 0 X.length cap 1, nI a, nI i, nI (j - 1)]) J) :
  WP (dn BI l_slices_partitionEqualOrdered_int32_k3 [.sl b 0 0 X.length cap 1, nI a, nI i, nI j] J) K := by
 unfold l_slices_partitionEqualOrdered_int32_k3
 obtain ⟨a1, a2, a3⟩ := h.at'
 have hp := h.piv
 by_cases hij : i ≤ j
 ·have e1 : ((uL X).drop j).take 1 = [uI X[j]] := uL_at X (by omega)
  have e2 : ((uL X).drop a).take 1 = [uI X[a]] := uL_at X (by omega)
  have g1 : X[j]? = some X[j] := List.getElem?_eq_getElem (by omega)
  have g2 : X[a]? = some X[a] := List.getElem?_eq_getElem (by omega)
  have l1 := uL_len X
  generalize X[j] = x at *
  generalize X[a] = y at *
  obtain rfl : y = p := by rw [hp] at g2; exact (Option.some.inj g2).symm
  have hle := uLess_ok y x
  have hw1 : IntKind.i64.wrap ((j : Int) - 1) = ((j - 1 : Nat) : Int) := by rw [wrap_i64 (by omega) (by omega)]; omega
  have j1 : (0 + j * 1 = j) := by omega
  have j2 : (0 + a * 1 = a) := by omega
  have j3 : (j < X.length) = True := by simp; omega
  have j4 : (a < X.length) = True := by simp; omega
  have r1 : j + 1 ≤ X.length := by omega
  have r2 : a + 1 ≤ X.length := by omega
  by_cases hl2 : y < x
  ·have hl : pc BI F_cmp_Less_int32 [uI y, uI x] = some (.sc (.bool true)) := by rw [hle]; simp [hl2]
   simp -implicitDefEqProofs only [go_sem, go_sem_proc, show ((i : Int) ≤ (j : Int)) by omega, hw1, j1, j2, j3, j4, hJ, l1, r1, r2, e1, e2, dcp hl rfl, l_slices_partitionEqualOrdered_int32_k2]
   exact h2 x hij g1 hl2
  ·have hl : pc BI F_cmp_Less_int32 [uI y, uI x] = some (.sc (.bool false)) := by rw [hle]; simp [hl2]
   simp -implicitDefEqProofs only [go_sem, go_sem_proc, show ((i : Int) ≤ (j : Int)) by omega, hw1, j1, j2, j3, j4, hJ, l1, r1, r2, e1, e2, dcp hl rfl, l_slices_partitionEqualOrdered_int32_k2]
   exact h1 (fun z _ hz => by rw [g1] at hz; cases hz; omega)
 ·simp -implicitDefEqProofs only [go_sem, go_sem_proc, show ¬ ((i : Int) ≤ (j : Int)) by omega]
  exact h1 (fun x h => absurd h hij)
theorem pe_L1 {i j : Nat} (h : PeI X p a n i j) (body : L) (K : Out IV → JH → Prop)
  (hK : ∀ i', i ≤ i' → PeI X p a n i' j → (∀ x, i' ≤ j → X[i']? = some x → p < x) → WP (dn BI body [.sl b 0 0 X.length cap 1, nI a, nI i', nI j] J) K) :
  WP (onJoinD 2 (iter (dn BI l_slices_partitionEqualOrdered_int32_k1) 3 [.sl b 0 0 X.length cap 1, nI a, nI i, nI j] J) body) K := by
 refine WP_loop (by decide) (fun m vs J' => ∃ i', i ≤ i' ∧ m = j + 1 - i' ∧ vs = [.sl b 0 0 X.length cap 1, nI a, nI i', nI j] ∧ PeI X p a n i' j ∧ J' = J) ?_ (j + 1 - i) _ _ ⟨i, Nat.le_refl _, rfl, rfl, h, rfl⟩
 rintro m vs J1 ⟨i', hii, rfl, rfl, hI, rfl⟩ K1 g1 g2 g3
 refine pe_up1 hJ hn hc hI K1 (fun hd => g2 _ _ (hK i' hii hI hd)) fun x hij hx hlt => ?_
 exact g1 _ (j + 1 - (i' + 1)) _ (by omega) ⟨i' + 1, by omega, rfl, rfl, hI.up hij hx hlt, rfl⟩
theorem pe_L3 {i j : Nat} (h : PeI X p a n i j) (body : L) (K : Out IV → JH → Prop)
  (hK : ∀ j', j' ≤ j → PeI X p a n i j' → (∀ x, i ≤ j' → X[j']? = some x → x ≤ p) → WP (dn BI body [.sl b 0 0 X.length cap 1, nI a, nI i, nI j'] J) K) :
  WP (onJoinD 3 (iter (dn BI l_slices_partitionEqualOrdered_int32_k3) 4 [.sl b 0 0 X.length cap 1, nI a, nI i, nI j] J) body) K := by
 refine WP_loop (by decide) (fun m vs J' => ∃ j', j' ≤ j ∧ m = j' ∧ vs = [.sl b 0 0 X.length cap 1, nI a, nI i, nI j'] ∧ PeI X p a n i j' ∧ J' = J) ?_ j _ _ ⟨j, Nat.le_refl _, rfl, rfl, h, rfl⟩
 rintro m vs J1 ⟨j', hjj, rfl, rfl, hI, rfl⟩ K1 g1 g2 g3
 refine pe_down3 hJ hn hc hI K1 (fun hd => g2 _ _ (hK m hjj hI hd)) fun x hij hx hge => ?_
 exact g1 _ (m - 1) _ (by have := hI.at'; omega) ⟨m - 1, by omega, rfl, rfl, hI.down hij hx hge, rfl⟩
theorem pe_k4x {i j : Nat} {x y : Int} (hij : i ≤ j) (h0 : 0 < j) (hj : j < n) (hx : X[i]? = some x) (hy : X[j]? = some y) (K : Out IV → JH → Prop)
  (hK : K (.goto 1 [.sl b 0 0 X.length cap 1, nI a, nI (i + 1), nI (j - 1)]) (J.setIfInBounds b (.cells 0 (uL ((X.set i y).set j x)) false))) :
  WP (dn BI l_slices_partitionEqualOrdered_int32_k4 [.sl b 0 0 X.length cap 1, nI a, nI i, nI j] J) K := by
 unfold l_slices_partitionEqualOrdered_int32_k4
 have e1 : ((uL X).drop j).take 1 = [uI y] := by rw [uL_at X (by omega)]; rw [List.getElem?_eq_getElem (by omega)] at hy; rw [Option.some.inj hy]
 have e2 : ((uL X).drop i).take 1 = [uI x] := by rw [uL_at X (by omega)]; rw [List.getElem?_eq_getElem (by omega)] at hx; rw [Option.some.inj hx]
 have l1 := uL_len X
 have hb := lt_get hJ
 have s1 := uL_set X i y (by omega)
 have s2 := uL_set (X.set i y) j x (by rw [List.length_set]; omega)
 have l2 := uL_len (X.set i y)
 rw [List.length_set] at l2
 have b0 : (b < J.size) = True := by simp [hb]
 have j1 : (0 + j * 1 = j) := by omega
 have j2 : (0 + i * 1 = i) := by omega
 have j3 : (i < X.length) = True := by simp; omega
 have j4 : (j < X.length) = True := by simp; omega
 have u1 : ∀ t, icells (uI t) = [uI t] := fun t => rfl
 have u2 : ∀ t, ione (uI t) = true := fun t => rfl
 have r1 : j + 1 ≤ X.length := by omega
 have r2 : i + 1 ≤ X.length := by omega
 have hw1 : IntKind.i64.wrap ((i : Int) + 1) = ((i + 1 : Nat) : Int) := by rw [wrap_i64 (by omega) (by omega)]; omega
 have hw2 : IntKind.i64.wrap ((j : Int) - 1) = ((j - 1 : Nat) : Int) := by rw [wrap_i64 (by omega) (by omega)]; omega
 simp -implicitDefEqProofs only [go_sem, go_sem_proc, show ¬ ((i : Int) > (j : Int)) by omega, hw1, hw2, j1, j2, j3, j4, hJ, l1, r1, r2, e1, e2, ↓u1, ↓u2, s1, s2, l2, set_get _ hb, set_set, Array.size_setIfInBounds, b0]
 exact hK
theorem pe_loop {i j : Nat} (h : PeI X p a n i j) (K : Out IV → JH → Prop)
  (hK : ∀ Y i j, Same X Y a n → PeI Y p a n i j → ¬ i ≤ j → K (.ret [nI i]) (J.setIfInBounds b (.cells 0 (uL Y) false))) :
  WP (onJoinD 0 (iter (dn BI l_slices_partitionEqualOrdered_int32_k6) 1 [.sl b 0 0 X.length cap 1, nI a, nI i, nI j] J) l_slices_partitionEqualOrdered_int32_k7) K := by
 have hb := lt_get hJ
 refine WP_loop (by decide) (fun m vs J' => ∃ Y i j, m = j + 1 - i ∧ vs = [.sl b 0 0 X.length cap 1, nI a, nI i, nI j] ∧ PeI Y p a n i j ∧ Same X Y a n ∧ J' = J.setIfInBounds b (.cells 0 (uL Y) false)) ?_ (j + 1 - i) _ _ ⟨X, i, j, rfl, rfl, h, .refl _ _ _, (set_own hJ).symm⟩
 rintro m vs J1 ⟨Y, i, j, rfl, rfl, hI, hS, rfl⟩ K1 g1 g2 g3
 have hl := hS.len
 have hJY : (J.setIfInBounds b (.cells 0 (uL Y) false))[b]? = some (.cells 0 (uL Y) false) := set_get _ hb
 have hnY : n ≤ Y.length := by omega
 have hcY : Y.length ≤ 1000000 := by omega
 rw [← hl]
 unfold l_slices_partitionEqualOrdered_int32_k6
 simp -implicitDefEqProofs only [go_sem, go_sem_proc, dn_loop]
 refine pe_L1 hJY hnY hcY hI _ K1 fun i' hii hI' hd => ?_
 unfold l_slices_partitionEqualOrdered_int32_k5
 simp -implicitDefEqProofs only [go_sem, go_sem_proc, dn_loop]
 refine pe_L3 hJY hnY hcY hI' _ K1 fun j' hjj hI2 hd2 => ?_
 obtain ⟨a1, a2, a3⟩ := hI2.at'
 by_cases hij : i' ≤ j'
 ·have hx : Y[i']? = some (Y[i']'(by omega)) := List.getElem?_eq_getElem (by omega)
  have hy : Y[j']? = some (Y[j']'(by omega)) := List.getElem?_eq_getElem (by omega)
  have sw := Same.swap (X := Y) (a := a) (n := n) (i := i') (j := j') hnY ⟨by omega, by omega⟩ ⟨by omega, by omega⟩
  have ex := hI2.exch hnY hij hx hy (hd _ (by omega) hx) (hd2 _ hij hy)
  refine pe_k4x hJY hnY hcY hij (by omega) a3 hx hy K1 ?_
  rw [set_set]
  exact g1 _ (j' - 1 + 1 - (i' + 1)) _ (by omega) ⟨_, i' + 1, j' - 1, rfl, by rw [hl], ex, hS.trans sw, rfl⟩
 ·unfold l_slices_partitionEqualOrdered_int32_k4
  simp -implicitDefEqProofs only [go_sem, go_sem_proc, show ((i' : Int) > (j' : Int)) by omega]
  refine g2 _ _ ?_
  unfold l_slices_partitionEqualOrdered_int32_k7
  simp -implicitDefEqProofs only [go_sem, go_sem_proc]
  exact hK Y i' j' hS hI2 hij
theorem PartEq_ok {q : Nat} (hq : a ≤ q ∧ q < n) {x : Int} (hpq : X[q]? = some x) : RP (ic BI F_slices_partitionEqualOrdered_int32 [.sl b 0 0 X.length cap 1, nI a, nI n, nI q] J) fun v J' => ∃ (m : Nat) (Y : List Int), v = nI m ∧ Same X Y a n ∧ a < m ∧ m ≤ n ∧ (∀ k v, a ≤ k → k < m → Y[k]? = some v → v ≤ x) ∧ (∀ k v, m ≤ k → k < n → Y[k]? = some v → x < v) ∧ J' = J.setIfInBounds b (.cells 0 (uL Y) false) := by
 refine RP_run fn_slices_partitionEqualOrdered_int32 rfl fun K hK => ?_
 unfold l_slices_partitionEqualOrdered_int32
 obtain ⟨y, hxy⟩ : ∃ y, X[a]? = some y := ⟨_, List.getElem?_eq_getElem (by omega)⟩
 have sw := Same.swap (X := X) (a := a) (n := n) (i := a) (j := q) hn ⟨by omega, by omega⟩ hq
 have q1 : X[q]'(by omega) = x := by rw [List.getElem?_eq_getElem (by omega)] at hpq; exact Option.some.inj hpq
 have q2 : X[a]'(by omega) = y := by rw [List.getElem?_eq_getElem (by omega)] at hxy; exact Option.some.inj hxy
 rw [q1, q2] at sw
 have hx := hxy
 have hy := hpq
 have e1 : ((uL X).drop q).take 1 = [uI x] := by rw [uL_at X (by omega)]; rw [List.getElem?_eq_getElem (by omega)] at hy; rw [Option.some.inj hy]
 have e2 : ((uL X).drop a).take 1 = [uI y] := by rw [uL_at X (by omega)]; rw [List.getElem?_eq_getElem (by omega)] at hx; rw [Option.some.inj hx]
 have l1 := uL_len X
 have hb := lt_get hJ
 have s1 := uL_set X a x (by omega)
 have s2 := uL_set (X.set a x) q y (by rw [List.length_set]; omega)
 have l2 := uL_len (X.set a x)
 rw [List.length_set] at l2
 have b0 : (b < J.size) = True := by simp [hb]
 have j1 : (0 + q * 1 = q) := by omega
 have j2 : (0 + a * 1 = a) := by omega
 have j3 : (a < X.length) = True := by simp; omega
 have j4 : (q < X.length) = True := by simp; omega
 have u1 : ∀ t, icells (uI t) = [uI t] := fun t => rfl
 have u2 : ∀ t, ione (uI t) = true := fun t => rfl
 have r1 : q + 1 ≤ X.length := by omega
 have r2 : a + 1 ≤ X.length := by omega
 have hw1 : IntKind.i64.wrap ((a : Int) + 1) = ((a + 1 : Nat) : Int) := by rw [wrap_i64 (by omega) (by omega)]; omega
 have hw2 : IntKind.i64.wrap ((n : Int) - 1) = ((n - 1 : Nat) : Int) := by rw [wrap_i64 (by omega) (by omega)]; omega
 simp -implicitDefEqProofs only [go_sem, go_sem_proc, hw1, hw2, j1, j2, j3, j4, hJ, l1, r1, r2, e1, e2, ↓u1, ↓u2, s1, s2, l2, set_get _ hb, set_set, Array.size_setIfInBounds, b0, dn_loop]
 have hl := sw.len
 have hpv : ((X.set a x).set q y)[a]? = some x := by
  rw [swap_get (by omega) (by omega)]
  split
  ·rename_i e; subst e; rw [hpq] at hxy; exact hxy.symm
  ·rw [if_pos rfl]
 have hm := pe_loop (X := (X.set a x).set q y) (cap := cap) (J := J.setIfInBounds b (.cells 0 (uL ((X.set a x).set q y)) false)) (p := x) (a := a) (n := n) (set_get _ hb) (by omega) (by omega) (i := a + 1) (j := n - 1) ⟨hpv, fun k v h1 h2 => by omega, fun k v h1 h2 => by omega, by omega⟩ K fun Y i j hS hP hij => by
  obtain ⟨a1, a2, a3⟩ := hP.at'
  rw [set_set]
  refine hK _ _ ⟨i, Y, rfl, sw.trans hS, a1, by omega, fun k v h1 h2 hv => ?_, fun k v h1 h2 hv => hP.hi k v (by omega) h2 hv, rfl⟩
  by_cases c : k = a
  ·subst c; rw [hP.piv] at hv; cases hv; exact Int.le_refl _
  ·exact hP.lo k v (by omega) h2 hv
 rw [hl] at hm
 exact hm
end
end Go.Proofs.Ytdclinhgekbejaa.G
namespace Go.Proofs.Ytdclinhgekbejaa.G
open Go
theorem xor_ok {J : JH} {r : Nat} {z : Int} (hr : J[r]? = some (.cells 0 [.int .u64 z] false)) : RP (ic BI F_slices_xorshift_Next [.ptr r 0 0] J) fun v J' => ∃ z', v = .int .u64 z' ∧ J' = J.setIfInBounds r (.cells 0 [.int .u64 z'] false) := by
 refine RP_run fn_slices_xorshift_Next rfl fun K hK => ?_
 unfold l_slices_xorshift_Next
 have hb := lt_get hr
 have b0 : (r < J.size) = True := by simp [hb]
 simp -implicitDefEqProofs only [go_sem, go_sem_proc, iisNil, hr, inb hr, set_get _ hb, set_set, Array.size_setIfInBounds, b0]
 exact hK _ _ ⟨_, rfl, rfl⟩
theorem and_le (a : Int) (m : Nat) (hm : m < 18446744073709551616) : ((BitVec.ofInt 64 a &&& BitVec.ofInt 64 (m : Int)).toNat) ≤ m := by
 rw [BitVec.toNat_and]
 refine Nat.le_trans Nat.and_le_right ?_
 simp
 exact Nat.mod_le _ _
section
variable {X : List Int} {b cap : Nat} {J : JH} (hJ : J[b]? = some (.cells 0 (uL X) false)) {a n : Nat} (hn : n ≤ X.length) (hc : X.length ≤ 1000000)
include hJ hn hc
theorem bp_k0 {d r q i t : Nat} {x y : Int} (hi : a ≤ i ∧ i < n) (ht : a + t < n) (hx : X[i]? = some x) (hy : X[a + t]? = some y) (K : Out IV → JH → Prop)
  (hK : K (.goto 0 [.sl b 0 0 X.length cap 1, nI a, nI d, .ptr r 0 0, .int .u64 (q : Int), nI (i + 1)]) (J.setIfInBounds b (.cells 0 (uL ((X.set i y).set (a + t) x)) false))) :
  WP (dn BI l_slices_breakPatternsOrdered_int32_k0 [.sl b 0 0 X.length cap 1, nI a, nI d, .ptr r 0 0, .int .u64 (q : Int), nI i, nI t] J) K := by
 unfold l_slices_breakPatternsOrdered_int32_k0
 have hw0 : IntKind.i64.wrap ((a : Int) + (t : Int)) = ((a + t : Nat) : Int) := by rw [wrap_i64 (by omega) (by omega)]; omega
 generalize a + t = j at *
 have e1 : ((uL X).drop j).take 1 = [uI y] := by rw [uL_at X (by omega)]; rw [List.getElem?_eq_getElem (by omega)] at hy; rw [Option.some.inj hy]
 have e2 : ((uL X).drop i).take 1 = [uI x] := by rw [uL_at X (by omega)]; rw [List.getElem?_eq_getElem (by omega)] at hx; rw [Option.some.inj hx]
 have l1 := uL_len X
 have hb := lt_get hJ
 have s1 := uL_set X i y (by omega)
 have s2 := uL_set (X.set i y) j x (by rw [List.length_set]; omega)
 have l2 := uL_len (X.set i y)
 rw [List.length_set] at l2
 have b0 : (b < J.size) = True := by simp [hb]
 have j1 : (0 + j * 1 = j) := by omega
 have j2 : (0 + i * 1 = i) := by omega
 have j3 : (i < X.length) = True := by simp; omega
 have j4 : (j < X.length) = True := by simp; omega
 have u1 : ∀ t, icells (uI t) = [uI t] := fun t => rfl
 have u2 : ∀ t, ione (uI t) = true := fun t => rfl
 have r1 : j + 1 ≤ X.length := by omega
 have r2 : i + 1 ≤ X.length := by omega
 have hw1 : IntKind.i64.wrap ((i : Int) + 1) = ((i + 1 : Nat) : Int) := by rw [wrap_i64 (by omega) (by omega)]; omega
 simp -implicitDefEqProofs only [go_sem, go_sem_proc, hw0, hw1, j1, j2, j3, j4, hJ, l1, r1, r2, e1, e2, ↓u1, ↓u2, s1, s2, l2, set_get _ hb, set_set, Array.size_setIfInBounds, b0]
 exact hK
end
end Go.Proofs.Ytdclinhgekbejaa.G
namespace Go.Proofs.Ytdclinhgekbejaa.G
open Go
def HpAt (X : List Int) (a h i : Nat) : Prop := ∀ c, (c = 2 * i + 1 ∨ c = 2 * i + 2) → c < h → ∀ u v, X[a + i]? = some u → X[a + c]? = some v → v ≤ u
def Hp (X : List Int) (a lo h : Nat) : Prop := ∀ i, lo ≤ i → i < h → HpAt X a h i
theorem Hp.top {X : List Int} {a h : Nat} (hp : Hp X a 0 h) (hl : a + h ≤ X.length) {u : Int} (hu : X[a]? = some u) : ∀ j, j < h → ∀ v, X[a + j]? = some v → v ≤ u := by
 intro j
 induction j using Nat.strongRecOn with
 | ind j ih =>
  intro hj v hv
  by_cases h0 : j = 0
  ·subst h0; rw [Nat.add_zero, hu] at hv; have := Option.some.inj hv; omega
  ·have hw : X[a + (j - 1) / 2]? = some (X[a + (j - 1) / 2]'(by omega)) := List.getElem?_eq_getElem _
   have h1 := ih ((j - 1) / 2) (by omega) (by omega) _ hw
   have h2 := hp ((j - 1) / 2) (by omega) (by omega) j (by omega) hj _ v hw hv
   omega
structure SftI (X Y : List Int) (a lo h r : Nat) : Prop where
 same : Same X Y (a + lo) (a + h)
 low : lo ≤ r
 oth : ∀ i, lo ≤ i → i < h → i ≠ r → HpAt Y a h i
 par : ∀ p, lo ≤ p → (r = 2 * p + 1 ∨ r = 2 * p + 2) → ∀ c, (c = 2 * r + 1 ∨ c = 2 * r + 2) → c < h → ∀ u v, Y[a + p]? = some u → Y[a + c]? = some v → v ≤ u
theorem SftI.fin {X Y : List Int} {a lo h r : Nat} (i : SftI X Y a lo h r) (hr : r < h → HpAt Y a h r) : Hp Y a lo h := by
 intro j h1 h2
 by_cases e : j = r
 ·subst e; exact hr h2
 ·exact i.oth j h1 h2 e
theorem SftI.step {X Y : List Int} {a lo h r c : Nat} (i : SftI X Y a lo h r) (hl : a + h ≤ Y.length) (hc : c = 2 * r + 1 ∨ c = 2 * r + 2) (hch : c < h) {x y : Int} (hx : Y[a + r]? = some x) (hy : Y[a + c]? = some y) (hlt : x < y)
  (hd : ∀ d, (d = 2 * r + 1 ∨ d = 2 * r + 2) → d < h → ∀ v, Y[a + d]? = some v → v ≤ y) : SftI X ((Y.set (a + r) y).set (a + c) x) a lo h c := by
 have hlow := i.low
 have hrl : a + r < Y.length := by omega
 have hcl : a + c < Y.length := by omega
 have sw := Same.swap (X := Y) (a := a + lo) (n := a + h) (i := a + r) (j := a + c) (by omega) ⟨by omega, by omega⟩ ⟨by omega, by omega⟩
 have ex : Y[a + r]'hrl = x := by rw [List.getElem?_eq_getElem hrl] at hx; exact Option.some.inj hx
 have ey : Y[a + c]'hcl = y := by rw [List.getElem?_eq_getElem hcl] at hy; exact Option.some.inj hy
 rw [ex, ey] at sw
 have g : ∀ k, ((Y.set (a + r) y).set (a + c) x)[a + k]? = if k = c then some x else if k = r then some y else Y[a + k]? := fun k => by
  by_cases e1 : k = c
  ·subst e1; rw [if_pos rfl, List.getElem?_set_self (by rw [List.length_set]; omega)]
  ·rw [if_neg e1, List.getElem?_set_ne (by omega)]
   by_cases e2 : k = r
   ·subst e2; rw [if_pos rfl, List.getElem?_set_self (by omega)]
   ·rw [if_neg e2, List.getElem?_set_ne (by omega)]
 refine ⟨i.same.trans sw, by omega, fun j h1 h2 hne d hd' hdh u v hu hv => ?_, fun p h1 h2 d hd' hdh u v hu hv => ?_⟩
 ·rw [g] at hu hv
  by_cases e2 : j = r
  ·subst e2
   rw [if_neg hne, if_pos rfl] at hu
   obtain rfl := Option.some.inj hu
   by_cases e3 : d = c
   ·subst e3; rw [if_pos rfl] at hv; have := Option.some.inj hv; omega
   ·rw [if_neg e3, if_neg (by omega)] at hv
    exact hd d hd' hdh v hv
  ·rw [if_neg hne, if_neg e2] at hu
   have e3 : d ≠ c := by omega
   rw [if_neg e3] at hv
   by_cases e4 : d = r
   ·rw [if_pos e4] at hv
    obtain rfl := Option.some.inj hv
    exact i.par j h1 (by omega) c hc hch u y hu hy
   ·rw [if_neg e4] at hv
    exact i.oth j h1 h2 e2 d hd' hdh u v hu hv
 ·have e1 : p = r := by omega
  subst e1
  rw [g] at hu hv
  rw [if_neg (by omega), if_pos rfl] at hu
  rw [if_neg (by omega), if_neg (by omega)] at hv
  obtain rfl := Option.some.inj hu
  exact i.oth c (by omega) hch (by omega) d hd' hdh y v hy hv
section
variable {b cap a lo h : Nat}
theorem sift_k0 {Y : List Int} {J : JH} (hJ : J[b]? = some (.cells 0 (uL Y) false)) {r c : Nat} (hr : a + r < Y.length) (hcl : a + c < Y.length) (hb : Y.length ≤ 1000000) {x y : Int} (hx : Y[a + r]? = some x) (hy : Y[a + c]? = some y) (K : Out IV → JH → Prop)
  (h1 : ¬ x < y → K (.ret []) J) (h2 : x < y → K (.goto 0 [.sl b 0 0 Y.length cap 1, nI h, nI a, nI c]) (J.setIfInBounds b (.cells 0 (uL ((Y.set (a + r) y).set (a + c) x)) false))) :
  WP (dn BI l_slices_siftDownOrdered_int32_k0 [.sl b 0 0 Y.length cap 1, nI h, nI a, nI r, nI c] J) K := by
 unfold l_slices_siftDownOrdered_int32_k0
 have w1 : IntKind.i64.wrap ((a : Int) + (r : Int)) = ((a + r : Nat) : Int) := by rw [wrap_i64 (by omega) (by omega)]; omega
 have w2 : IntKind.i64.wrap ((a : Int) + (c : Int)) = ((a + c : Nat) : Int) := by rw [wrap_i64 (by omega) (by omega)]; omega
 generalize a + r = p at *
 generalize a + c = q at *
 have e1 : ((uL Y).drop p).take 1 = [uI x] := by rw [uL_at Y hr]; rw [List.getElem?_eq_getElem hr] at hx; rw [Option.some.inj hx]
 have e2 : ((uL Y).drop q).take 1 = [uI y] := by rw [uL_at Y hcl]; rw [List.getElem?_eq_getElem hcl] at hy; rw [Option.some.inj hy]
 have l1 := uL_len Y
 have hbb := lt_get hJ
 have s1 := uL_set Y p y (by omega)
 have s2 := uL_set (Y.set p y) q x (by rw [List.length_set]; omega)
 have l2 := uL_len (Y.set p y)
 rw [List.length_set] at l2
 have b0 : (b < J.size) = True := by simp [hbb]
 have j1 : (0 + p * 1 = p) := by omega
 have j2 : (0 + q * 1 = q) := by omega
 have j3 : (p < Y.length) = True := by simp; omega
 have j4 : (q < Y.length) = True := by simp; omega
 have u1 : ∀ t, icells (uI t) = [uI t] := fun t => rfl
 have u2 : ∀ t, ione (uI t) = true := fun t => rfl
 have r1 : p + 1 ≤ Y.length := by omega
 have r2 : q + 1 ≤ Y.length := by omega
 have hless := uLess_ok x y
 by_cases hlt : x < y
 ·have hl : pc BI F_cmp_Less_int32 [uI x, uI y] = some (.sc (.bool true)) := by rw [hless]; simp [hlt]
  have h2' := h2 hlt
  simp -implicitDefEqProofs only [go_sem, go_sem_proc, w1, w2, j1, j2, j3, j4, hJ, l1, r1, r2, e1, e2, dcp hl rfl, ↓u1, ↓u2, s1, s2, l2, set_get _ hbb, set_set, Array.size_setIfInBounds, b0]
  exact h2'
 ·have hl : pc BI F_cmp_Less_int32 [uI x, uI y] = some (.sc (.bool false)) := by rw [hless]; simp [hlt]
  have h1' := h1 hlt
  simp -implicitDefEqProofs only [go_sem, go_sem_proc, w1, w2, j1, j2, j3, j4, hJ, l1, r1, r2, e1, e2, dcp hl rfl]
  exact h1'
theorem sift_round {X Y : List Int} {J : JH} (hJ : J[b]? = some (.cells 0 (uL Y) false)) (hl : a + h ≤ Y.length) (hb : Y.length ≤ 1000000) {r : Nat} (hrh : r < h) (hI : SftI X Y a lo h r) (K : Out IV → JH → Prop)
  (h1 : Hp Y a lo h → K (.ret []) J) (h2 : ∀ c Z, r < c → c < h → SftI X Z a lo h c → K (.goto 0 [.sl b 0 0 Y.length cap 1, nI h, nI a, nI c]) (J.setIfInBounds b (.cells 0 (uL Z) false))) :
  WP (dn BI l_slices_siftDownOrdered_int32_k1 [.sl b 0 0 Y.length cap 1, nI h, nI a, nI r] J) K := by
 unfold l_slices_siftDownOrdered_int32_k1
 have w1 : IntKind.i64.wrap (2 * (r : Int)) = ((2 * r : Nat) : Int) := by rw [wrap_i64 (by omega) (by omega)]; omega
 have w2 : IntKind.i64.wrap (((2 * r : Nat) : Int) + 1) = ((2 * r + 1 : Nat) : Int) := by rw [wrap_i64 (by omega) (by omega)]; omega
 have w3 : IntKind.i64.wrap (((2 * r + 1 : Nat) : Int) + 1) = ((2 * r + 2 : Nat) : Int) := by rw [wrap_i64 (by omega) (by omega)]; omega
 by_cases c1 : 2 * r + 1 < h
 ·obtain ⟨x, hx⟩ : ∃ x, Y[a + r]? = some x := ⟨_, List.getElem?_eq_getElem (by omega)⟩
  obtain ⟨y, hy⟩ : ∃ y, Y[a + (2 * r + 1)]? = some y := ⟨_, List.getElem?_eq_getElem (by omega)⟩
  -- behind the choice of the greater one
  have fin : ∀ c z, (c = 2 * r + 1 ∨ c = 2 * r + 2) → c < h → Y[a + c]? = some z → (∀ d, (d = 2 * r + 1 ∨ d = 2 * r + 2) → d < h → ∀ v, Y[a + d]? = some v → v ≤ z) → WP (dn BI l_slices_siftDownOrdered_int32_k0 [.sl b 0 0 Y.length cap 1, nI h, nI a, nI r, nI c] J) K := fun c z hc hch hz hd =>
   sift_k0 hJ (by omega) (by omega) hb hx hz K
    (fun hno => h1 (hI.fin fun _ d hd' hdh u v hu hv => by
     rw [hx] at hu; obtain rfl := Option.some.inj hu
     have := hd d hd' hdh v hv; omega))
    (fun hlt => h2 c _ (by omega) hch (hI.step hl hc hch hx hz hlt hd))
  by_cases c2 : 2 * r + 2 < h
  ·obtain ⟨z, hz⟩ : ∃ z, Y[a + (2 * r + 2)]? = some z := ⟨_, List.getElem?_eq_getElem (by omega)⟩
   have w4 : IntKind.i64.wrap ((a : Int) + ((2 * r + 1 : Nat) : Int)) = ((a + (2 * r + 1) : Nat) : Int) := by rw [wrap_i64 (by omega) (by omega)]; omega
   have w5 : IntKind.i64.wrap (((a + (2 * r + 1) : Nat) : Int) + 1) = ((a + (2 * r + 2) : Nat) : Int) := by rw [wrap_i64 (by omega) (by omega)]; omega
   have hp : a + (2 * r + 1) < Y.length := by omega
   have hq : a + (2 * r + 2) < Y.length := by omega
   have e1 : ((uL Y).drop (a + (2 * r + 1))).take 1 = [uI y] := by rw [uL_at Y hp]; rw [List.getElem?_eq_getElem hp] at hy; rw [Option.some.inj hy]
   have e2 : ((uL Y).drop (a + (2 * r + 2))).take 1 = [uI z] := by rw [uL_at Y hq]; rw [List.getElem?_eq_getElem hq] at hz; rw [Option.some.inj hz]
   have f1 := fin (2 * r + 1) y (.inl rfl) c1 hy
   have f2 := fin (2 * r + 2) z (.inr rfl) c2 hz
   have k1 : (((2 * r + 1 : Nat) : Int) ≥ (h : Int)) = False := by simp; omega
   have k2 : (((2 * r + 2 : Nat) : Int) < (h : Int)) := by omega
   generalize hpg : a + (2 * r + 1) = p at *
   generalize hqg : a + (2 * r + 2) = q at *
   have l1 := uL_len Y
   have j1 : (0 + p * 1 = p) := by omega
   have j2 : (0 + q * 1 = q) := by omega
   have j3 : (p < Y.length) = True := by simp; omega
   have j4 : (q < Y.length) = True := by simp; omega
   have r1 : p + 1 ≤ Y.length := by omega
   have r2 : q + 1 ≤ Y.length := by omega
   have hless := uLess_ok y z
   have all2 : ∀ d, (d = 2 * r + 1 ∨ d = 2 * r + 2) → ∀ v, Y[a + d]? = some v → v = y ∨ v = z := fun d hd v hv => by
    rcases hd with rfl | rfl
    ·rw [hpg, hy] at hv; exact .inl (Option.some.inj hv).symm
    ·rw [hqg, hz] at hv; exact .inr (Option.some.inj hv).symm
   by_cases hlt : y < z
   ·have hl : pc BI F_cmp_Less_int32 [uI y, uI z] = some (.sc (.bool true)) := by rw [hless]; simp [hlt]
    have f2' := f2 fun d hd _ v hv => by rcases all2 d hd v hv with rfl | rfl <;> omega
    simp -implicitDefEqProofs only [go_sem, go_sem_proc, w1, w2, w3, w4, w5, k1, k2, j1, j2, j3, j4, hJ, l1, r1, r2, e1, e2, dcp hl rfl]
    exact f2'
   ·have hl : pc BI F_cmp_Less_int32 [uI y, uI z] = some (.sc (.bool false)) := by rw [hless]; simp [hlt]
    have f1' := f1 fun d hd _ v hv => by rcases all2 d hd v hv with rfl | rfl <;> omega
    simp -implicitDefEqProofs only [go_sem, go_sem_proc, w1, w2, w3, w4, w5, k1, k2, j1, j2, j3, j4, hJ, l1, r1, r2, e1, e2, dcp hl rfl]
    exact f1'
  ·have f1 := fin (2 * r + 1) y (.inl rfl) c1 hy fun d hd hdh v hv => by
    obtain rfl : d = 2 * r + 1 := by omega
    rw [hy] at hv; have := Option.some.inj hv; omega
   have k1 : (((2 * r + 1 : Nat) : Int) ≥ (h : Int)) = False := by simp; omega
   have k2 : (((2 * r + 2 : Nat) : Int) < (h : Int)) = False := by simp; omega
   simp -implicitDefEqProofs only [go_sem, go_sem_proc, w1, w2, w3, k1, k2]
   exact f1
 ·have k1 : (((2 * r + 1 : Nat) : Int) ≥ (h : Int)) := by omega
  simp -implicitDefEqProofs only [go_sem, go_sem_proc, w1, w2, k1]
  exact h1 (hI.fin fun _ d hd hdh => by omega)
theorem Sift_ok {X : List Int} {J : JH} (hJ : J[b]? = some (.cells 0 (uL X) false)) (hl : a + h ≤ X.length) (hb : X.length ≤ 1000000) (hp : Hp X a (lo + 1) h) (hlo : lo ≤ 1000000) :
  RP (ic BI F_slices_siftDownOrdered_int32 [.sl b 0 0 X.length cap 1, nI lo, nI h, nI a] J) fun v J' => ∃ Y, Same X Y (a + lo) (a + h) ∧ Hp Y a lo h ∧ J' = J.setIfInBounds b (.cells 0 (uL Y) false) := by
 refine RP_run fn_slices_siftDownOrdered_int32 rfl fun K hK => ?_
 unfold l_slices_siftDownOrdered_int32
 simp -implicitDefEqProofs only [go_sem, go_sem_proc, dn_loop]
 have hbb := lt_get hJ
 refine WP_iter (fun m vs J' => ∃ r Y, m = h - r ∧ (r < h ∨ r = lo) ∧ vs = [.sl b 0 0 X.length cap 1, nI h, nI a, nI r] ∧ SftI X Y a lo h r ∧ J' = J.setIfInBounds b (.cells 0 (uL Y) false)) ?_ (h - lo) _ _ ⟨lo, X, rfl, .inr rfl, rfl, ⟨.refl _ _ _, Nat.le_refl _, fun i h1 h2 h3 => hp i (by omega) h2, fun p h1 h2 => by omega⟩, (set_own hJ).symm⟩
 rintro m vs J1 ⟨r, Y, rfl, hrr, rfl, hI, rfl⟩ K1 g1 g2 g3
 have hlen := hI.same.len
 by_cases hrh : r < h
 ·have := sift_round (cap := cap) (b := b) (J := J.setIfInBounds b (.cells 0 (uL Y) false)) (set_get _ hbb) (by omega) (by omega) hrh hI K1 (fun hH => g3 _ _ (hK _ _ ⟨Y, hI.same, hH, rfl⟩)) (fun c Z h1 h2 hZ => by
   rw [hlen, set_set]
   exact g1 _ (h - c) _ (by omega) ⟨c, Z, rfl, .inl h2, rfl, hZ, rfl⟩)
  rw [hlen] at this
  exact this
 ·unfold l_slices_siftDownOrdered_int32_k1
  have w1 : IntKind.i64.wrap (2 * (r : Int)) = ((2 * r : Nat) : Int) := by rw [wrap_i64 (by omega) (by omega)]; omega
  have w2 : IntKind.i64.wrap (((2 * r : Nat) : Int) + 1) = ((2 * r + 1 : Nat) : Int) := by rw [wrap_i64 (by omega) (by omega)]; omega
  simp -implicitDefEqProofs only [go_sem, go_sem_proc, w1, w2, show (((2 * r + 1 : Nat) : Int) ≥ (h : Int)) by omega]
  exact g3 _ _ (hK _ _ ⟨Y, hI.same, hI.fin (fun hh => absurd hh hrh), rfl⟩)
end
end Go.Proofs.Ytdclinhgekbejaa.G
namespace Go.Proofs.Ytdclinhgekbejaa.G
open Go
structure HpS (X Y : List Int) (a n m : Nat) : Prop where
 same : Same X Y a n
 heap : Hp Y a 0 m
 up : Rises Y (a + m) n
 cut : ∀ i j u v, a ≤ i → i < a + m → a + m ≤ j → j < n → Y[i]? = some u → Y[j]? = some v → u ≤ v
section
variable {b cap a n : Nat}
theorem pop_round {X Y : List Int} {J : JH} (hJ : J[b]? = some (.cells 0 (uL Y) false)) (hn : n ≤ Y.length) (hb : Y.length ≤ 1000000) {m : Nat} (hm : a + m < n) (hI : HpS X Y a n (m + 1)) (K : Out IV → JH → Prop)
  (hK : ∀ Z, HpS X Z a n m → K (.goto 1 [.sl b 0 0 Y.length cap 1, nI a, nI 0, .int .i64 ((m : Int) - 1)]) (J.setIfInBounds b (.cells 0 (uL Z) false))) :
  WP (dn BI l_slices_heapSortOrdered_int32_k1 [.sl b 0 0 Y.length cap 1, nI a, nI 0, nI m] J) K := by
 unfold l_slices_heapSortOrdered_int32_k1
 have w1 : IntKind.i64.wrap ((a : Int) + (m : Int)) = ((a + m : Nat) : Int) := by rw [wrap_i64 (by omega) (by omega)]; omega
 have w2 : IntKind.i64.wrap ((m : Int) - 1) = (m : Int) - 1 := wrap_i64 (by omega) (by omega)
 obtain ⟨x, hx⟩ : ∃ x, Y[a]? = some x := ⟨_, List.getElem?_eq_getElem (by omega)⟩
 obtain ⟨y, hy⟩ : ∃ y, Y[a + m]? = some y := ⟨_, List.getElem?_eq_getElem (by omega)⟩
 have hr : a < Y.length := by omega
 have hcl : a + m < Y.length := by omega
 have sw := Same.swap (X := Y) (a := a) (n := n) (i := a) (j := a + m) hn ⟨by omega, by omega⟩ ⟨by omega, hm⟩
 have ex : Y[a]'hr = x := by rw [List.getElem?_eq_getElem hr] at hx; exact Option.some.inj hx
 have ey : Y[a + m]'hcl = y := by rw [List.getElem?_eq_getElem hcl] at hy; exact Option.some.inj hy
 rw [ex, ey] at sw
 have g : ∀ k, ((Y.set a y).set (a + m) x)[a + k]? = if k = m then some x else if k = 0 then some y else Y[a + k]? := fun k => by
  by_cases e1 : k = m
  ·subst e1; rw [if_pos rfl, List.getElem?_set_self (by rw [List.length_set]; omega)]
  ·rw [if_neg e1, List.getElem?_set_ne (by omega)]
   by_cases e2 : k = 0
   ·subst e2; rw [if_pos rfl, Nat.add_zero, List.getElem?_set_self (by omega)]
   ·rw [if_neg e2, List.getElem?_set_ne (by omega)]
 have htop := hI.heap.top (by omega) hx
 have hup := hI.up
 have hcut := hI.cut
 have hheap := hI.heap
 have hsame := hI.same
 have g' : ∀ k, a + m < k → ((Y.set a y).set (a + m) x)[k]? = Y[k]? := fun k hk => by
  rw [List.getElem?_set_ne (by omega), List.getElem?_set_ne (by omega)]
 have hgm : ((Y.set a y).set (a + m) x)[a + m]? = some x := by rw [g, if_pos rfl]
 have hlz : ((Y.set a y).set (a + m) x).length = Y.length := by simp
 -- all that stand ahead are at most x
 have hle : ∀ k v, a ≤ k → k < a + m → ((Y.set a y).set (a + m) x)[k]? = some v → v ≤ x := fun k v k1 k2 hv => by
  obtain ⟨t, rfl⟩ : ∃ t, k = a + t := ⟨k - a, by omega⟩
  rw [g, if_neg (by omega)] at hv
  by_cases e : t = 0
  ·rw [if_pos e] at hv
   obtain rfl := Option.some.inj hv
   exact htop m (by omega) y hy
  ·rw [if_neg e] at hv
   exact htop t (by omega) v hv
 have hh1 : Hp ((Y.set a y).set (a + m) x) a (0 + 1) m := fun i h1 h2 c hc hch u v hu hv => by
  rw [g, if_neg (by omega), if_neg (by omega)] at hu hv
  exact hheap i (by omega) (by omega) c hc (by omega) u v hu hv
 have hS := fun (J' : JH) (hJ' : J'[b]? = some (.cells 0 (uL ((Y.set a y).set (a + m) x)) false)) => Sift_ok (cap := cap) hJ' (a := a) (lo := 0) (h := m) (by omega) (by omega) hh1 (by omega)
 have hfin : ∀ Z, Same ((Y.set a y).set (a + m) x) Z (a + 0) (a + m) → Hp Z a 0 m → HpS X Z a n m := fun Z hZ hH => by
  rw [Nat.add_zero] at hZ
  refine ⟨hsame.trans (sw.trans (hZ.mono (Nat.le_refl _) (by omega))), hH, fun i j u v h1 h2 h3 hu hv => ?_, fun i j u v h1 h2 h3 h4 hu hv => ?_⟩
  ·rw [hZ.out i (by omega)] at hu
   rw [hZ.out j (by omega)] at hv
   rw [g' j (by omega)] at hv
   by_cases e : i = a + m
   ·subst e; rw [hgm] at hu
    obtain rfl := Option.some.inj hu
    exact hcut a j _ v (Nat.le_refl _) (by omega) (by omega) h3 hx hv
   ·rw [g' i (by omega)] at hu
    exact hup i j u v (by omega) h2 h3 hu hv
  ·have hux : u ≤ x := hZ.all (fun z => z ≤ x) hle i u h1 (by omega) hu
   rw [hZ.out j (by omega)] at hv
   by_cases e : j = a + m
   ·subst e; rw [hgm] at hv
    have := Option.some.inj hv; omega
   ·rw [g' j (by omega)] at hv
    have := hcut a j x v (Nat.le_refl _) (by omega) (by omega) h4 hx hv
    omega
 generalize hq : a + m = q at *
 have e1 : ((uL Y).drop a).take 1 = [uI x] := by rw [uL_at Y hr, ex]
 have e2 : ((uL Y).drop q).take 1 = [uI y] := by rw [uL_at Y hcl, ey]
 have l1 := uL_len Y
 have hbb := lt_get hJ
 have s1 := uL_set Y a y (by omega)
 have s2 := uL_set (Y.set a y) q x (by rw [List.length_set]; omega)
 have l2 := uL_len (Y.set a y)
 rw [List.length_set] at l2
 have b0 : (b < J.size) = True := by simp [hbb]
 have j1 : (0 + a * 1 = a) := by omega
 have j2 : (0 + q * 1 = q) := by omega
 have j3 : (a < Y.length) = True := by simp; omega
 have j4 : (q < Y.length) = True := by simp; omega
 have u1 : ∀ t, icells (uI t) = [uI t] := fun t => rfl
 have u2 : ∀ t, ione (uI t) = true := fun t => rfl
 have r1 : a + 1 ≤ Y.length := by omega
 have r2 : q + 1 ≤ Y.length := by omega
 have k0 : ((m : Int) ≥ 0) := by omega
 simp -implicitDefEqProofs only [go_sem, go_sem_proc, k0, w1, w2, j1, j2, j3, j4, hJ, l1, r1, r2, e1, e2, ↓u1, ↓u2, s1, s2, l2, set_get _ hbb, set_set, Array.size_setIfInBounds, b0]
 have hS' := hS (J.setIfInBounds b (.cells 0 (uL ((Y.set a y).set q x)) false)) (set_get _ hbb)
 rw [hlz] at hS'
 refine WP_call hS' fun v J2 hv => ?_
 obtain ⟨Z, hZ, hH, rfl⟩ := hv
 simp -implicitDefEqProofs only [go_sem, go_sem_proc, w2, set_set]
 exact hK Z (hfin Z (by rw [Nat.add_zero]; rw [Nat.add_zero] at hZ; exact hZ) hH)
theorem Heap_ok {X : List Int} {J : JH} (hJ : J[b]? = some (.cells 0 (uL X) false)) (hn : n ≤ X.length) (hb : X.length ≤ 1000000) (han : a < n) :
  RP (ic BI F_slices_heapSortOrdered_int32 [.sl b 0 0 X.length cap 1, nI a, nI n] J) fun v J' => ∃ Y, Same X Y a n ∧ Rises Y a n ∧ J' = J.setIfInBounds b (.cells 0 (uL Y) false) := by
 refine RP_run fn_slices_heapSortOrdered_int32 rfl fun K hK => ?_
 unfold l_slices_heapSortOrdered_int32
 obtain ⟨d, hd⟩ : ∃ d, d = n - a := ⟨_, rfl⟩
 have w1 : IntKind.i64.wrap ((n : Int) - (a : Int)) = (d : Int) := by rw [wrap_i64 (by omega) (by omega)]; omega
 have w2 : IntKind.i64.wrap ((d : Int) - 1) = ((d - 1 : Nat) : Int) := by rw [wrap_i64 (by omega) (by omega)]; omega
 have t1 : (((d - 1 : Nat) : Int).tdiv 2) = (((d - 1) / 2 : Nat) : Int) := rfl
 have w3 : IntKind.i64.wrap (((d - 1) / 2 : Nat) : Int) = (((d - 1) / 2 + 1 : Nat) : Int) - 1 := by rw [wrap_i64 (by omega) (by omega)]; omega
 have hbb := lt_get hJ
 simp -implicitDefEqProofs only [go_sem, go_sem_proc, w1, w2, t1, w3, dn_loop]
 refine WP_loop (by decide) (fun m vs J' => ∃ Y, vs = [.sl b 0 0 X.length cap 1, nI a, nI 0, nI d, .int .i64 ((m : Int) - 1)] ∧ m ≤ d ∧ Same X Y a n ∧ Hp Y a m d ∧ J' = J.setIfInBounds b (.cells 0 (uL Y) false)) ?_ ((d - 1) / 2 + 1) _ _ ⟨X, rfl, by omega, .refl _ _ _, fun i h1 h2 c hc hch => by omega, (set_own hJ).symm⟩
 rintro m vs J1 ⟨Y, rfl, hmd, hS, hH, rfl⟩ K1 g1 g2 g3
 have hlen := hS.len
 unfold l_slices_heapSortOrdered_int32_k0
 by_cases hm : 1 ≤ m
 ·have em : ((m : Int) - 1) = ((m - 1 : Nat) : Int) := by omega
  have w4 : IntKind.i64.wrap (((m - 1 : Nat) : Int) - 1) = ((m - 1 : Nat) : Int) - 1 := wrap_i64 (by omega) (by omega)
  rw [em]
  simp -implicitDefEqProofs only [go_sem, go_sem_proc, show (((m - 1 : Nat) : Int) ≥ 0) by omega]
  have hs := Sift_ok (cap := cap) (b := b) (J := J.setIfInBounds b (.cells 0 (uL Y) false)) (set_get _ hbb) (a := a) (lo := m - 1) (h := d) (by omega) (by omega) (by rw [show m - 1 + 1 = m by omega]; exact hH) (by omega)
  rw [hlen] at hs
  refine WP_call hs fun v J2 hv => ?_
  obtain ⟨Z, hZ, hHZ, rfl⟩ := hv
  simp -implicitDefEqProofs only [go_sem, go_sem_proc, w4, set_set]
  exact g1 _ (m - 1) _ (by omega) ⟨Z, rfl, by omega, hS.trans (hZ.mono (by omega) (by omega)), hHZ, rfl⟩
 ·obtain rfl : m = 0 := by omega
  simp -implicitDefEqProofs only [go_sem, go_sem_proc, show ¬ ((((0 : Nat) : Int) - 1) ≥ 0) by omega]
  refine g2 _ _ ?_
  unfold l_slices_heapSortOrdered_int32_k2
  have w5 : IntKind.i64.wrap ((d : Int) - 1) = (d : Int) - 1 := wrap_i64 (by omega) (by omega)
  simp -implicitDefEqProofs only [go_sem, go_sem_proc, w5, dn_loop]
  refine WP_iter (fun m vs J' => ∃ Y, vs = [.sl b 0 0 X.length cap 1, nI a, nI 0, .int .i64 ((m : Int) - 1)] ∧ m ≤ d ∧ HpS X Y a n m ∧ J' = J.setIfInBounds b (.cells 0 (uL Y) false)) ?_ d _ _ ⟨Y, rfl, Nat.le_refl _, ⟨hS, hH, fun i j u v h1 h2 h3 => by omega, fun i j u v h1 h2 h3 h4 => by omega⟩, rfl⟩
  rintro m vs J2 ⟨Z, rfl, hmd2, hI, rfl⟩ K2 q1 q2 q3
  have hlz := hI.same.len
  by_cases hm2 : 1 ≤ m
  ·have em : ((m : Int) - 1) = ((m - 1 : Nat) : Int) := by omega
   rw [em]
   have := pop_round (cap := cap) (b := b) (J := J.setIfInBounds b (.cells 0 (uL Z) false)) (set_get _ hbb) (a := a) (n := n) (X := X) (by omega) (by omega) (m := m - 1) (by omega) (by rw [show m - 1 + 1 = m by omega]; exact hI) K2 (fun W hW => by
    rw [hlz, set_set]
    exact q1 _ (m - 1) _ (by omega) ⟨W, rfl, by omega, hW, rfl⟩)
   rw [hlz] at this
   exact this
  ·obtain rfl : m = 0 := by omega
   unfold l_slices_heapSortOrdered_int32_k1
   simp -implicitDefEqProofs only [go_sem, go_sem_proc, show ¬ ((((0 : Nat) : Int) - 1) ≥ 0) by omega]
   exact q3 _ _ (hK _ _ ⟨Z, hI.same, by have := hI.up; rw [Nat.add_zero] at this; exact this, rfl⟩)
end
end Go.Proofs.Ytdclinhgekbejaa.G
namespace Go.Proofs.Ytdclinhgekbejaa.G
open Go
section
variable {X : List Int} {b cap : Nat} {J : JH} (hJ : J[b]? = some (.cells 0 (uL X) false)) {c : Nat}
include hJ
theorem medianAdj_ok {k : Nat} (hk : k ≤ 50) (hcb : c ≠ b) (hc : CntAt J c k) (hb : X.length ≤ 1000000) {p : Nat} (h1 : 1 ≤ p) (hp : p + 1 < X.length) :
  RP (ic BI F_slices_medianAdjacentOrdered_int32 [.sl b 0 0 X.length cap 1, nI p, .ptr c 0 0] J) fun v J' => (∃ m, v = nI m ∧ p - 1 ≤ m ∧ m ≤ p + 1) ∧ CntAt J' c (k + 3) ∧ Fr J J' [c] := by
 refine RP_run fn_slices_medianAdjacentOrdered_int32 rfl fun K hK => ?_
 unfold l_slices_medianAdjacentOrdered_int32
 have w1 : IntKind.i64.wrap ((p : Int) - 1) = ((p - 1 : Nat) : Int) := by rw [wrap_i64 (by omega) (by omega)]; omega
 have w2 : IntKind.i64.wrap ((p : Int) + 1) = ((p + 1 : Nat) : Int) := by rw [wrap_i64 (by omega) (by omega)]; omega
 simp -implicitDefEqProofs only [go_sem, go_sem_proc, w1, w2]
 refine WP_call (median_ok hJ hk hcb hc (p := p - 1) (q := p) (r := p + 1) (by omega) (by omega) hp) fun v J2 hv => ?_
 obtain ⟨⟨m, rfl, hm⟩, hc2, f2⟩ := hv
 simp -implicitDefEqProofs only [go_sem, go_sem_proc]
 exact hK _ _ ⟨⟨m, rfl, by omega, by omega⟩, hc2, f2⟩
theorem chooseL_ok {a n : Nat} (ha : a + 8 ≤ n) (hn : n ≤ X.length) (hc : X.length ≤ 1000000) :
  RP (ic BI F_slices_choosePivotOrdered_int32 [.sl b 0 0 X.length cap 1, nI a, nI n] J) fun v J' => (∃ p : Nat, ∃ h : Int, v = .tup [nI p, .int .i64 h] ∧ a ≤ p ∧ p < n) ∧ Fr J J' [] := by
 by_cases h50 : n - a < 50
 ·exact choose_ok hJ ha hn h50 hc
 refine RP_run fn_slices_choosePivotOrdered_int32 rfl fun K hK => ?_
 unfold l_slices_choosePivotOrdered_int32
 obtain ⟨d, hd⟩ : ∃ d, d = n - a := ⟨_, rfl⟩
 have w1 : IntKind.i64.wrap ((n : Int) - (a : Int)) = (d : Int) := by rw [wrap_i64 (by omega) (by omega)]; omega
 obtain ⟨e, he⟩ : ∃ e, e = d / 4 := ⟨_, rfl⟩
 have t1 : ((d : Int).tdiv 4) = (e : Int) := by rw [he]; rfl
 have w2 : IntKind.i64.wrap (e : Int) = (e : Int) := wrap_i64 (by omega) (by omega)
 have w3 : IntKind.i64.wrap ((e : Int) * 1) = (e : Int) := by rw [wrap_i64 (by omega) (by omega)]; omega
 have w4 : IntKind.i64.wrap ((e : Int) * 2) = ((2 * e : Nat) : Int) := by rw [wrap_i64 (by omega) (by omega)]; omega
 have w5 : IntKind.i64.wrap ((e : Int) * 3) = ((3 * e : Nat) : Int) := by rw [wrap_i64 (by omega) (by omega)]; omega
 have w6 : IntKind.i64.wrap ((a : Int) + (e : Int)) = ((a + e : Nat) : Int) := by rw [wrap_i64 (by omega) (by omega)]; omega
 have w7 : IntKind.i64.wrap ((a : Int) + ((2 * e : Nat) : Int)) = ((a + 2 * e : Nat) : Int) := by rw [wrap_i64 (by omega) (by omega)]; omega
 have w8 : IntKind.i64.wrap ((a : Int) + ((3 * e : Nat) : Int)) = ((a + 3 * e : Nat) : Int) := by rw [wrap_i64 (by omega) (by omega)]; omega
 have hb := lt_get hJ
 have hne : J.size ≠ b := by omega
 have hJ2 : (J.push (.cells 0 [.int .i64 0] false))[b]? = some (.cells 0 (uL X) false) := by rw [Array.getElem?_push, if_neg (by omega)]; exact hJ
 have hcn : CntAt (J.push (.cells 0 [.int .i64 0] false)) J.size 0 := ⟨0, push_get _ _, by omega, by omega⟩
 have hpf : Fr J (J.push (.cells 0 [.int .i64 0] false)) [] := Fr.push _ _ _
 simp -implicitDefEqProofs only [go_sem, go_sem_proc, w1, t1, w2, w3, w4, w5, w6, w7, w8, show ((d : Int) ≥ 8) by omega, show ((d : Int) ≥ 50) by omega]
 refine WP_join fun K1 g1 g2 g3 => ?_
 refine WP_join fun K2 p1 p2 p3 => ?_
 generalize J.push (.cells 0 [.int .i64 0] false) = J0 at *
 refine WP_call (medianAdj_ok hJ2 (k := 0) (by omega) hne hcn hc (p := a + e) (by omega) (by omega)) fun v J3 hv => ?_
 obtain ⟨⟨m1, rfl, hm1, hm1'⟩, hc3, f3⟩ := hv
 have hJ3 : J3[b]? = some (.cells 0 (uL X) false) := by rw [f3.2 b (lt_get hJ2) (by simp; omega)]; exact hJ2
 simp -implicitDefEqProofs only [go_sem, go_sem_proc]
 refine WP_call (medianAdj_ok hJ3 (by omega) hne hc3 hc (p := a + 2 * e) (by omega) (by omega)) fun v J4 hv => ?_
 obtain ⟨⟨m2, rfl, hm2, hm2'⟩, hc4, f4⟩ := hv
 have hJ4 : J4[b]? = some (.cells 0 (uL X) false) := by rw [f4.2 b (lt_get hJ3) (by simp; omega)]; exact hJ3
 simp -implicitDefEqProofs only [go_sem, go_sem_proc]
 refine WP_call (medianAdj_ok hJ4 (by omega) hne hc4 hc (p := a + 3 * e) (by omega) (by omega)) fun v J5 hv => ?_
 obtain ⟨⟨m3, rfl, hm3, hm3'⟩, hc5, f5⟩ := hv
 have hJ5 : J5[b]? = some (.cells 0 (uL X) false) := by rw [f5.2 b (lt_get hJ4) (by simp; omega)]; exact hJ4
 simp -implicitDefEqProofs only [go_sem, go_sem_proc]
 refine p1 _ _ ?_
 unfold l_slices_choosePivotOrdered_int32_k0
 simp -implicitDefEqProofs only [go_sem, go_sem_proc]
 refine WP_call (median_ok hJ5 (by omega) hne hc5 (p := m1) (q := m2) (r := m3) (by omega) (by omega) (by omega)) fun v J6 hv => ?_
 obtain ⟨⟨m, rfl, hm⟩, ⟨z, hz, z0, z1⟩, f6⟩ := hv
 simp -implicitDefEqProofs only [go_sem, go_sem_proc]
 refine g1 _ _ ?_
 unfold l_slices_choosePivotOrdered_int32_k1
 have ff : Fr J J6 [] := hpf.trans (((f3.trans f4 (fun _ _ h => h)).trans f5 (fun _ _ h => h)).trans f6 (fun _ _ h => h)) (fun d hd hm => by simp at hm; omega)
 by_cases c1 : z = 0
 ·subst c1
  simp -implicitDefEqProofs only [go_sem, go_sem_proc, hz, inb hz]
  exact hK _ _ ⟨⟨m, 1, rfl, by omega, by omega⟩, ff⟩
 ·by_cases c2 : z = 12
  ·subst c2
   simp -implicitDefEqProofs only [go_sem, go_sem_proc, hz, inb hz]
   exact hK _ _ ⟨⟨m, 2, rfl, by omega, by omega⟩, ff⟩
  ·have k1 : (z == 0) = false := by simpa using c1
   have k2 : (z == 12) = false := by simpa using c2
   simp -implicitDefEqProofs only [go_sem, go_sem_proc, hz, inb hz, k1, k2]
   exact hK _ _ ⟨⟨m, 0, rfl, by omega, by omega⟩, ff⟩
end
end Go.Proofs.Ytdclinhgekbejaa.G
namespace Go.Proofs.Ytdclinhgekbejaa.G
open Go
def Low (X : List Int) (a n : Nat) : Prop := ∀ x, 0 < a → X[a - 1]? = some x → ∀ k v, a ≤ k → k < n → X[k]? = some v → x ≤ v
theorem Low.mono {X : List Int} {a n n' : Nat} (h : Low X a n) (hn : n' ≤ n) : Low X a n' := fun x h0 hx k v h1 h2 hv => h x h0 hx k v h1 (by omega) hv
theorem Low.same {X Y : List Int} {a n a' n' : Nat} (h : Low X a n) (hS : Same X Y a' n') (h1 : a ≤ a') (h2 : n' ≤ n) : Low Y a n := by
 intro x h0 hx k v k1 k2 hv
 rw [hS.out _ (by omega)] at hx
 have hS2 : Same X Y a n := hS.mono h1 h2
 exact hS2.all (fun v => x ≤ v) (fun k v k1 k2 hv => h x h0 hx k v k1 k2 hv) k v k1 k2 hv
def PNext (b cap : Nat) (X : List Int) (a n l : Nat) (J : JH) (K : Out IV → JH → Prop) : Prop := ∀ Y J' a' n' (wb wp : Bool), a ≤ a' → n' ≤ n → a' ≤ n' → n' - a' < n - a → Same X Y a n → Low Y a' n' → (∀ Z, Same Y Z a' n' → Rises Z a' n' → Rises Z a n) → J'[b]? = some (.cells 0 (uL Y) false) → Fr J J' [b] → K (.goto 0 [.sl b 0 0 X.length cap 1, nI a', nI n', nI l, .sc (.bool wb), .sc (.bool wp)]) J'
def PFin (b : Nat) (X : List Int) (a n : Nat) (J : JH) (K : Out IV → JH → Prop) : Prop := ∀ Y J', Same X Y a n → Rises Y a n → J'[b]? = some (.cells 0 (uL Y) false) → Fr J J' [b] → K (.ret []) J'
section
variable {X : List Int} {b cap : Nat} {J : JH} (hJ : J[b]? = some (.cells 0 (uL X) false)) {a n : Nat} (hn : n ≤ X.length) (hc : X.length ≤ 1000000)
include hJ hn hc
end
end Go.Proofs.Ytdclinhgekbejaa.G
namespace Go.Proofs.Ytdclinhgekbejaa.G
open Go
theorem swap_same {X : List Int} {a n j : Nat} {x y : Int} (hn : n ≤ X.length) (h1 : a ≤ j - 1) (h0 : 0 < j) (h2 : j < n) (hx : X[j]? = some x) (hy : X[j - 1]? = some y) : Same X ((X.set j y).set (j - 1) x) a n := by
 have e : (X.set j y).set (j - 1) x = ((X.set j (X[j - 1]'(by omega))).set (j - 1) (X[j]'(by omega))) := by
  rw [List.getElem?_eq_getElem (by omega)] at hy hx
  rw [← Option.some.inj hy, ← Option.some.inj hx]
 rw [e]
 exact .swap hn ⟨by omega, by omega⟩ ⟨by omega, by omega⟩
section
variable {b cap : Nat} {Y : List Int} {J : JH} (hJ : J[b]? = some (.cells 0 (uL Y) false)) (hc : Y.length ≤ 1000000) {a n i : Nat} {k : Int}
include hJ hc
theorem part_left {j : Nat} (hj : j < Y.length) (K : Out IV → JH → Prop)
  (h1 : (∀ y x, 1 ≤ j → Y[j - 1]? = some y → Y[j]? = some x → y ≤ x) → K (.goto 4 [.sl b 0 0 Y.length cap 1, nI a, nI n, nI i, .int .i64 k]) J)
  (h2 : ∀ y x, 1 ≤ j → Y[j - 1]? = some y → Y[j]? = some x → x < y → K (.goto 5 [.sl b 0 0 Y.length cap 1, nI a, nI n, nI i, .int .i64 k, nI (j - 1)]) (J.setIfInBounds b (.cells 0 (uL ((Y.set j y).set (j - 1) x)) false))) :
  WP (dn BI l_slices_partialInsertionSortOrdered_int32_k2 [.sl b 0 0 Y.length cap 1, nI a, nI n, nI i, .int .i64 k, nI j] J) K := by
 unfold l_slices_partialInsertionSortOrdered_int32_k2
 by_cases hj0 : j = 0
 ·subst hj0
  simp -implicitDefEqProofs only [go_sem, go_sem_proc, show ¬ (((0 : Nat) : Int) ≥ 1) by omega]
  exact h1 (fun y x h => by omega)
 ·have hw : IntKind.i64.wrap ((j : Int) - 1) = ((j - 1 : Nat) : Int) := by rw [wrap_i64 (by omega) (by omega)]; omega
  have e1 : ((uL Y).drop j).take 1 = [uI Y[j]] := uL_at Y (by omega)
  have e2 : ((uL Y).drop (j - 1)).take 1 = [uI Y[j - 1]] := uL_at Y (by omega)
  have g1 : Y[j]? = some Y[j] := List.getElem?_eq_getElem (by omega)
  have g2 : Y[j - 1]? = some Y[j - 1] := List.getElem?_eq_getElem (by omega)
  have l1 := uL_len Y
  have hb := lt_get hJ
  generalize Y[j] = x at *
  generalize Y[j - 1] = y at *
  have hle := uLess_ok x y
  have s1 := uL_set Y j y (by omega)
  have s2 := uL_set (Y.set j y) (j - 1) x (by rw [List.length_set]; omega)
  have l2 := uL_len (Y.set j y)
  rw [List.length_set] at l2
  have c1 : ((j : Int) ≥ 1) := by omega
  have b0 : (b < J.size) = True := by simp [hb]
  have j1 : (0 + j * 1 = j) := by omega
  have j2 : (0 + (j - 1) * 1 = j - 1) := by omega
  have j3 : (j - 1 < Y.length) = True := by simp; omega
  have j4 : (j < Y.length) = True := by simp [hj]
  have u1 : ∀ t, icells (uI t) = [uI t] := fun t => rfl
  have u2 : ∀ t, ione (uI t) = true := fun t => rfl
  have r1 : j + 1 ≤ Y.length := by omega
  have r2 : j - 1 + 1 ≤ Y.length := by omega
  by_cases hlt : x < y
  ·have h2' := h2 y x (by omega) g2 g1 hlt
   have hl : pc BI F_cmp_Less_int32 [uI x, uI y] = some (.sc (.bool true)) := by rw [hle]; simp [hlt]
   simp -implicitDefEqProofs only [go_sem, go_sem_proc, c1, hw, j1, j2, j3, j4, hJ, l1, r1, r2, e1, e2, dcp hl rfl, ↓u1, ↓u2, s1, s2, l2, set_get _ hb, set_set, Array.size_setIfInBounds, b0]
   exact h2'
  ·have h1' := h1 (fun y' x' _ ha hx => by rw [g2] at ha; rw [g1] at hx; cases ha; cases hx; omega)
   have hl : pc BI F_cmp_Less_int32 [uI x, uI y] = some (.sc (.bool false)) := by rw [hle]; simp [hlt]
   simp -implicitDefEqProofs only [go_sem, go_sem_proc, c1, hw, j1, j2, j3, j4, hJ, l1, r1, r2, e1, e2, dcp hl rfl]
   exact h1'
theorem part_right {j : Nat} (hn : n ≤ Y.length) (hj0 : 1 ≤ j) (K : Out IV → JH → Prop)
  (h1 : K (.goto 2 [.sl b 0 0 Y.length cap 1, nI a, nI n, nI i, .int .i64 k]) J)
  (h2 : ∀ y x, j < n → Y[j - 1]? = some y → Y[j]? = some x → K (.goto 5 [.sl b 0 0 Y.length cap 1, nI a, nI n, nI i, .int .i64 k, nI (j + 1)]) (J.setIfInBounds b (.cells 0 (uL ((Y.set j y).set (j - 1) x)) false))) :
  WP (dn BI l_slices_partialInsertionSortOrdered_int32_k3 [.sl b 0 0 Y.length cap 1, nI a, nI n, nI i, .int .i64 k, nI j] J) K := by
 unfold l_slices_partialInsertionSortOrdered_int32_k3
 by_cases hjn : j < n
 ·have hw : IntKind.i64.wrap ((j : Int) - 1) = ((j - 1 : Nat) : Int) := by rw [wrap_i64 (by omega) (by omega)]; omega
  have hw2 : IntKind.i64.wrap ((j : Int) + 1) = ((j + 1 : Nat) : Int) := by rw [wrap_i64 (by omega) (by omega)]; omega
  have e1 : ((uL Y).drop j).take 1 = [uI Y[j]] := uL_at Y (by omega)
  have e2 : ((uL Y).drop (j - 1)).take 1 = [uI Y[j - 1]] := uL_at Y (by omega)
  have g1 : Y[j]? = some Y[j] := List.getElem?_eq_getElem (by omega)
  have g2 : Y[j - 1]? = some Y[j - 1] := List.getElem?_eq_getElem (by omega)
  have l1 := uL_len Y
  have hb := lt_get hJ
  generalize Y[j] = x at *
  generalize Y[j - 1] = y at *
  have hle := uLess_ok x y
  have s1 := uL_set Y j y (by omega)
  have s2 := uL_set (Y.set j y) (j - 1) x (by rw [List.length_set]; omega)
  have l2 := uL_len (Y.set j y)
  rw [List.length_set] at l2
  have c1 : ((j : Int) < (n : Int)) := by omega
  have b0 : (b < J.size) = True := by simp [hb]
  have j1 : (0 + j * 1 = j) := by omega
  have j2 : (0 + (j - 1) * 1 = j - 1) := by omega
  have j3 : (j - 1 < Y.length) = True := by simp; omega
  have j4 : (j < Y.length) = True := by simp; omega
  have u1 : ∀ t, icells (uI t) = [uI t] := fun t => rfl
  have u2 : ∀ t, ione (uI t) = true := fun t => rfl
  have r1 : j + 1 ≤ Y.length := by omega
  have r2 : j - 1 + 1 ≤ Y.length := by omega
  by_cases hlt : x < y
  ·have h2' := h2 y x hjn g2 g1
   have hl : pc BI F_cmp_Less_int32 [uI x, uI y] = some (.sc (.bool true)) := by rw [hle]; simp [hlt]
   simp -implicitDefEqProofs only [go_sem, go_sem_proc, c1, hw, hw2, j1, j2, j3, j4, hJ, l1, r1, r2, e1, e2, dcp hl rfl, ↓u1, ↓u2, s1, s2, l2, set_get _ hb, set_set, Array.size_setIfInBounds, b0]
   exact h2'
  ·have hl : pc BI F_cmp_Less_int32 [uI x, uI y] = some (.sc (.bool false)) := by rw [hle]; simp [hlt]
   simp -implicitDefEqProofs only [go_sem, go_sem_proc, c1, hw, j1, j2, j3, j4, hJ, l1, r1, r2, e1, e2, dcp hl rfl]
   exact h1
 ·simp -implicitDefEqProofs only [go_sem, go_sem_proc, show ¬ ((j : Int) < (n : Int)) by omega]
  exact h1
end
section
variable {b cap : Nat} {X Y : List Int} {J : JH} {a n i : Nat} {k : Int}
theorem part_k4 (hb : b < J.size) (hS : Same X Y a n) (hn : n ≤ X.length) (hc : X.length ≤ 1000000) (hai : a + 1 ≤ i) (hin : i < n) (hR : Rises Y a i) (K : Out IV → JH → Prop)
  (hK : ∀ Z, Same X Z a n → Rises Z a i → K (.goto 2 [.sl b 0 0 X.length cap 1, nI a, nI n, nI i, .int .i64 k]) (J.setIfInBounds b (.cells 0 (uL Z) false))) :
  WP (dn BI l_slices_partialInsertionSortOrdered_int32_k4 [.sl b 0 0 X.length cap 1, nI a, nI n, nI i, .int .i64 k] (J.setIfInBounds b (.cells 0 (uL Y) false))) K := by
 unfold l_slices_partialInsertionSortOrdered_int32_k4
 have w1 : IntKind.i64.wrap ((n : Int) - (i : Int)) = ((n - i : Nat) : Int) := by rw [wrap_i64 (by omega) (by omega)]; omega
 have w2 : IntKind.i64.wrap ((i : Int) + 1) = ((i + 1 : Nat) : Int) := by rw [wrap_i64 (by omega) (by omega)]; omega
 by_cases h2 : 2 ≤ n - i
 ·simp -implicitDefEqProofs only [go_sem, go_sem_proc, w1, w2, show (((n - i : Nat) : Int) ≥ 2) by omega, dn_loop]
  refine WP_iter (fun m vs J' => ∃ j Z, m = n + 1 - j ∧ i + 1 ≤ j ∧ vs = [.sl b 0 0 X.length cap 1, nI a, nI n, nI i, .int .i64 k, nI j] ∧ Same X Z a n ∧ Rises Z a i ∧ J' = J.setIfInBounds b (.cells 0 (uL Z) false)) ?_ (n - i) _ _ ⟨i + 1, Y, by omega, Nat.le_refl _, rfl, hS, hR, rfl⟩
  rintro m vs J1 ⟨j, Z, rfl, hj, rfl, hSZ, hRZ, rfl⟩ K1 g1 g2 g3
  have hlen := hSZ.len
  have := part_right (cap := cap) (b := b) (J := J.setIfInBounds b (.cells 0 (uL Z) false)) (a := a) (n := n) (i := i) (k := k) (j := j) (set_get _ hb) (by omega) (by omega) (by omega) K1 (by rw [hlen]; exact g2 2 _ _ (by decide) (hK Z hSZ hRZ)) (fun y x hjn hy hx => by
   rw [hlen, set_set]
   have hsw := swap_same (a := i) (n := n) (by omega) (by omega) (by omega) hjn hx hy
   exact g1 _ (n + 1 - (j + 1)) _ (by omega) ⟨j + 1, _, rfl, by omega, rfl, hSZ.trans (hsw.mono (by omega) (Nat.le_refl _)), hRZ.same hsw (.inl (Nat.le_refl _)), rfl⟩)
  rw [hlen] at this
  exact this
 ·simp -implicitDefEqProofs only [go_sem, go_sem_proc, w1, show ¬ (((n - i : Nat) : Int) ≥ 2) by omega]
  exact hK Y hS hR
theorem part_k5 (hb : b < J.size) (hS : Same X Y a n) (hn : n ≤ X.length) (hc : X.length ≤ 1000000) (hai : a + 1 ≤ i) (hin : i ≤ n) (hR : Rises Y a i) (hlow : Low X a n) (K : Out IV → JH → Prop)
  (h1 : i = n → K (.ret [.sc (.bool true)]) (J.setIfInBounds b (.cells 0 (uL Y) false)))
  (h0 : K (.ret [.sc (.bool false)]) (J.setIfInBounds b (.cells 0 (uL Y) false)))
  (hK : ∀ Z, Same X Z a n → Rises Z a i → K (.goto 2 [.sl b 0 0 X.length cap 1, nI a, nI n, nI i, .int .i64 k]) (J.setIfInBounds b (.cells 0 (uL Z) false)))
  (hless : i < n → ∀ y x, Y[i - 1]? = some y → Y[i]? = some x → x < y) :
  WP (dn BI l_slices_partialInsertionSortOrdered_int32_k5 [.sl b 0 0 X.length cap 1, nI a, nI n, nI i, .int .i64 k] (J.setIfInBounds b (.cells 0 (uL Y) false))) K := by
 unfold l_slices_partialInsertionSortOrdered_int32_k5
 have wd : IntKind.i64.wrap ((n : Int) - (a : Int)) = ((n - a : Nat) : Int) := by rw [wrap_i64 (by omega) (by omega)]; omega
 by_cases hn' : i = n
 ·simp -implicitDefEqProofs only [go_sem, go_sem_proc, show ((i : Int) == (n : Int)) = true by simp; omega]
  exact h1 hn'
 have e0 : ((i : Int) == (n : Int)) = false := by simp; omega
 by_cases h50 : n - a < 50
 ·simp -implicitDefEqProofs only [go_sem, go_sem_proc, e0, wd, show (((n - a : Nat) : Int) < 50) by omega]
  exact h0
 have hlen := hS.len
 have hw : IntKind.i64.wrap ((i : Int) - 1) = ((i - 1 : Nat) : Int) := by rw [wrap_i64 (by omega) (by omega)]; omega
 have hwa : IntKind.i64.wrap ((i : Int) - (a : Int)) = ((i - a : Nat) : Int) := by rw [wrap_i64 (by omega) (by omega)]; omega
 have e1 : ((uL Y).drop i).take 1 = [uI Y[i]] := uL_at Y (by omega)
 have e2 : ((uL Y).drop (i - 1)).take 1 = [uI Y[i - 1]] := uL_at Y (by omega)
 have g1 : Y[i]? = some Y[i] := List.getElem?_eq_getElem (by omega)
 have g2 : Y[i - 1]? = some Y[i - 1] := List.getElem?_eq_getElem (by omega)
 have l1 := uL_len Y
 generalize Y[i] = x at *
 generalize Y[i - 1] = y at *
 have hxy := hless (by omega) y x g2 g1
 have s1 := uL_set Y i y (by omega)
 have s2 := uL_set (Y.set i y) (i - 1) x (by rw [List.length_set]; omega)
 have l2 := uL_len (Y.set i y)
 rw [List.length_set] at l2
 have b0 : (b < J.size) = True := by simp [hb]
 have j1 : (0 + i * 1 = i) := by omega
 have j2 : (0 + (i - 1) * 1 = i - 1) := by omega
 have j3 : (i - 1 < X.length) = True := by simp; omega
 have j4 : (i < X.length) = True := by simp; omega
 have u1 : ∀ t, icells (uI t) = [uI t] := fun t => rfl
 have u2 : ∀ t, ione (uI t) = true := fun t => rfl
 have r1 : i + 1 ≤ X.length := by omega
 have r2 : i - 1 + 1 ≤ X.length := by omega
 have hsw := swap_same (a := i - 1) (n := i + 1) (by omega) (Nat.le_refl _) (by omega) (by omega) g1 g2
 have hS1 : Same X ((Y.set i y).set (i - 1) x) a n := hS.trans (hsw.mono (by omega) (by omega))
 have hR1 : Rises ((Y.set i y).set (i - 1) x) a (i - 1) := fun p q u v h1 h2 h3 hu hv => by
  rw [hsw.out p (by omega)] at hu
  rw [hsw.out q (by omega)] at hv
  exact hR p q u v h1 h2 (by omega) hu hv
 generalize (Y.set i y).set (i - 1) x = Y1 at *
 have hlen1 := hS1.len
 rw [hlen] at l1 l2
 by_cases h2 : 2 ≤ i - a
 ·simp -implicitDefEqProofs only [go_sem, go_sem_proc, e0, wd, show ¬ (((n - a : Nat) : Int) < 50) by omega, hw, j1, j2, j3, j4, set_get _ hb, l1, r1, r2, e1, e2, ↓u1, ↓u2, s1, s2, l2, set_set, Array.size_setIfInBounds, b0, hwa, show (((i - a : Nat) : Int) ≥ 2) by omega, dn_loop]
  refine WP_loop (by decide) (fun m vs J' => ∃ j Z, m = j ∧ a ≤ j ∧ j ≤ i - 1 ∧ vs = [.sl b 0 0 X.length cap 1, nI a, nI n, nI i, .int .i64 k, nI j] ∧ Same X Z a n ∧ InsR Z a (i - 1) j ∧ J' = J.setIfInBounds b (.cells 0 (uL Z) false)) ?_ (i - 1) _ _ ⟨i - 1, Y1, rfl, by omega, Nat.le_refl _, rfl, hS1, .start hR1, rfl⟩
  rintro m vs J1 ⟨j, Z, rfl, haj, hji, rfl, hSZ, hI, rfl⟩ K1 q1 q2 q3
  have hlz := hSZ.len
  have := part_left (cap := cap) (b := b) (J := J.setIfInBounds b (.cells 0 (uL Z) false)) (a := a) (n := n) (i := i) (k := k) (j := m) (set_get _ hb) (by omega) (by omega) K1 (fun hd => by
   rw [hlz]
   refine q2 _ _ ?_
   have hRZ := hI.done hji (fun y x h => hd y x (by omega)) (by omega)
   rw [show i - 1 + 1 = i by omega] at hRZ
   exact part_k4 hb hSZ hn hc hai (by omega) hRZ K hK) (fun y x hj1 hy hx hlt => by
   have haj2 : a < m := by
    by_cases e : m = a
    ·subst e
     have := (hlow.same hSZ (Nat.le_refl _) (Nat.le_refl _)) y (by omega) hy m x (Nat.le_refl _) (by omega) hx
     omega
    ·omega
   rw [hlz, set_set]
   exact q1 _ (m - 1) _ (by omega) ⟨m - 1, _, rfl, by omega, by omega, rfl, hSZ.trans (swap_same (by omega) (by omega) (by omega) (by omega) hx hy), hI.step haj2 hji (by omega) hy hx hlt, rfl⟩)
  rw [hlz] at this
  exact this
 ·simp -implicitDefEqProofs only [go_sem, go_sem_proc, e0, wd, show ¬ (((n - a : Nat) : Int) < 50) by omega, hw, j1, j2, j3, j4, set_get _ hb, l1, r1, r2, e1, e2, ↓u1, ↓u2, s1, s2, l2, set_set, Array.size_setIfInBounds, b0, hwa, show ¬ (((i - a : Nat) : Int) ≥ 2) by omega, dn_loop]
  exact part_k4 hb hS1 hn hc hai (by omega) (fun p q u v h1 h2 h3 => by omega) K hK
end
end Go.Proofs.Ytdclinhgekbejaa.G
namespace Go.Proofs.Ytdclinhgekbejaa.G
open Go
theorem partialL_ok {X : List Int} {b cap : Nat} {J : JH} (hJ : J[b]? = some (.cells 0 (uL X) false)) {a n : Nat} (ha : a < n) (hn : n ≤ X.length) (hc : X.length ≤ 1000000) (hlow : Low X a n) :
  RP (ic BI F_slices_partialInsertionSortOrdered_int32 [.sl b 0 0 X.length cap 1, nI a, nI n] J) fun v J' => ∃ r : Bool, ∃ Y, v = .sc (.bool r) ∧ (r = true → Rises Y a n) ∧ Same X Y a n ∧ J' = J.setIfInBounds b (.cells 0 (uL Y) false) := by
 refine RP_run fn_slices_partialInsertionSortOrdered_int32 rfl fun K hK => ?_
 unfold l_slices_partialInsertionSortOrdered_int32
 have w0 : IntKind.i64.wrap ((a : Int) + 1) = ((a + 1 : Nat) : Int) := by rw [wrap_i64 (by omega) (by omega)]; omega
 have hb := lt_get hJ
 simp -implicitDefEqProofs only [go_sem, go_sem_proc, w0, dn_loop]
 refine WP_loop (by decide) (fun m vs J' => ∃ i Y, ∃ c : Nat, m = 5 - c ∧ c ≤ 5 ∧ vs = [.sl b 0 0 X.length cap 1, nI a, nI n, nI i, nI c] ∧ a + 1 ≤ i ∧ i ≤ n ∧ Same X Y a n ∧ Rises Y a i ∧ J' = J.setIfInBounds b (.cells 0 (uL Y) false)) ?_ 5 _ _ ⟨a + 1, X, 0, rfl, by omega, rfl, Nat.le_refl _, ha, .refl _ _ _, fun p q u v h1 h2 h3 => by omega, (set_own hJ).symm⟩
 rintro m vs J1 ⟨i0, Y, c, rfl, hc5, rfl, hi1, hi2, hS, hR0, rfl⟩ K1 g1 g2 g3
 unfold l_slices_partialInsertionSortOrdered_int32_k7
 by_cases hc0 : c < 5
 rotate_left
 ·simp -implicitDefEqProofs only [go_sem, go_sem_proc, show ¬ ((c : Int) < 5) by omega]
  refine g2 _ _ ?_
  unfold l_slices_partialInsertionSortOrdered_int32_k8
  simp -implicitDefEqProofs only [go_sem, go_sem_proc]
  exact hK _ _ ⟨false, Y, rfl, by simp, hS, rfl⟩
 simp -implicitDefEqProofs only [go_sem, go_sem_proc, show ((c : Int) < 5) by omega]
 refine WP_join fun K2 p1 p2 p3 => ?_
 simp -implicitDefEqProofs only [go_sem, go_sem_proc, dn_loop]
 have hlen := hS.len
 refine WP_loop (by decide) (fun m vs J' => ∃ i, m = n - i ∧ vs = [.sl b 0 0 X.length cap 1, nI a, nI n, nI i, nI c] ∧ a + 1 ≤ i ∧ i ≤ n ∧ Rises Y a i ∧ J' = J.setIfInBounds b (.cells 0 (uL Y) false)) ?_ (n - i0) _ _ ⟨i0, rfl, rfl, hi1, hi2, hR0, rfl⟩
 rintro m vs J2 ⟨i, rfl, rfl, hai, hin, hR, rfl⟩ K3 q1 q2 q3
 have fin : (i < n → ∀ y x, Y[i - 1]? = some y → Y[i]? = some x → x < y) → K3 (.goto 3 [.sl b 0 0 X.length cap 1, nI a, nI n, nI i, nI c]) (J.setIfInBounds b (.cells 0 (uL Y) false)) := fun hless => by
  refine q2 _ _ ?_
  refine part_k5 hb hS hn hc hai hin hR hlow K2 (fun e => p3 _ _ (g3 _ _ (hK _ _ ⟨true, Y, rfl, fun _ => by rw [← e]; exact hR, hS, rfl⟩))) (p3 _ _ (g3 _ _ (hK _ _ ⟨false, Y, rfl, by simp, hS, rfl⟩))) (fun Z hZ hRZ => p1 _ _ ?_) hless
  unfold l_slices_partialInsertionSortOrdered_int32_k6
  have w6 : IntKind.i64.wrap ((c : Int) + 1) = ((c + 1 : Nat) : Int) := by rw [wrap_i64 (by omega) (by omega)]; omega
  simp -implicitDefEqProofs only [go_sem, go_sem_proc, w6]
  exact g1 _ (5 - (c + 1)) _ (by omega) ⟨i, Z, c + 1, rfl, by omega, rfl, hai, hin, hZ, hRZ, rfl⟩
 unfold l_slices_partialInsertionSortOrdered_int32_k1
 by_cases hlt : i < n
 ·have e1 : ((uL Y).drop i).take 1 = [uI Y[i]] := uL_at Y (by omega)
  have e2 : ((uL Y).drop (i - 1)).take 1 = [uI Y[i - 1]] := uL_at Y (by omega)
  have g1' : Y[i]? = some Y[i] := List.getElem?_eq_getElem (by omega)
  have g2' : Y[i - 1]? = some Y[i - 1] := List.getElem?_eq_getElem (by omega)
  have l1 := uL_len Y
  rw [hlen] at l1
  generalize Y[i] = x at *
  generalize Y[i - 1] = y at *
  have hle := uLess_ok x y
  have hw : IntKind.i64.wrap ((i : Int) - 1) = ((i - 1 : Nat) : Int) := by rw [wrap_i64 (by omega) (by omega)]; omega
  have hw1 : IntKind.i64.wrap ((i : Int) + 1) = ((i + 1 : Nat) : Int) := by rw [wrap_i64 (by omega) (by omega)]; omega
  have j1 : (0 + i * 1 = i) := by omega
  have j2 : (0 + (i - 1) * 1 = i - 1) := by omega
  have j3 : (i - 1 < X.length) = True := by simp; omega
  have j4 : (i < X.length) = True := by simp; omega
  have r1 : i + 1 ≤ X.length := by omega
  have r2 : i - 1 + 1 ≤ X.length := by omega
  by_cases hl2 : x < y
  ·have hl : pc BI F_cmp_Less_int32 [uI x, uI y] = some (.sc (.bool true)) := by rw [hle]; simp [hl2]
   simp -implicitDefEqProofs only [go_sem, go_sem_proc, show ((i : Int) < (n : Int)) by omega, hw, j1, j2, j3, j4, set_get _ hb, l1, r1, r2, e1, e2, dcp hl rfl]
   exact fin fun _ y' x' hy hx => by rw [g2'] at hy; rw [g1'] at hx; cases hy; cases hx; exact hl2
  ·have hl : pc BI F_cmp_Less_int32 [uI x, uI y] = some (.sc (.bool false)) := by rw [hle]; simp [hl2]
   simp -implicitDefEqProofs only [go_sem, go_sem_proc, show ((i : Int) < (n : Int)) by omega, hw, hw1, j1, j2, j3, j4, set_get _ hb, l1, r1, r2, e1, e2, dcp hl rfl, l_slices_partialInsertionSortOrdered_int32_k0]
   refine q1 _ (n - (i + 1)) _ (by omega) ⟨i + 1, rfl, rfl, by omega, by omega, ?_, rfl⟩
   exact hR.more (fun u v _ hu hv => by rw [g2'] at hu; rw [g1'] at hv; cases hu; cases hv; omega) (by omega)
 ·simp -implicitDefEqProofs only [go_sem, go_sem_proc, show ¬ ((i : Int) < (n : Int)) by omega]
  exact fin fun h => absurd h hlt
noncomputable def powB (k : Nat) : Bool := match icall BI 20 F_slices_nextPowerOfTwo [nI k] #[] with | some (.sc (.int .u64 q), _) => decide (1 ≤ q) && decide (q ≤ 2 * (k : Int)) | _ => false
theorem pows : ((List.range 93).all fun k => powB (k + 8)) = true := by kernel_rfl
theorem powL_ok (k : Nat) (h8 : 8 ≤ k) (h100 : k ≤ 100) : ∃ q : Nat, pc BI F_slices_nextPowerOfTwo [nI k] = some (.int .u64 (q : Int)) ∧ 1 ≤ q ∧ q ≤ 2 * k := by
 have h := List.all_eq_true.1 pows (k - 8) (by simp; omega)
 rw [show k - 8 + 8 = k by omega] at h
 unfold powB at h
 split at h
 ·rename_i q J he
  simp only [Bool.and_eq_true, decide_eq_true_eq] at h
  refine ⟨q.toNat, pcK 20 ?_, by omega, by omega⟩
  rw [he]
  have e : ((q.toNat : Nat) : Int) = q := by omega
  rw [e]; exact frzP rfl
 ·cases h
section
variable {X : List Int} {b cap : Nat} {J : JH} (hJ : J[b]? = some (.cells 0 (uL X) false)) {a n : Nat} (hn : n ≤ X.length) (hc : X.length ≤ 1000000)
include hJ hn hc
theorem bp_k1L {r q i : Nat} {z : Int} (h8 : a + 8 ≤ n) (h16 : n - a ≤ 100) (hq1 : 1 ≤ q) (hq2 : q ≤ 2 * (n - a)) (hr : J[r]? = some (.cells 0 [.int .u64 z] false)) (hrb : r ≠ b) (hi : a ≤ i) (hi2 : i ≤ a + (n - a) / 4 * 2 + 1) (K : Out IV → JH → Prop)
  (hK : ∀ z' Y, Same X Y a n → K (.goto 0 [.sl b 0 0 X.length cap 1, nI a, nI (n - a), .ptr r 0 0, .int .u64 (q : Int), nI (i + 1)]) ((J.setIfInBounds r (.cells 0 [.int .u64 z'] false)).setIfInBounds b (.cells 0 (uL Y) false))) :
  WP (dn BI l_slices_breakPatternsOrdered_int32_k1 [.sl b 0 0 X.length cap 1, nI a, nI (n - a), .ptr r 0 0, .int .u64 (q : Int), nI i] J) K := by
 unfold l_slices_breakPatternsOrdered_int32_k1
 generalize hd : n - a = d at *
 generalize he : d / 4 = e at *
 have t1 : ((d : Int).tdiv 4) = (e : Int) := by rw [← he]; rfl
 have w2 : IntKind.i64.wrap (e : Int) = (e : Int) := wrap_i64 (by omega) (by omega)
 have w4 : IntKind.i64.wrap ((e : Int) * 2) = ((e * 2 : Nat) : Int) := by rw [wrap_i64 (by omega) (by omega)]; omega
 have w6 : IntKind.i64.wrap ((a : Int) + ((e * 2 : Nat) : Int)) = ((a + e * 2 : Nat) : Int) := by rw [wrap_i64 (by omega) (by omega)]; omega
 have w7 : IntKind.i64.wrap (((a + e * 2 : Nat) : Int) + 1) = ((a + e * 2 + 1 : Nat) : Int) := by rw [wrap_i64 (by omega) (by omega)]; omega
 have w8 : IntKind.u64.wrap ((q : Int) - 1) = ((q - 1 : Nat) : Int) := by rw [wrap_u64 (by omega) (by omega)]; omega
 simp -implicitDefEqProofs only [go_sem, go_sem_proc, t1, w2, w4, w6, w7, show ((i : Int) ≤ ((a + e * 2 + 1 : Nat) : Int)) by omega]
 refine WP_call (xor_ok hr) fun v J2 hv => ?_
 obtain ⟨z', rfl, rfl⟩ := hv
 have hand := and_le z' (q - 1) (by omega)
 have hb := lt_get hJ
 have hJ2 : (J.setIfInBounds r (.cells 0 [.int .u64 z'] false))[b]? = some (.cells 0 (uL X) false) := by rw [Array.getElem?_setIfInBounds, if_neg hrb]; exact hJ
 have fin : ∀ t : Nat, a + t < n → WP (dn BI l_slices_breakPatternsOrdered_int32_k0 [.sl b 0 0 X.length cap 1, nI a, nI d, .ptr r 0 0, .int .u64 (q : Int), nI i, nI t] (J.setIfInBounds r (.cells 0 [.int .u64 z'] false))) K := fun t ht =>
  bp_k0 hJ2 hn hc (i := i) (t := t) ⟨hi, by omega⟩ ht (List.getElem?_eq_getElem (by omega)) (List.getElem?_eq_getElem (by omega)) K (hK z' _ (.swap hn ⟨by omega, by omega⟩ ⟨by omega, by omega⟩))
 have key : ∀ u : Nat, u ≤ q - 1 → (if IntKind.i64.wrap (u : Int) ≥ (d : Int) then WP (dn BI l_slices_breakPatternsOrdered_int32_k0 [.sl b 0 0 X.length cap 1, nI a, nI d, .ptr r 0 0, .int .u64 (q : Int), nI i, .int .i64 (IntKind.i64.wrap (IntKind.i64.wrap (u : Int) - (d : Int)))] (J.setIfInBounds r (.cells 0 [.int .u64 z'] false))) K
   else WP (dn BI l_slices_breakPatternsOrdered_int32_k0 [.sl b 0 0 X.length cap 1, nI a, nI d, .ptr r 0 0, .int .u64 (q : Int), nI i, .int .i64 (IntKind.i64.wrap (u : Int))] (J.setIfInBounds r (.cells 0 [.int .u64 z'] false))) K) := by
  intro u hu
  have w9 : IntKind.i64.wrap (u : Int) = (u : Int) := wrap_i64 (by omega) (by omega)
  rw [w9]
  by_cases hge : u ≥ d
  ·have w10 : IntKind.i64.wrap ((u : Int) - (d : Int)) = ((u - d : Nat) : Int) := by rw [wrap_i64 (by omega) (by omega)]; omega
   rw [if_pos (by omega), w10]
   exact fin (u - d) (by omega)
  ·rw [if_neg (by omega)]
   exact fin u (by omega)
 simp -implicitDefEqProofs only [go_sem, go_sem_proc, w8]
 exact key _ hand
theorem BreakL_ok (h8 : a + 8 ≤ n) (h16 : n - a ≤ 100) : RP (ic BI F_slices_breakPatternsOrdered_int32 [.sl b 0 0 X.length cap 1, nI a, nI n] J) fun v J' => ∃ Y, Same X Y a n ∧ J'[b]? = some (.cells 0 (uL Y) false) ∧ Fr J J' [b] := by
 refine RP_run fn_slices_breakPatternsOrdered_int32 rfl fun K hK => ?_
 unfold l_slices_breakPatternsOrdered_int32
 have hwd : IntKind.i64.wrap ((n : Int) - (a : Int)) = ((n - a : Nat) : Int) := by rw [wrap_i64 (by omega) (by omega)]; omega
 obtain ⟨q, hq, q1, q2⟩ := powL_ok (n - a) (by omega) (by omega)
 have hb := lt_get hJ
 have t1 : (((n - a : Nat) : Int).tdiv 4) = (((n - a) / 4 : Nat) : Int) := rfl
 have w2 : IntKind.i64.wrap (((n - a) / 4 : Nat) : Int) = (((n - a) / 4 : Nat) : Int) := wrap_i64 (by omega) (by omega)
 have w4 : IntKind.i64.wrap ((((n - a) / 4 : Nat) : Int) * 2) = (((n - a) / 4 * 2 : Nat) : Int) := by rw [wrap_i64 (by omega) (by omega)]; omega
 have w6 : IntKind.i64.wrap ((a : Int) + (((n - a) / 4 * 2 : Nat) : Int)) = ((a + (n - a) / 4 * 2 : Nat) : Int) := by rw [wrap_i64 (by omega) (by omega)]; omega
 have w7 : IntKind.i64.wrap (((a + (n - a) / 4 * 2 : Nat) : Int) - 1) = ((a + (n - a) / 4 * 2 - 1 : Nat) : Int) := by rw [wrap_i64 (by omega) (by omega)]; omega
 have w9 : IntKind.u64.wrap ((n - a : Nat) : Int) = ((n - a : Nat) : Int) := wrap_u64 (by omega) (by omega)
 have hge : (((n - a : Nat) : Int) ≥ 8) := by omega
 have c13 : ∀ z : Int, (J.push (.cells 0 [.int .u64 z] false)).size = J.size + 1 := fun z => by simp
 simp -implicitDefEqProofs only [go_sem, go_sem_proc, hwd, hge, w9, dcp hq rfl, t1, w2, w4, w6, w7, dn_loop]
 have hpush := Fr.push J (.cells 0 [.int .u64 ((n - a : Nat) : Int)] false) [b]
 have hJ0 : (J.push (.cells 0 [.int .u64 ((n - a : Nat) : Int)] false))[b]? = some (.cells 0 (uL X) false) := by rw [Array.getElem?_push, if_neg (by omega)]; exact hJ
 refine WP_rangeT 3 (fun k vs J' => ∃ (z : Int) (Y : List Int), vs = [.sl b 0 0 X.length cap 1, nI a, nI (n - a), .ptr J.size 0 0, .int .u64 (q : Int), nI (a + (n - a) / 4 * 2 - 1 + k)] ∧ J'[J.size]? = some (.cells 0 [.int .u64 z] false) ∧ J'[b]? = some (.cells 0 (uL Y) false) ∧ Same X Y a n ∧ Fr J J' [b]) ?_ ⟨_, X, rfl, push_get _ _, hJ0, .refl _ _ _, hpush⟩
 rintro k vs J1 ⟨z, Y, rfl, hz, hY, hS, f1⟩ hk K1 g1 g2 g3
 have hl := hS.len
 by_cases h3 : k < 3
 ·have hrnd := bp_k1L (X := Y) (cap := cap) hY (a := a) (n := n) (by omega) (by omega) (r := J.size) (q := q) (i := a + (n - a) / 4 * 2 - 1 + k) h8 h16 q1 q2 hz (by omega) (by omega) (by omega) K1 fun z' Z hZ => by
   refine g1 h3 _ _ ⟨z', Z, by rw [hl]; rfl, ?_, set_get _ (by simp; exact lt_get hY), hS.trans hZ, ?_⟩
   ·rw [Array.getElem?_setIfInBounds, if_neg (by omega)]
    exact set_get _ (lt_get hz)
   ·have f2 : Fr J1 (J1.setIfInBounds J.size (.cells 0 [.int .u64 z'] false)) [J.size] := Fr.set _ _ (by simp)
    have f3 := Fr.set (J1.setIfInBounds J.size (.cells 0 [.int .u64 z'] false)) (b := b) (.cells 0 (uL Z) false) (S := [b]) (by simp)
    exact (f1.trans f2 (fun d hd hm => by simp at hm; omega)).trans f3 (fun _ _ h => h)
  rw [hl] at hrnd
  exact hrnd
 ·obtain rfl : k = 3 := by omega
  unfold l_slices_breakPatternsOrdered_int32_k1
  have w8 : IntKind.i64.wrap (((a + (n - a) / 4 * 2 : Nat) : Int) + 1) = ((a + (n - a) / 4 * 2 + 1 : Nat) : Int) := by rw [wrap_i64 (by omega) (by omega)]; omega
  have hno : ¬ (((a + (n - a) / 4 * 2 - 1 + 3 : Nat) : Int) ≤ ((a + (n - a) / 4 * 2 + 1 : Nat) : Int)) := by omega
  simp -implicitDefEqProofs only [go_sem, go_sem_proc, t1, w2, w4, w6, w8, hno]
  exact g3 _ _ (hK _ _ ⟨Y, hS, hY, f1⟩)
end
end Go.Proofs.Ytdclinhgekbejaa.G
namespace Go.Proofs.Ytdclinhgekbejaa.G
open Go
def PdqPL (b cap d : Nat) : Prop := ∀ (X : List Int) (a n l : Nat) (J : JH), n - a = d → a ≤ n → n ≤ X.length → X.length ≤ 1000000 → d ≤ 100 → l ≤ 1000000 → J[b]? = some (.cells 0 (uL X) false) → Low X a n →
 RP (ic BI F_slices_pdqsortOrdered_int32 [.sl b 0 0 X.length cap 1, nI a, nI n, nI l] J) fun v J' => v = .tup [] ∧ ∃ Y, Same X Y a n ∧ Rises Y a n ∧ J'[b]? = some (.cells 0 (uL Y) false) ∧ Fr J J' [b]
section
variable {X : List Int} {b cap : Nat} {J : JH} (hJ : J[b]? = some (.cells 0 (uL X) false)) {a n : Nat} (hn : n ≤ X.length) (hc : X.length ≤ 1000000)
include hJ hn hc
theorem pdqL_k0 (IH : ∀ d, d < n - a → PdqPL b cap d) {q l : Nat} (hq : a ≤ q ∧ q < n) (hd : n - a ≤ 100) (hl2 : l ≤ 1000000) (hlow : Low X a n) (K : Out IV → JH → Prop) (hK : PNext b cap X a n l J K) :
  WP (dn BI l_slices_pdqsortOrdered_int32_k0 [.sl b 0 0 X.length cap 1, nI a, nI n, nI l, nI (n - a), nI q] J) K := by
 unfold l_slices_pdqsortOrdered_int32_k0
 simp -implicitDefEqProofs only [go_sem, go_sem_proc]
 refine WP_call (Part_ok hJ hn hc hq) fun v J1 hv => ?_
 obtain ⟨m, f, Y, rfl, hS, hP, rfl⟩ := hv
 obtain ⟨hm1, hm2⟩ := hP.at'
 obtain ⟨p, hp, hpl, hpr⟩ := hP.ex
 have hb := lt_get hJ
 have hY := set_get J (X := (IB.cells 0 (uL Y) false : IB)) hb
 have hlen := hS.len
 have w1 : IntKind.i64.wrap ((m : Int) - (a : Int)) = ((m - a : Nat) : Int) := by rw [wrap_i64 (by omega) (by omega)]; omega
 have w2 : IntKind.i64.wrap ((n : Int) - (m : Int)) = ((n - m : Nat) : Int) := by rw [wrap_i64 (by omega) (by omega)]; omega
 have w3 : IntKind.i64.wrap ((m : Int) + 1) = ((m + 1 : Nat) : Int) := by rw [wrap_i64 (by omega) (by omega)]; omega
 have t1 : (((n - a : Nat) : Int).tdiv 8) = (((n - a) / 8 : Nat) : Int) := rfl
 have w4 : IntKind.i64.wrap (((n - a) / 8 : Nat) : Int) = (((n - a) / 8 : Nat) : Int) := wrap_i64 (by omega) (by omega)
 have f1 : Fr J (J.setIfInBounds b (.cells 0 (uL Y) false)) [b] := Fr.set _ _ (by simp)
 by_cases c : m - a < n - m
 ·simp -implicitDefEqProofs only [go_sem, go_sem_proc, w1, w2, t1, w4, show (((m - a : Nat) : Int) < ((n - m : Nat) : Int)) by omega]
  have hcall := IH (m - a) (by omega) Y a m l _ rfl hm1 (by omega) (by omega) (by omega) hl2 hY ((hlow.same hS (Nat.le_refl _) (Nat.le_refl _)).mono (by omega))
  rw [hlen] at hcall
  refine WP_call hcall fun v J2 hv => ?_
  obtain ⟨rfl, Y2, hS2, hR2, hJ2, f2⟩ := hv
  simp -implicitDefEqProofs only [go_sem, go_sem_proc, w3]
  have hpm : Y2[m]? = some p := by rw [hS2.out m (by omega)]; exact hp
  have hr2 : ∀ k v, m < k → k < n → Y2[k]? = some v → p ≤ v := fun k v k1 k2 hv => by rw [hS2.out k (by omega)] at hv; exact hpr k v k1 k2 hv
  have hl2 : ∀ k v, a ≤ k → k < m → Y2[k]? = some v → v ≤ p := hS2.all (fun v => v ≤ p) hpl
  refine hK Y2 J2 (m + 1) n _ f (by omega) (by omega) (by omega) (by omega) (hS.trans (hS2.mono (by omega) (by omega))) ?_ ?_ hJ2 (f1.trans f2 fun _ _ h => h)
  ·intro x _ hx k v k1 k2 hv
   rw [Nat.add_sub_cancel, hpm] at hx
   obtain rfl := Option.some.inj hx
   exact hr2 k v (by omega) k2 hv
  ·intro Z hZ hR
   refine Rises.join (m := m) (p := p) (hR2.same hZ (.inl (by omega))) hR (by rw [hZ.out m (by omega)]; exact hpm) (fun k v k1 k2 hv => ?_) (hZ.all (fun v => p ≤ v) (fun k v k1 k2 hv => hr2 k v (by omega) k2 hv))
   rw [hZ.out k (by omega)] at hv
   exact hl2 k v k1 k2 hv
 ·simp -implicitDefEqProofs only [go_sem, go_sem_proc, w1, w2, t1, w4, show ¬ (((m - a : Nat) : Int) < ((n - m : Nat) : Int)) by omega, w3]
  have hlw : Low Y (m + 1) n := by
   intro x _ hx k v k1 k2 hv
   rw [Nat.add_sub_cancel, hp] at hx
   obtain rfl := Option.some.inj hx
   exact hpr k v (by omega) k2 hv
  have hcall := IH (n - (m + 1)) (by omega) Y (m + 1) n l _ rfl (by omega) (by omega) (by omega) (by omega) hl2 hY hlw
  rw [hlen] at hcall
  refine WP_call hcall fun v J2 hv => ?_
  obtain ⟨rfl, Y2, hS2, hR2, hJ2, f2⟩ := hv
  simp -implicitDefEqProofs only [go_sem, go_sem_proc]
  have hpm : Y2[m]? = some p := by rw [hS2.out m (by omega)]; exact hp
  have hl2 : ∀ k v, a ≤ k → k < m → Y2[k]? = some v → v ≤ p := fun k v k1 k2 hv => by rw [hS2.out k (by omega)] at hv; exact hpl k v k1 k2 hv
  have hr2 : ∀ k v, m + 1 ≤ k → k < n → Y2[k]? = some v → p ≤ v := hS2.all (fun v => p ≤ v) (fun k v k1 k2 hv => hpr k v (by omega) k2 hv)
  refine hK Y2 J2 a m _ f (by omega) (by omega) (by omega) (by omega) (hS.trans (hS2.mono (by omega) (by omega))) ?_ ?_ hJ2 (f1.trans f2 fun _ _ h => h)
  ·exact ((hlow.same (hS.trans (hS2.mono (by omega) (by omega))) (Nat.le_refl _) (Nat.le_refl _)).mono (by omega))
  ·intro Z hZ hR
   refine Rises.join (m := m) (p := p) hR (hR2.same hZ (.inr (by omega))) (by rw [hZ.out m (by omega)]; exact hpm) (hZ.all (fun v => v ≤ p) hl2) (fun k v k1 k2 hv => ?_)
   rw [hZ.out k (by omega)] at hv
   exact hr2 k v (by omega) k2 hv
theorem pdqL_k1 (IH : ∀ d, d < n - a → PdqPL b cap d) {q l : Nat} {wb wp : Bool} (hq : a ≤ q ∧ q < n) (hd : n - a ≤ 100) (hl2 : l ≤ 1000000) (hlow : Low X a n) (K : Out IV → JH → Prop) (hK : PNext b cap X a n l J K) :
  WP (dn BI l_slices_pdqsortOrdered_int32_k1 [.sl b 0 0 X.length cap 1, nI a, nI n, nI l, .sc (.bool wb), .sc (.bool wp), nI (n - a), nI q] J) K := by
 unfold l_slices_pdqsortOrdered_int32_k1
 have hrest := (pdqL_k0 (cap := cap) hJ hn hc IH hq hd hl2 hlow K hK)
 by_cases h0 : a = 0
 ·subst h0
  simp -implicitDefEqProofs only [go_sem, go_sem_proc, show ¬ (((0 : Nat) : Int) > 0) by omega]
  exact hrest
 ·have w1 : IntKind.i64.wrap ((a : Int) - 1) = ((a - 1 : Nat) : Int) := by rw [wrap_i64 (by omega) (by omega)]; omega
  have e1 : ((uL X).drop (a - 1)).take 1 = [uI X[a - 1]] := uL_at X (by omega)
  have e2 : ((uL X).drop q).take 1 = [uI X[q]] := uL_at X (by omega)
  have x1 : X[a - 1]? = some X[a - 1] := List.getElem?_eq_getElem (by omega)
  have x2 : X[q]? = some X[q] := List.getElem?_eq_getElem (by omega)
  generalize X[a - 1] = x at *
  generalize X[q] = y at *
  have hle := hlow x (by omega) x1 q y hq.1 hq.2 x2
  have l1 := uL_len X
  have j1 : (0 + (a - 1) * 1 = a - 1) := by omega
  have j2 : (0 + q * 1 = q) := by omega
  have j3 : (a - 1 < X.length) = True := by simp; omega
  have j4 : (q < X.length) = True := by simp; omega
  have u1 : ∀ t, icells (uI t) = [uI t] := fun t => rfl
  have u2 : ∀ t, ione (uI t) = true := fun t => rfl
  have r1 : a - 1 + 1 ≤ X.length := by omega
  have r2 : q + 1 ≤ X.length := by omega
  have hless := uLess_ok x y
  have c1 : ((a : Int) > 0) := by omega
  by_cases hlt : x < y
  ·have hl : pc BI F_cmp_Less_int32 [uI x, uI y] = some (.sc (.bool true)) := by rw [hless]; simp [hlt]
   simp -implicitDefEqProofs only [go_sem, go_sem_proc, c1, w1, j1, j2, j3, j4, hJ, l1, r1, r2, e1, e2, dcp hl rfl]
   exact hrest
  ·have hl : pc BI F_cmp_Less_int32 [uI x, uI y] = some (.sc (.bool false)) := by rw [hless]; simp [hlt]
   obtain rfl : y = x := by omega
   simp -implicitDefEqProofs only [go_sem, go_sem_proc, c1, w1, j1, j2, j3, j4, hJ, l1, r1, r2, e1, e2, dcp hl rfl]
   refine WP_join fun K1 g1 g2 g3 => ?_
   refine WP_call (PartEq_ok hJ hn hc hq x2) fun v J1 hv => ?_
   obtain ⟨m, Y, rfl, hS, hm1, hm2, hYl, hYr, rfl⟩ := hv
   simp -implicitDefEqProofs only [go_sem, go_sem_proc]
   refine g2 _ _ _ (by omega) (hK Y _ m n wb wp (by omega) (by omega) hm2 (by omega) hS ?_ ?_ (set_get _ (lt_get hJ)) (Fr.set _ _ (by simp)))
   ·intro z _ hz k v k1 k2 hv
    have := hYl (m - 1) z (by omega) (by omega) hz
    have := hYr k v (by omega) k2 hv
    omega
   ·have hge : ∀ k v, a ≤ k → k < n → Y[k]? = some v → y ≤ v := hS.all (fun v => y ≤ v) (fun k v k1 k2 hv => hlow y (by omega) x1 k v k1 k2 hv)
    intro Z hZ hR i j u v hi hij hj hu hv
    by_cases c2 : m ≤ i
    ·exact hR i j u v c2 hij hj hu hv
    ·rw [hZ.out i (by omega)] at hu
     have h1 := hYl i u hi (by omega) hu
     have h2 : y ≤ v := (hS.trans (hZ.mono (by omega) (by omega))).all (fun v => y ≤ v) (fun k v k1 k2 hv => hlow y (by omega) x1 k v k1 k2 hv) j v (by omega) hj hv
     omega
theorem pdqL_k2 (IH : ∀ d, d < n - a → PdqPL b cap d) {q l : Nat} {wb wp : Bool} {h : Int} (hq : a ≤ q ∧ q < n) (hd : n - a ≤ 100) (hl2 : l ≤ 1000000) (hlow : Low X a n) (K : Out IV → JH → Prop) (hK : PNext b cap X a n l J K) (hF : PFin b X a n J K) :
  WP (dn BI l_slices_pdqsortOrdered_int32_k2 [.sl b 0 0 X.length cap 1, nI a, nI n, nI l, .sc (.bool wb), .sc (.bool wp), nI (n - a), nI q, .int .i64 h] J) K := by
 unfold l_slices_pdqsortOrdered_int32_k2
 have hrest := (pdqL_k1 (cap := cap) (wb := wb) (wp := wp) hJ hn hc IH hq hd hl2 hlow K hK)
 cases wb
 ·simp -implicitDefEqProofs only [go_sem, go_sem_proc]
  exact hrest
 ·cases wp
  ·simp -implicitDefEqProofs only [go_sem, go_sem_proc]
   exact hrest
  ·by_cases h1 : h = 1
   ·subst h1
    simp -implicitDefEqProofs only [go_sem, go_sem_proc]
    refine WP_join fun K1 g1 g2 g3 => ?_
    refine WP_call (partialL_ok hJ (by omega) hn hc hlow) fun v J1 hv => ?_
    obtain ⟨r, Y, rfl, hr, hS, rfl⟩ := hv
    have hlen := hS.len
    have hJ1 := set_get J (X := (IB.cells 0 (uL Y) false : IB)) (lt_get hJ)
    have f1 : Fr J (J.setIfInBounds b (.cells 0 (uL Y) false)) [b] := Fr.set _ _ (by simp)
    cases r
    ·simp -implicitDefEqProofs only [go_sem, go_sem_proc]
     refine g1 _ _ ?_
     have := pdqL_k1 (cap := cap) (wb := true) (wp := true) (l := l) hJ1 (by omega) (by omega) IH hq hd hl2 (hlow.same hS (Nat.le_refl _) (Nat.le_refl _)) K (fun Z J3 a' n' wb wp k1 k2 k3 k4 k5 k6 k7 k8 k9 => by
      rw [hlen]
      exact hK Z J3 a' n' wb wp k1 k2 k3 k4 (hS.trans k5) k6 k7 k8 (f1.trans k9 fun _ _ h => h))
     rw [hlen] at this
     exact this
    ·simp -implicitDefEqProofs only [go_sem, go_sem_proc]
     exact g3 _ _ (hF Y _ hS (hr rfl) hJ1 f1)
   ·have k1 : (h == 1) = false := by simpa using h1
    simp -implicitDefEqProofs only [go_sem, go_sem_proc, k1]
    exact hrest
theorem pdqL_k3 (IH : ∀ d, d < n - a → PdqPL b cap d) {l : Nat} {wb wp : Bool} (h8 : a + 8 ≤ n) (hd : n - a ≤ 100) (hl2 : l ≤ 1000000) (hlow : Low X a n) (K : Out IV → JH → Prop) (hK : PNext b cap X a n l J K) (hF : PFin b X a n J K) :
  WP (dn BI l_slices_pdqsortOrdered_int32_k3 [.sl b 0 0 X.length cap 1, nI a, nI n, nI l, .sc (.bool wb), .sc (.bool wp), nI (n - a)] J) K := by
 unfold l_slices_pdqsortOrdered_int32_k3
 simp -implicitDefEqProofs only [go_sem, go_sem_proc]
 refine WP_call (chooseL_ok hJ h8 hn hc) fun v J1 hv => ?_
 obtain ⟨⟨p, h, rfl, hp1, hp2⟩, f1⟩ := hv
 have hJ1 : J1[b]? = some (.cells 0 (uL X) false) := by rw [f1.2 b (lt_get hJ) (by simp)]; exact hJ
 have f1b : Fr J J1 [b] := ⟨f1.1, fun d hd _ => f1.2 d hd (by simp)⟩
 by_cases h2 : h = 2
 ·subst h2
  simp -implicitDefEqProofs only [go_sem, go_sem_proc]
  refine WP_join fun K1 g1 g2 g3 => ?_
  refine WP_call (Rev_ok X b cap a n (by omega) hn hc J1 hJ1) fun v J2 hv => ?_
  obtain ⟨rfl, Y, hS, rfl⟩ := hv
  have hlen := hS.len
  have w1 : IntKind.i64.wrap ((n : Int) - 1) = ((n - 1 : Nat) : Int) := by rw [wrap_i64 (by omega) (by omega)]; omega
  have w2 : IntKind.i64.wrap ((p : Int) - (a : Int)) = ((p - a : Nat) : Int) := by rw [wrap_i64 (by omega) (by omega)]; omega
  have w3 : IntKind.i64.wrap (((n - 1 : Nat) : Int) - ((p - a : Nat) : Int)) = ((n - 1 - (p - a) : Nat) : Int) := by rw [wrap_i64 (by omega) (by omega)]; omega
  simp -implicitDefEqProofs only [go_sem, go_sem_proc, w1, w2, w3]
  refine g1 _ _ ?_
  have hJ2 := set_get J1 (X := (IB.cells 0 (uL Y) false : IB)) (lt_get hJ1)
  have f2 : Fr J (J1.setIfInBounds b (.cells 0 (uL Y) false)) [b] := f1b.trans (Fr.set _ _ (S := [b]) (by simp)) fun _ _ h => h
  have := pdqL_k2 (cap := cap) (q := n - 1 - (p - a)) (l := l) (wb := wb) (wp := wp) (h := 1) hJ2 (by omega) (by omega) IH (by omega) hd hl2 (hlow.same hS (Nat.le_refl _) (Nat.le_refl _)) K (fun Z J3 a' n' wb wp k1 k2 k3 k4 k5 k6 k7 k8 k9 => by
   rw [hlen]
   exact hK Z J3 a' n' wb wp k1 k2 k3 k4 (hS.trans k5) k6 k7 k8 (f2.trans k9 fun _ _ h => h)) (fun Z J3 k1 k2 k3 k4 => hF Z J3 (hS.trans k1) k2 k3 (f2.trans k4 fun _ _ h => h))
  rw [hlen] at this
  exact this
 ·have k1 : (h == 2) = false := by simpa using h2
  simp -implicitDefEqProofs only [go_sem, go_sem_proc, k1]
  exact pdqL_k2 hJ1 hn hc IH ⟨hp1, hp2⟩ hd hl2 hlow K (fun Z J3 a' n' wb wp k1 k2 k3 k4 k5 k6 k7 k8 k9 => hK Z J3 a' n' wb wp k1 k2 k3 k4 k5 k6 k7 k8 (f1b.trans k9 fun _ _ h => h)) (fun Z J3 k1 k2 k3 k4 => hF Z J3 k1 k2 k3 (f1b.trans k4 fun _ _ h => h))
theorem pdqL_k4 (IH : ∀ d, d < n - a → PdqPL b cap d) {l : Nat} {wb wp : Bool} (han : a ≤ n) (hd : n - a ≤ 100) (hl2 : l ≤ 1000000) (hlow : Low X a n) (K : Out IV → JH → Prop) (hK : ∀ l', l' ≤ l → PNext b cap X a n l' J K) (hF : PFin b X a n J K) :
  WP (dn BI l_slices_pdqsortOrdered_int32_k4 [.sl b 0 0 X.length cap 1, nI a, nI n, nI l, .sc (.bool wb), .sc (.bool wp)] J) K := by
 unfold l_slices_pdqsortOrdered_int32_k4
 have w1 : IntKind.i64.wrap ((n : Int) - (a : Int)) = ((n - a : Nat) : Int) := by rw [wrap_i64 (by omega) (by omega)]; omega
 by_cases h12 : n - a ≤ 12
 ·simp -implicitDefEqProofs only [go_sem, go_sem_proc, w1, show (((n - a : Nat) : Int) ≤ 12) by omega]
  refine WP_call (InsR_ok X b cap a n han hn hc J hJ) fun v J1 hv => ?_
  obtain ⟨rfl, Y, hS, hR, rfl⟩ := hv
  simp -implicitDefEqProofs only [go_sem, go_sem_proc]
  exact hF Y _ hS hR (set_get _ (lt_get hJ)) (Fr.set _ _ (by simp))
 ·by_cases hl0 : l = 0
  ·subst hl0
   simp -implicitDefEqProofs only [go_sem, go_sem_proc, w1, show ¬ (((n - a : Nat) : Int) ≤ 12) by omega]
   refine WP_call (Heap_ok hJ hn hc (by omega)) fun v J1 hv => ?_
   obtain ⟨Y, hS, hR, rfl⟩ := hv
   simp -implicitDefEqProofs only [go_sem, go_sem_proc]
   exact hF Y _ hS hR (set_get _ (lt_get hJ)) (Fr.set _ _ (by simp))
  have k1 : ((l : Int) == 0) = false := by simp; omega
  simp -implicitDefEqProofs only [go_sem, go_sem_proc, w1, show ¬ (((n - a : Nat) : Int) ≤ 12) by omega, k1]
  cases wb
  ·simp -implicitDefEqProofs only [go_sem, go_sem_proc]
   refine WP_join fun K1 g1 g2 g3 => ?_
   refine WP_call (BreakL_ok hJ hn hc (by omega) hd) fun v J1 hv => ?_
   obtain ⟨Y, hS, hJ1, f1⟩ := hv
   have hlen := hS.len
   have w2 : IntKind.i64.wrap ((l : Int) - 1) = ((l - 1 : Nat) : Int) := by rw [wrap_i64 (by omega) (by omega)]; omega
   simp -implicitDefEqProofs only [go_sem, go_sem_proc, w2]
   refine g1 _ _ ?_
   have := pdqL_k3 (cap := cap) (l := l - 1) (wb := false) (wp := wp) hJ1 (by omega) (by omega) IH (by omega) hd (by omega) (hlow.same hS (Nat.le_refl _) (Nat.le_refl _)) K (fun Z J3 a' n' wb wp k1 k2 k3 k4 k5 k6 k7 k8 k9 => by
    rw [hlen]
    exact hK (l - 1) (by omega) Z J3 a' n' wb wp k1 k2 k3 k4 (hS.trans k5) k6 k7 k8 (f1.trans k9 fun _ _ h => h)) (fun Z J3 k1 k2 k3 k4 => hF Z J3 (hS.trans k1) k2 k3 (f1.trans k4 fun _ _ h => h))
   rw [hlen] at this
   exact this
  ·simp -implicitDefEqProofs only [go_sem, go_sem_proc]
   exact pdqL_k3 hJ hn hc IH (by omega) hd hl2 hlow K (hK l (Nat.le_refl _)) hF
end
theorem PdqL_ok (b cap : Nat) : ∀ d, PdqPL b cap d := by
 intro d
 induction d using Nat.strongRecOn with
 | ind d IH =>
  intro X a n l J hd han hn hc h16 hl2 hJ hlow
  refine RP_run fn_slices_pdqsortOrdered_int32 rfl fun K hK => ?_
  unfold l_slices_pdqsortOrdered_int32
  simp -implicitDefEqProofs only [go_sem, go_sem_proc, dn_loop]
  refine WP_iter (fun m vs J' => ∃ a' n' l' Y, ∃ wb wp : Bool, m = n' - a' ∧ vs = [.sl b 0 0 X.length cap 1, nI a', nI n', nI l', .sc (.bool wb), .sc (.bool wp)] ∧ a ≤ a' ∧ n' ≤ n ∧ a' ≤ n' ∧ l' ≤ l ∧ Same X Y a n ∧ Low Y a' n' ∧ (∀ Z, Same Y Z a' n' → Rises Z a' n' → Rises Z a n) ∧ J'[b]? = some (.cells 0 (uL Y) false) ∧ Fr J J' [b]) ?_ (n - a) _ _ ⟨a, n, l, X, true, true, rfl, rfl, Nat.le_refl _, Nat.le_refl _, han, Nat.le_refl _, .refl _ _ _, hlow, fun _ _ h => h, hJ, .refl _ _⟩
  rintro m vs J1 ⟨a', n', l', Y, wb, wp, rfl, rfl, i1, i2, i3, i5, hS, hlow1, hgood, hJ1, f1⟩ K1 g1 g2 g3
  have hlen := hS.len
  have hr := pdqL_k4 (cap := cap) (l := l') (wb := wb) (wp := wp) hJ1 (a := a') (n := n') (by omega) (by omega) (fun e he => IH e (by omega)) i3 (by omega) (by omega) hlow1 K1 (fun l2 q1 Z J3 a2 n2 wb wp k1 k2 k3 k4 k5 k6 k7 k8 k9 => by
   rw [hlen]
   exact g1 _ (n2 - a2) _ k4 ⟨a2, n2, l2, Z, wb, wp, rfl, rfl, by omega, by omega, k3, by omega, hS.trans (k5.mono (by omega) (by omega)), k6, fun W w1 w2 => hgood W (k5.trans (w1.mono (by omega) (by omega))) (k7 W w1 w2), k8, f1.trans k9 fun _ _ h => h⟩) (fun Z J3 k1 k2 k3 k4 => g3 _ _ (hK _ _ ⟨rfl, Z, hS.trans (k1.mono (by omega) (by omega)), hgood Z k1 k2, k3, f1.trans k4 fun _ _ h => h⟩))
  rw [hlen] at hr
  exact hr
noncomputable def lenB (k : Nat) : Bool := match icall BI 20 F_math_bits_Len [.int .u64 (k : Int)] #[] with | some (.sc (.int .i64 q), _) => decide (0 ≤ q) && decide (q ≤ 7) | _ => false
theorem lens : ((List.range 101).all lenB) = true := by kernel_rfl
theorem lenL_ok (k : Nat) (h100 : k ≤ 100) : ∃ q : Nat, pc BI F_math_bits_Len [.int .u64 (k : Int)] = some (nI q) ∧ q ≤ 7 := by
 have h := List.all_eq_true.1 lens k (by simp; omega)
 unfold lenB at h
 split at h
 ·rename_i q J he
  simp only [Bool.and_eq_true, decide_eq_true_eq] at h
  refine ⟨q.toNat, pcK 20 ?_, by omega⟩
  rw [he]
  have e : nI q.toNat = .sc (.int .i64 q) := by
   have : ((q.toNat : Nat) : Int) = q := by omega
   show IV.sc (.int .i64 ((q.toNat : Nat) : Int)) = _
   rw [this]
  rw [e]; exact frzP rfl
 ·cases h
theorem SortL_ok (X0 : List Int) (b cap : Nat) (hc : X0.length ≤ 100) (J : JH) (hJ : J[b]? = some (.cells 0 (uL X0) false)) :
  RP (ic BI F_slices_Sort_Lint32_int32 [.sl b 0 0 X0.length cap 1] J) fun v J' => v = .tup [] ∧ ∃ Y, Y.Perm X0 ∧ Y.Pairwise (· ≤ ·) ∧ J'[b]? = some (.cells 0 (uL Y) false) ∧ Fr J J' [b] := by
 refine RP_run fn_slices_Sort_Lint32_int32 rfl fun K hK => ?_
 unfold l_slices_Sort_Lint32_int32
 obtain ⟨q, hq, hq3⟩ := lenL_ok X0.length hc
 have hp := PdqL_ok b cap X0.length X0 0 X0.length q J rfl (Nat.zero_le _) (Nat.le_refl _) (by omega) hc (by omega) hJ (fun x h0 => by omega)
 have hw : IntKind.u64.wrap (X0.length : Int) = (X0.length : Int) := by
  simp only [IntKind.wrap, IntKind.bits, IntKind.signed, Bool.false_and, Bool.false_eq_true, if_false]; omega
 simp -implicitDefEqProofs only [go_sem, go_sem_proc, lenF_sl, hw, dcp hq rfl]
 refine WP_call hp fun v J' hv => ?_
 obtain ⟨rfl, Y, y1, y2, y3, y4⟩ := hv
 simp -implicitDefEqProofs only [go_sem, go_sem_proc]
 have hl := y1.len
 exact hK _ _ ⟨rfl, Y, y1.perm, Rises.pair (by rw [hl]; exact y2), y3, y4⟩
end Go.Proofs.Ytdclinhgekbejaa.G
