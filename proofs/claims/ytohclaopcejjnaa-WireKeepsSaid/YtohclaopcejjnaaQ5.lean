/- Words for following code. -/
import Derived.Test.YtohclaopcejjnaaQ1
namespace Go.Proofs.Ytohclaopcejjnaa.G
open Go
theorem evI_int {ρ : List IV} {k : IntKind} {n : Int} : evI ρ (.const (.int k n)) = .int k n := rfl
theorem evI_bool {ρ : List IV} {b : Bool} : evI ρ (.const (.bool b)) = .bool b := rfl
theorem evI_nilsl {ρ : List IV} : evI ρ (.const (.slice none 0 0)) = .sc (.slice none 0 0) := rfl
theorem evI_nilp {ρ : List IV} : evI ρ (.const (.pointer none)) = .sc (.pointer none) := rfl
theorem BI_zc (t : TypeId) : BI.zc t = zcT t := rfl
theorem BI_zv (t : TypeId) : BI.zv t = zvT t := rfl
theorem BI_co (t : TypeId) : BI.co t = coT t := rfl
theorem dcp {f : FuncId} {args : List IV} {u : IV} {J : JH} (hp : pc BI f args = some u) (h : ipureL args = true) : doCall (ic BI) .pure f args J = some (u, J) := doCall_pure h hp
theorem dcr {f : FuncId} {args : List IV} {r : IV × JH} {J : JH} (hp : ic BI f args J = some r) : doCall (ic BI) .raw f args J = some r := hp
theorem agg_pure {cs : List IV} : ipure (.agg cs) = ipureL cs := by simp only [ipure]
/-- What a call of its own ends with. -/
def endP (r : Option (Out IV × JH)) : Option IV := match r with | some (.ret vs, J) => frz J DEP (itup vs) | _ => none
theorem endP_ret {vs : List IV} {J : JH} : endP (some (.ret vs, J)) = frz J DEP (itup vs) := rfl
theorem endP_ite {c : Prop} [Decidable c] {a b : Option (Out IV × JH)} : endP (if c then a else b) = if c then endP a else endP b := by split <;> rfl
theorem pc_run {f : FuncId} {l : LFn} {args : List IV} {u : IV} (hf : BI.fn f = some l) (hl : args.length = l.np) (h : endP (dn BI l.body args #[]) = some u) : pc BI f args = some u := by
  unfold endP at h
  split at h
  · rename_i vs J hd
    exact pc_intro rfl hf hl hd h
  · simp at h
theorem ic_run {f : FuncId} {l : LFn} {args : List IV} {vs : List IV} {J J' : JH} (hf : BI.fn f = some l) (hl : args.length = l.np) (h : dn BI l.body args J = some (.ret vs, J')) : ic BI f args J = some (itup vs, J') := ic_intro rfl hf hl h
theorem frzP {J : JH} {v : IV} (h : ipure v = true) : frz J DEP v = some v := frz_pure J DEP h
theorem onJoin_out {l j : Nat} {vs : List IV} {J : JH} {k : List IV → JH → Option (Out IV × JH)} : onJoin l (some (.goto j vs, J)) k = if j = l then k vs J else some (.goto j vs, J) := rfl
theorem isplice_cons (a : IV) (cs : List IV) (off : Nat) (vs : List IV) : isplice (a :: cs) off vs = (a :: cs).take off ++ vs ++ (a :: cs).drop (off + vs.length) := rfl
theorem isplice_set {cs : List IV} {i : Nat} {v : IV} (h : i < cs.length) : isplice cs i [v] = cs.set i v := by
  unfold isplice
  rw [List.set_eq_take_append_cons_drop, if_pos h]
  simp
theorem isplice_ints {κ : IntKind} {ys : List Int} {i : Nat} {x : Int} (h : i < ys.length) : isplice (ys.map (IV.int κ)) i [IV.int κ x] = (ys.set i x).map (IV.int κ) := by
  rw [isplice_set (by simpa using h), List.map_set]
theorem take1 {α : Type} {l : List α} {i : Nat} (h : i < l.length) : (l.drop i).take 1 = [l[i]] := by
  rw [List.drop_eq_getElem_cons h]; rfl
theorem take1_ints {κ : IntKind} {ys : List Int} {i : Nat} (h : i < ys.length) : ((ys.map (IV.int κ)).drop i).take 1 = [IV.int κ (ys.getD i 0)] := by
  rw [take1 (by simpa using h)]; simp [h]
theorem ints_ione {κ : IntKind} {ys : List Int} : (ys.map (IV.int κ)).all ione = true := by simp [ione, one]
theorem ints_pure {κ : IntKind} {ys : List Int} : ipureL (ys.map (IV.int κ)) = true := ipureL_iff.2 fun x hx => by
  obtain ⟨y, _, rfl⟩ := List.mem_map.1 hx; rfl
theorem ints_cells {κ : IntKind} (ys : List Int) : (ys.map (IV.int κ)).flatMap icells = ys.map (IV.int κ) := by
  induction ys with
  | nil => rfl
  | cons y ys ih => simp only [List.map_cons, List.flatMap_cons, icells, ih]; rfl
theorem grp1 : ∀ (l : List IV), grp 1 l.length l = l
  | [] => rfl
  | x :: l => by simp [grp, mkE, grp1 l]
theorem wrap_i64 {x : Int} (h0 : -9223372036854775808 ≤ x) (h1 : x ≤ 9223372036854775807) : IntKind.i64.wrap x = x := by
  simp only [IntKind.wrap, IntKind.bits, IntKind.signed, if_true]
  simp
  omega
theorem wrap_i32 {x : Int} (h0 : -2147483648 ≤ x) (h1 : x ≤ 2147483647) : IntKind.i32.wrap x = x := by
  simp only [IntKind.wrap, IntKind.bits, IntKind.signed, if_true]
  simp
  omega
theorem wrap_u32 {x : Int} (h0 : 0 ≤ x) (h1 : x < 4294967296) : IntKind.u32.wrap x = x := by
  simp only [IntKind.wrap, IntKind.bits, IntKind.signed]
  simp
  omega
theorem wrap_u64 {x : Int} (h0 : 0 ≤ x) (h1 : x < 18446744073709551616) : IntKind.u64.wrap x = x := by
  simp only [IntKind.wrap, IntKind.bits, IntKind.signed]
  simp
  omega
theorem u32_rng (x : Int) : 0 ≤ IntKind.u32.wrap x ∧ IntKind.u32.wrap x < 4294967296 := by
  simp only [IntKind.wrap, IntKind.bits, IntKind.signed]
  simp
  omega
theorem wrap_u64_eq (x : Int) : IntKind.u64.wrap x = x % 18446744073709551616 := by
  simp only [IntKind.wrap, IntKind.bits, IntKind.signed]
  simp
theorem UNK_pos : (0 < UNK) = True := by simp [UNK]
theorem one_lt_UNK : (1 < UNK) = True := by simp [UNK]
theorem lt_UNK {n : Nat} (h : n ≤ 1000000) : (n < UNK) = True := by simp [UNK]; omega
theorem not_UNK_le {n : Nat} (h : n ≤ 1000000) : (UNK ≤ n) = False := by simp [UNK]; omega
theorem frz12 : DEP = 11 + 1 := rfl
theorem frz_sl {J : JH} {k b v off n cap sz : Nat} {cs : List IV} (hsz : 0 < sz) (h : ird J b v off (n * sz) = some cs) (hp : ipureL cs = true) (ho : cs.all ione = true) : frz J (k + 1) (.sl b v off n cap sz) = some (.lst sz (n == cap && decide (cap < UNK)) (grp sz n cs)) := by
  simp only [frz, ipure, Bool.false_eq_true, if_false]
  rw [if_neg (by omega), h]
  simp only [frzL_pure J k hp, ho, if_true]
theorem frz_tup {J : JH} {k : Nat} {vs : List IV} (h : ipureL vs = false) : frz J (k + 1) (.tup vs) = (vs.mapM (frz J k)).map .tup := by
  simp only [frz, ipure, h, Bool.false_eq_true, if_false]
theorem frz_agg {J : JH} {k : Nat} {vs : List IV} (h : ipureL vs = false) : frz J (k + 1) (.agg vs) = (vs.mapM (frz J k)).map .agg := by
  simp only [frz, ipure, h, Bool.false_eq_true, if_false]
theorem dcf {f : FuncId} {args as : List IV} {u : IV} {J : JH} (ha : args.mapM (frz J DEP) = some as) (hp : pc BI f as = some u) : doCall (ic BI) .pure f args J = some (u, if iscal u then J else markA J (args.flatMap (shows J DEP))) := by
  unfold pc at hp
  simp only [doCall, ha]
  split at hp
  · rename_i v J1 hc
    simp only [hc, hp]
  · simp at hp
theorem shows_sl {J : JH} {k b v off n cap sz : Nat} {cs : List IV} (h : ird J b v off (n * sz) = some cs) (hp : ipureL cs = true) : shows J (k + 1) (.sl b v off n cap sz) = [b] := by
  simp only [shows, ipure, Bool.false_eq_true, if_false, h, showsL_pure J k hp]
set_option linter.unusedSimpArgs false
end Go.Proofs.Ytohclaopcejjnaa.G
