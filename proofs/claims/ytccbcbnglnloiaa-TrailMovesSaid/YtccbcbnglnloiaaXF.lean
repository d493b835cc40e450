/- Joined: Q5 to V7e. -/
import Derived.Test.YtccbcbnglnloiaaXE
import Derived.KernelRfl
set_option linter.unusedVariables false
set_option linter.unusedSimpArgs false
set_option maxRecDepth 20000
set_option maxHeartbeats 2000000
namespace Go.Proofs.Ytccbcbnglnloiaa.G
open Go
theorem evI_int {ρ : List IV} {k : IntKind} {n : Int} : evI ρ (.const (.int k n)) = .int k n := rfl
theorem evI_bool {ρ : List IV} {b : Bool} : evI ρ (.const (.bool b)) = .bool b := rfl
theorem evI_nilsl {ρ : List IV} : evI ρ (.const (.slice none 0 0)) = .sc (.slice none 0 0) := rfl
theorem evI_nilp {ρ : List IV} : evI ρ (.const (.pointer none)) = .sc (.pointer none) := rfl
theorem BI_zc (t : TypeId) : BI.zc t = zcT t := rfl
theorem BI_zv (t : TypeId) : BI.zv t = zvT t := rfl
theorem BI_co (t : TypeId) : BI.co t = coT t := rfl
theorem dcp {f : FuncId} {args : List IV} {u : IV} {J : JH} (hp : pc BI f args = some u) (h : ipureL args = true) : doCall (ic BI) .pure f args J = some (u, J) := doCall_pure h hp
theorem dcr {f : FuncId} {args : List IV} {r : IV × JH} {J : JH} (hp : ic BI f args J = some r) : doCall (ic BI) .raw f args J = some r := hp
theorem agg_pure {cs : List IV} : ipure (.agg cs) = ipureL cs := by simp only [ipure]
def endP (r : Option (Out IV × JH)) : Option IV := match r with | some (.ret vs, J) => frz J DEP (itup vs) | _ => none
theorem endP_ret {vs : List IV} {J : JH} : endP (some (.ret vs, J)) = frz J DEP (itup vs) := rfl
theorem endP_ite {c : Prop} [Decidable c] {a b : Option (Out IV × JH)} : endP (if c then a else b) = if c then endP a else endP b := by split <;> rfl
theorem pc_run {f : FuncId} {l : LFn} {args : List IV} {u : IV} (hf : BI.fn f = some l) (hl : args.length = l.np) (h : endP (dn BI l.body args #[]) = some u) : pc BI f args = some u := by
 unfold endP at h
 split at h
 ·rename_i vs J hd
  exact pc_intro (gv_none hf) hf hl hd h
 ·simp at h
theorem ic_run {f : FuncId} {l : LFn} {args : List IV} {vs : List IV} {J J' : JH} (hf : BI.fn f = some l) (hl : args.length = l.np) (h : dn BI l.body args J = some (.ret vs, J')) : ic BI f args J = some (itup vs, J') := ic_intro (gv_none hf) hf hl h
theorem frzP {J : JH} {v : IV} (h : ipure v = true) : frz J DEP v = some v := frz_pure J DEP h
theorem onJoin_out {l j : Nat} {vs : List IV} {J : JH} {k : List IV → JH → Option (Out IV × JH)} : onJoin l (some (.goto j vs, J)) k = if j = l then k vs J else some (.goto j vs, J) := rfl
theorem isplice_cons (a : IV) (cs : List IV) (off : Nat) (vs : List IV) : isplice (a :: cs) off vs = (a :: cs).take off ++ vs ++ (a :: cs).drop (off + vs.length) := rfl
theorem isplice_set {cs : List IV} {i : Nat} {v : IV} (h : i < cs.length) : isplice cs i [v] = cs.set i v := by
 unfold isplice
 rw [List.set_eq_take_append_cons_drop, if_pos h]
 simp
theorem isplice_ints {κ : IntKind} {ys : List Int} {i : Nat} {x : Int} (h : i < ys.length) : isplice (ys.map (IV.int κ)) i [IV.int κ x] = (ys.set i x).map (IV.int κ) := by
 rw [isplice_set (by simpa using h), List.map_set]
theorem take1 {α : Type} {l : List α} {i : Nat} (h : i < l.length) : (l.drop i).take 1 = [l[i]] := by
 rw [List.drop_eq_getElem_cons h]; rfl
theorem take1_ints {κ : IntKind} {ys : List Int} {i : Nat} (h : i < ys.length) : ((ys.map (IV.int κ)).drop i).take 1 = [IV.int κ (ys.getD i 0)] := by
 rw [take1 (by simpa using h)]; simp [h]
theorem ints_ione {κ : IntKind} {ys : List Int} : (ys.map (IV.int κ)).all ione = true := by simp [ione, one]
theorem ints_pure {κ : IntKind} {ys : List Int} : ipureL (ys.map (IV.int κ)) = true := ipureL_iff.2 fun x hx => by
 obtain ⟨y, _, rfl⟩ := List.mem_map.1 hx; rfl
theorem ints_cells {κ : IntKind} (ys : List Int) : (ys.map (IV.int κ)).flatMap icells = ys.map (IV.int κ) := by
 induction ys with
 | nil => rfl
 | cons y ys ih => simp only [List.map_cons, List.flatMap_cons, icells, ih]; rfl
theorem grp1 : ∀ (l : List IV), grp 1 l.length l = l
 | [] => rfl
 | x :: l => by simp [grp, mkE, grp1 l]
theorem wrap_i64 {x : Int} (h0 : -9223372036854775808 ≤ x) (h1 : x ≤ 9223372036854775807) : IntKind.i64.wrap x = x := by
 simp only [IntKind.wrap, IntKind.bits, IntKind.signed, if_true]
 simp
 omega
theorem wrap_i32 {x : Int} (h0 : -2147483648 ≤ x) (h1 : x ≤ 2147483647) : IntKind.i32.wrap x = x := by
 simp only [IntKind.wrap, IntKind.bits, IntKind.signed, if_true]
 simp
 omega
theorem wrap_u32 {x : Int} (h0 : 0 ≤ x) (h1 : x < 4294967296) : IntKind.u32.wrap x = x := by
 simp only [IntKind.wrap, IntKind.bits, IntKind.signed]
 simp
 omega
theorem wrap_u64 {x : Int} (h0 : 0 ≤ x) (h1 : x < 18446744073709551616) : IntKind.u64.wrap x = x := by
 simp only [IntKind.wrap, IntKind.bits, IntKind.signed]
 simp
 omega
theorem u32_rng (x : Int) : 0 ≤ IntKind.u32.wrap x ∧ IntKind.u32.wrap x < 4294967296 := by
 simp only [IntKind.wrap, IntKind.bits, IntKind.signed]
 simp
 omega
theorem UNK_pos : (0 < UNK) = True := by simp [UNK]
theorem one_lt_UNK : (1 < UNK) = True := by simp [UNK]
theorem lt_UNK {n : Nat} (h : n ≤ 1000000) : (n < UNK) = True := by simp [UNK]; omega
theorem not_UNK_le {n : Nat} (h : n ≤ 1000000) : (UNK ≤ n) = False := by simp [UNK]; omega
theorem frz12 : DEP = 11 + 1 := rfl
theorem frz_sl {J : JH} {k b v off n cap sz : Nat} {cs : List IV} (hsz : 0 < sz) (h : ird J b v off (n * sz) = some cs) (hp : ipureL cs = true) (ho : cs.all ione = true) : frz J (k + 1) (.sl b v off n cap sz) = some (.lst sz (n == cap && decide (cap < UNK)) (grp sz n cs)) := by
 simp only [frz, ipure, Bool.false_eq_true, if_false]
 rw [if_neg (by omega), h]
 simp only [frzL_pure J k hp, ho, if_true]
theorem frz_tup {J : JH} {k : Nat} {vs : List IV} (h : ipureL vs = false) : frz J (k + 1) (.tup vs) = (vs.mapM (frz J k)).map .tup := by
 simp only [frz, ipure, h, Bool.false_eq_true, if_false]
theorem frz_agg {J : JH} {k : Nat} {vs : List IV} (h : ipureL vs = false) : frz J (k + 1) (.agg vs) = (vs.mapM (frz J k)).map .agg := by
 simp only [frz, ipure, h, Bool.false_eq_true, if_false]
theorem dcf {f : FuncId} {args as : List IV} {u : IV} {J : JH} (ha : args.mapM (frz J DEP) = some as) (hp : pc BI f as = some u) : doCall (ic BI) .pure f args J = some (u, if iscal u then J else markA J (args.flatMap (shows J DEP))) := by
 unfold pc at hp
 simp only [doCall, ha]
 split at hp
 ·rename_i v J1 hc
  simp only [hc, hp]
 ·simp at hp
theorem shows_sl {J : JH} {k b v off n cap sz : Nat} {cs : List IV} (h : ird J b v off (n * sz) = some cs) (hp : ipureL cs = true) : shows J (k + 1) (.sl b v off n cap sz) = [b] := by
 simp only [shows, ipure, Bool.false_eq_true, if_false, h, showsL_pure J k hp]
def WP (r : Option (Out IV × JH)) (P : Out IV → JH → Prop) : Prop := match r with | some (o, J) => P o J | none => False
def RP (r : Option (IV × JH)) (P : IV → JH → Prop) : Prop := match r with | some (v, J) => P v J | none => False
def byOut (G : Nat → List IV → JH → Prop) (R : List IV → JH → Prop) (o : Out IV) (J : JH) : Prop := match o with | .goto j vs => G j vs J | .ret vs => R vs J
theorem byOut_goto {G R j vs J} : byOut G R (.goto j vs) J = G j vs J := rfl
theorem byOut_ret {G R vs J} : byOut G R (.ret vs) J = R vs J := rfl
theorem WP_some {o : Out IV} {J : JH} {P} : WP (some (o, J)) P = P o J := rfl
theorem RP_some {v : IV} {J : JH} {P} : RP (some (v, J)) P = P v J := rfl
theorem WP_ite {c : Prop} [Decidable c] {a b : Option (Out IV × JH)} {P} : WP (if c then a else b) P = if c then WP a P else WP b P := by split <;> rfl
theorem WP_of {r : Option (Out IV × JH)} {P} (h : WP r P) : ∃ o J, r = some (o, J) ∧ P o J := by
 cases r with
 | none => exact h.elim
 | some q => exact ⟨q.1, q.2, rfl, h⟩
theorem RP_of {r : Option (IV × JH)} {P} (h : RP r P) : ∃ v J, r = some (v, J) ∧ P v J := by
 cases r with
 | none => exact h.elim
 | some q => exact ⟨q.1, q.2, rfl, h⟩
noncomputable def thenD (r : Option (IV × JH)) (k : L) (ρ : List IV) : Option (Out IV × JH) := thenI r fun v J' => dn BI k (ρ ++ [v]) J'
noncomputable def onJoinD (l : Nat) (r : Option (Out IV × JH)) (b : L) : Option (Out IV × JH) := onJoin l r fun vs J => dn BI b vs J
noncomputable def onIfD (v : IV) (a b : L) (ρ : List IV) (J : JH) : Option (Out IV × JH) := onIf v (dn BI a ρ J) (dn BI b ρ J)
section
variable {ρ : List IV} {J : JH} {p : SOp} {k : L} {md : Md}
theorem dnW_o : dn BI (o p k) ρ J = thenD (iexec BI (ic BI) .raw ρ p J) k ρ := dn_o
theorem dnW_om : dn BI (om md p k) ρ J = thenD (iexec BI (ic BI) md ρ p J) k ρ := dn_om
theorem dnW_oc {g : Option (Operand × Bool)} {chk} : dn BI (oc g p md chk k) ρ J = thenD (stepI' BI (ic BI) ρ ⟨g, p, md, chk⟩ J) k ρ := dn_oc
theorem dnW_ite {c : Operand} {a b : L} : dn BI (.ite c a b) ρ J = onIfD (evI ρ c) a b ρ J := dn_ite
theorem dnW_join {l : Nat} {a b : L} : dn BI (.join l a b) ρ J = onJoinD l (dn BI a ρ J) b := dn_join
theorem thenD_some {v : IV} : thenD (some (v, J)) k ρ = dn BI k (ρ ++ [v]) J := rfl
theorem thenD_ite {c : Prop} [Decidable c] {a b : Option (IV × JH)} : thenD (if c then a else b) k ρ = if c then thenD a k ρ else thenD b k ρ := by split <;> rfl
theorem onIfD_bool {t : Bool} {a b : L} : onIfD (.sc (.bool t)) a b ρ J = if t = true then dn BI a ρ J else dn BI b ρ J := rfl
theorem onJoinD_out {l j : Nat} {vs : List IV} {b : L} : onJoinD l (some (.goto j vs, J)) b = if j = l then dn BI b vs J else some (.goto j vs, J) := rfl
theorem onJoinD_ret {l : Nat} {vs : List IV} {b : L} : onJoinD l (some (.ret vs, J)) b = some (.ret vs, J) := rfl
theorem onJoinD_ite {l : Nat} {c : Prop} [Decidable c] {a a' : Option (Out IV × JH)} {b : L} : onJoinD l (if c then a else a') b = if c then onJoinD l a b else onJoinD l a' b := by split <;> rfl
end
theorem WP_join {l : Nat} {r : Option (Out IV × JH)} {b : L} {K : Out IV → JH → Prop}
  (h : ∀ K' : Out IV → JH → Prop, (∀ vs J, WP (dn BI b vs J) K → K' (.goto l vs) J) → (∀ j vs J, j ≠ l → K (.goto j vs) J → K' (.goto j vs) J) → (∀ vs J, K (.ret vs) J → K' (.ret vs) J) → WP r K') : WP (onJoinD l r b) K := by
 have h1 := h (fun o J => byOut (fun j vs J => if j = l then WP (dn BI b vs J) K else K (.goto j vs) J) (fun vs J => K (.ret vs) J) o J) (fun vs J h => by simpa [byOut] using h) (fun j vs J hj h => by simpa [byOut, hj] using h) (fun vs J h => h)
 cases r with
 | none => exact h1.elim
 | some q =>
  obtain ⟨o, J⟩ := q
  cases o with
  | goto j vs =>
   simp only [WP_some, byOut_goto] at h1
   simp only [onJoinD, onJoin]
   split at h1
   ·rename_i hj; rw [if_pos hj]; exact h1
   ·rename_i hj; rw [if_neg hj]; exact h1
  | ret vs => exact h1
theorem WP_iter {f : List IV → JH → Option (Out IV × JH)} {l : Nat} {K : Out IV → JH → Prop} (I : Nat → List IV → JH → Prop)
  (hs : ∀ n vs J, I n vs J → ∀ K' : Out IV → JH → Prop, (∀ ws m J', m < n → I m ws J' → K' (.goto l ws) J') → (∀ j ws J', j ≠ l → K (.goto j ws) J' → K' (.goto j ws) J') → (∀ ws J', K (.ret ws) J' → K' (.ret ws) J') → WP (f vs J) K') :
  ∀ n vs J, I n vs J → WP (iter f l vs J) K := by
 intro n
 induction n using Nat.strongRecOn with
 | ind n ih =>
  intro vs J hI
  have h := hs n vs J hI (fun o J' => byOut (fun j ws J' => if j = l then ∃ m, m < n ∧ I m ws J' else K (.goto j ws) J') (fun ws J' => K (.ret ws) J') o J') (fun ws m J' hm hi => by simp only [byOut, if_true]; exact ⟨m, hm, hi⟩) (fun j ws J' hj hk => by simp only [byOut, if_neg hj]; exact hk) (fun ws J' h => h)
  obtain ⟨o, J', hf, hp⟩ := WP_of h
  cases o with
  | goto j ws =>
   simp only [byOut_goto] at hp
   split at hp
   ·rename_i hj
    subst hj
    obtain ⟨m, hm, hi⟩ := hp
    obtain ⟨o2, J2, h2, p2⟩ := WP_of (ih m hm ws J' hi)
    rw [iter_step hf h2]
    exact p2
   ·rename_i hj
    rw [iter_out hf hj]
    exact hp
  | ret ws =>
   rw [iter_ret hf]
   exact hp
theorem WP_loop {f : List IV → JH → Option (Out IV × JH)} {l0 l1 : Nat} {b : L} {K : Out IV → JH → Prop} (hne : l0 ≠ l1) (I : Nat → List IV → JH → Prop)
  (hs : ∀ n vs J, I n vs J → ∀ K' : Out IV → JH → Prop, (∀ ws m J', m < n → I m ws J' → K' (.goto l1 ws) J') → (∀ ws J', WP (dn BI b ws J') K → K' (.goto l0 ws) J') → (∀ ws J', K (.ret ws) J' → K' (.ret ws) J') → WP (f vs J) K') :
  ∀ n vs J, I n vs J → WP (onJoinD l0 (iter f l1 vs J) b) K := fun n vs J hI =>
 WP_join fun K1 g1 _ g3 => WP_iter I (fun n vs J hI K' k1 k2 k3 => hs n vs J hI K' k1 (fun ws J' h => k2 l0 ws J' hne (g1 ws J' h)) (fun ws J' h => k3 ws J' (g3 ws J' h))) n vs J hI
theorem RP_run {f : FuncId} {l : LFn} {args : List IV} {J : JH} {P} (hf : BI.fn f = some l) (hl : args.length = l.np) (h : ∀ K : Out IV → JH → Prop, (∀ vs J', P (itup vs) J' → K (.ret vs) J') → WP (dn BI l.body args J) K) : RP (ic BI f args J) P := by
 obtain ⟨o, J', hd, hp⟩ := WP_of (h (fun o J' => byOut (fun _ _ _ => False) (fun vs J' => P (itup vs) J') o J') (fun vs J' h => h))
 cases o with
 | goto j ws => exact hp.elim
 | ret vs => rw [ic_run hf hl hd]; exact hp
theorem WP_bind {r : Option (IV × JH)} {k : L} {ρ : List IV} {P Q} (h : RP r Q) (hk : ∀ v J', Q v J' → WP (dn BI k (ρ ++ [v]) J') P) : WP (thenD r k ρ) P := by
 obtain ⟨v, J', hc, hq⟩ := RP_of h
 rw [hc]
 exact hk v J' hq
theorem WP_call {f : FuncId} {args : List IV} {J : JH} {k : L} {ρ : List IV} {P Q} (h : RP (ic BI f args J) Q) (hk : ∀ v J', Q v J' → WP (dn BI k (ρ ++ [v]) J') P) : WP (thenD (doCall (ic BI) .raw f args J) k ρ) P := WP_bind h hk
theorem pcW {f : FuncId} {l : LFn} {args : List IV} {P : IV → Prop} (hf : BI.fn f = some l) (hl : args.length = l.np) (h : ∀ K : Out IV → JH → Prop, (∀ vs J' u, frz J' DEP (itup vs) = some u → P u → K (.ret vs) J') → WP (dn BI l.body args #[]) K) : ∃ u, pc BI f args = some u ∧ P u := by
 obtain ⟨o, J', hd, hp⟩ := WP_of (h (fun o J' => byOut (fun _ _ _ => False) (fun vs J' => ∃ u, frz J' DEP (itup vs) = some u ∧ P u) o J') (fun vs J' u h1 h2 => ⟨u, h1, h2⟩))
 cases o with
 | goto j ws => exact hp.elim
 | ret vs =>
  obtain ⟨u, hu, hp⟩ := hp
  exact ⟨u, pc_intro (gv_none hf) hf hl hd hu, hp⟩
theorem pcE {f : FuncId} {l : LFn} {args : List IV} {r : IV} (hf : BI.fn f = some l) (hl : args.length = l.np) (h : ∀ K : Out IV → JH → Prop, (∀ vs J', frz J' DEP (itup vs) = some r → K (.ret vs) J') → WP (dn BI l.body args #[]) K) : pc BI f args = some r := by
 obtain ⟨u, hu, rfl⟩ := pcW (P := fun u => u = r) hf hl (fun K hK => h K fun vs J' h1 => hK vs J' r h1 rfl)
 exact hu
theorem frzE {J : JH} {v w : IV} (h : ipure v = true) (e : v = w) : frz J DEP v = some w := by rw [← e]; exact frzP h
theorem lt_get {α : Type} {J : Array α} {b : Nat} {X : α} (h : J[b]? = some X) : b < J.size := by
 rcases Nat.lt_or_ge b J.size with h1 | h1
 ·exact h1
 ·rw [Array.getElem?_eq_none h1] at h; cases h
theorem inb {α : Type} {J : Array α} {b : Nat} {X : α} (h : J[b]? = some X) : (b < J.size) = True ∧ (b = J.size) = False ∧ (J.size = b) = False ∧ (∀ k, (b < J.size + k) = True) ∧ (∀ k, (b = J.size + k) = False) ∧ (∀ k, (J.size + k = b) = False) := by
 have := lt_get h
 refine ⟨by simp [this], by simp; omega, by simp; omega, fun k => by simp; omega, fun k => by simp; omega, fun k => by simp; omega⟩
def Fr (J J' : JH) (S : List Nat) : Prop := J.size ≤ J'.size ∧ ∀ d, d < J.size → d ∉ S → J'[d]? = J[d]?
theorem Fr.refl (J : JH) (S : List Nat) : Fr J J S := ⟨Nat.le_refl _, fun _ _ _ => rfl⟩
theorem Fr.trans {J J1 J2 : JH} {S T : List Nat} (h : Fr J J1 S) (k : Fr J1 J2 T) (hT : ∀ d, d < J.size → d ∈ T → d ∈ S) : Fr J J2 S :=
 ⟨Nat.le_trans h.1 k.1, fun d hd hn => by rw [k.2 d (Nat.lt_of_lt_of_le hd h.1) (fun ht => hn (hT d hd ht)), h.2 d hd hn]⟩
theorem Fr.push (J : JH) (X : IB) (S : List Nat) : Fr J (J.push X) S := ⟨by simp, fun d hd _ => by rw [Array.getElem?_push, if_neg (Nat.ne_of_lt hd)]⟩
theorem Fr.set (J : JH) {b : Nat} (X : IB) {S : List Nat} (hb : b ∈ S) : Fr J (J.setIfInBounds b X) S := ⟨by simp, fun d hd hn => by
 rw [Array.getElem?_setIfInBounds, if_neg]
 rintro rfl
 exact hn hb⟩
theorem evI_fn {ρ : List IV} {f : FuncId} : evI ρ (.func f) = .fn f [] [] := rfl
def storeF (sz : Nat) (p v : IV) (J : JH) : Option (IV × JH) := istore sz p v J
theorem iexec_store {B : IBook} {C : ICall} {md : Md} {ρ : List IV} {sz : Nat} {x v : Operand} {J : JH} : iexec B C md ρ (.store sz x v) J = storeF sz (evI ρ x) (evI ρ v) J := rfl
theorem storeF_ptr {sz b w off : Nat} {v : IV} {J : JH} : storeF sz (.ptr b w off) v J = if (icells v).length = sz then (match iwr J b w off (icells v) with | some J' => some ((.tup []), J') | none => none) else none := rfl
def lenF (str : Bool) (x : IV) (J : JH) : Option (IV × JH) := match x with
  | .sc (.string s) => if str then ilift (some (.int .i64 s.size)) J else ilift none J
  | v => if str then ilift none J else ilift ((ilen v).map fun n => .int .i64 (n : Nat)) J
theorem iexec_len {B : IBook} {C : ICall} {md : Md} {ρ : List IV} {str : Bool} {x : Operand} {J : JH} : iexec B C md ρ (.len str x) J = lenF str (evI ρ x) J := rfl
theorem lenF_nil {J : JH} : lenF false (.sc (.slice none 0 0)) J = some (.int .i64 0, J) := rfl
theorem lenF_lst {J : JH} {sz : Nat} {f : Bool} {xs : List IV} : lenF false (.lst sz f xs) J = some (.int .i64 (xs.length : Nat), J) := rfl
theorem lenF_sl {J : JH} {b v o n c z : Nat} : lenF false (.sl b v o n c z) J = some (.int .i64 (n : Nat), J) := rfl
theorem lenF_str {J : JH} {s : ByteArray} : lenF true (.sc (.string s)) J = some (.int .i64 s.size, J) := rfl
def iaddrF (sz : Nat) (x i : IV) (J : JH) : Option (IV × JH) := match x, iasNat i with
  | .sl b v o n _ z, some j => if j < n ∧ z = sz then ilift (some (.ptr b v (o + j * sz))) J else ilift none J
  | .lst z _ xs, some j => (match xs[j]? with | some e => if z = sz then ilift (some (.rptr e 0)) J else ilift none J | none => ilift none J)
  | _, _ => ilift none J
theorem iexec_iaddr {B : IBook} {C : ICall} {md : Md} {ρ : List IV} {sz : Nat} {x i : Operand} {J : JH} : iexec B C md ρ (.iaddr sz x i) J = iaddrF sz (evI ρ x) (evI ρ i) J := rfl
theorem iaddrF_lst {sz : Nat} {f : Bool} {xs : List IV} {κ : IntKind} {i : Int} {J : JH} : iaddrF sz (.lst sz f xs) (.int κ i) J = (match iasNat (.int κ i) with | some j => (match xs[j]? with | some e => some (.rptr e 0, J) | none => none) | none => none) := by
 simp only [iaddrF]
 cases iasNat (.int κ i) with
 | none => rfl
 | some j => simp only; cases xs[j]? <;> simp [ilift]
theorem iaddrF_sl {sz : Nat} {b v o n c : Nat} {κ : IntKind} {i : Int} {J : JH} : iaddrF sz (.sl b v o n c sz) (.int κ i) J = (match iasNat (.int κ i) with | some j => if j < n then some (.ptr b v (o + j * sz), J) else none | none => none) := by
 simp only [iaddrF]
 cases iasNat (.int κ i) with
 | none => rfl
 | some j => simp only [and_true]; split <;> rfl
def Ls (sz : Nat) (x : IV) (xs : List IV) : Prop := (x = .sc (.slice none 0 0) ∧ xs = []) ∨ ∃ f, x = .lst sz f xs
def Bs (x : IV) (l : List Int) : Prop := Ls 1 x (l.map (IV.int .u8))
theorem Ls.nil {sz : Nat} : Ls sz (.sc (.slice none 0 0)) [] := .inl ⟨rfl, rfl⟩
theorem Ls.lst {sz : Nat} {f : Bool} {xs : List IV} : Ls sz (.lst sz f xs) xs := .inr ⟨f, rfl⟩
theorem Ls.ilen {sz : Nat} {x : IV} {xs : List IV} (h : Ls sz x xs) : ilen x = some xs.length := by
 rcases h with ⟨rfl, rfl⟩ | ⟨f, rfl⟩ <;> rfl
theorem Ls.cells {sz : Nat} {x : IV} {xs : List IV} (h : Ls sz x xs) (J : JH) : iscells J sz x = some (xs.flatMap icells) := by
 rcases h with ⟨rfl, rfl⟩ | ⟨f, rfl⟩ <;> simp [iscells]
theorem Ls.pure {sz : Nat} {x : IV} {xs : List IV} (h : Ls sz x xs) : ipure x = true := by
 rcases h with ⟨rfl, rfl⟩ | ⟨f, rfl⟩ <;> simp [ipure]
theorem Ls.one {sz : Nat} {x : IV} {xs : List IV} (h : Ls sz x xs) : ione x = true := by
 rcases h with ⟨rfl, rfl⟩ | ⟨f, rfl⟩ <;> simp [ione, Go.Proofs.Ytccbcbnglnloiaa.G.one]
theorem Ls.icells {sz : Nat} {x : IV} {xs : List IV} (h : Ls sz x xs) : icells x = [x] := by
 rcases h with ⟨rfl, rfl⟩ | ⟨f, rfl⟩ <;> simp [Go.Proofs.Ytccbcbnglnloiaa.G.icells]
theorem Ls.ne {sz : Nat} {x : IV} {xs : List IV} (h : Ls sz x xs) (hn : xs ≠ []) : ∃ f, x = .lst sz f xs := by
 rcases h with ⟨rfl, rfl⟩ | h
 ·exact absurd rfl hn
 ·exact h
theorem Ls.get {sz : Nat} {x : IV} {xs : List IV} (h : Ls sz x xs) {i : Nat} (hi : i < xs.length) : ∃ f, x = .lst sz f xs := h.ne fun h => by rw [h] at hi; simp at hi
theorem Ls.lenF {sz : Nat} {x : IV} {xs : List IV} (h : Ls sz x xs) {J : JH} : lenF false x J = some (.int .i64 (xs.length : Nat), J) := by
 rcases h with ⟨rfl, rfl⟩ | ⟨f, rfl⟩ <;> rfl
theorem Ls.at {sz : Nat} {x : IV} {xs : List IV} (h : Ls sz x xs) {i : Nat} (hi : i < xs.length) {J : JH} : iaddrF sz x (.int .i64 (i : Int)) J = some (.rptr xs[i] 0, J) := by
 obtain ⟨f, rfl⟩ := h.get hi
 rw [iaddrF_lst]
 simp [iasNat, asNat, hi]
theorem Bs.lenF {x : IV} {l : List Int} (h : Bs x l) {J : JH} : Go.Proofs.Ytccbcbnglnloiaa.G.lenF false x J = some (.int .i64 (l.length : Nat), J) := by rw [Ls.lenF h]; simp
theorem Bs.at {x : IV} {l : List Int} (h : Bs x l) {i : Nat} (hi : i < l.length) {J : JH} : iaddrF 1 x (.int .i64 (i : Int)) J = some (.rptr (.int .u8 l[i]) 0, J) := by
 rw [Ls.at h (by simpa using hi)]; simp
theorem Bs.len {x : IV} {l : List Int} (h : Bs x l) : Go.Proofs.Ytccbcbnglnloiaa.G.ilen x = some l.length := by rw [Ls.ilen h]; simp
def appF (sz bytes : Nat) (s x : IV) (J : JH) : Option (IV × JH) := if 0 < sz then iappend sz bytes s x J else none
theorem iexec_append {B : IBook} {C : ICall} {md : Md} {ρ : List IV} {sz by' : Nat} {s x : Operand} {J : JH} : iexec B C md ρ (.append sz by' s x) J = appF sz by' (evI ρ s) (evI ρ x) J := by
 simp only [iexec, appF, ilift]
def blk (x : IV) : List Nat := (blkOf x).getD []
def Grow (J : JH) (x : IV) (sz : Nat) (cs : List IV) : Prop := (x = .sc (.slice none 0 0) ∧ cs = []) ∨ ∃ b v n full, x = .sl b v 0 n (UNK + sz) sz ∧ J[b]? = some (.cells v full false) ∧ n * sz ≤ full.length ∧ full.take (n * sz) = cs ∧ irefsL (full.drop (n * sz)) = []
theorem Grow.nil {J : JH} {sz : Nat} : Grow J (.sc (.slice none 0 0)) sz [] := .inl ⟨rfl, rfl⟩
theorem Grow.low {J : JH} {x : IV} {sz : Nat} {cs : List IV} (h : Grow J x sz cs) : ∀ b ∈ blk x, b < J.size := by
 rcases h with ⟨rfl, rfl⟩ | ⟨b, v, n, full, rfl, h1, h2, h3, h4⟩
 ·simp [blk, blkOf]
 ·simp only [blk, blkOf, Option.getD_some, List.mem_singleton, forall_eq]
  exact lt_get h1
theorem Grow.fr {J J' : JH} {x : IV} {sz : Nat} {cs : List IV} {S : List Nat} (h : Grow J x sz cs) (hf : Fr J J' S) (hS : ∀ b ∈ blk x, b ∉ S) : Grow J' x sz cs := by
 rcases h with ⟨rfl, rfl⟩ | ⟨b, v, n, full, rfl, h1, h2, h3, h4⟩
 ·exact .nil
 ·refine .inr ⟨b, v, n, full, rfl, ?_, h2, h3, h4⟩
  rw [hf.2 b (lt_get h1) (hS b (by simp [blk, blkOf]))]
  exact h1
theorem Grow.app {J : JH} {s y : IV} {sz by' m : Nat} {cs ds : List IV} (h : Grow J s sz cs) (hsz : 0 < sz) (hy : iscells J sz y = some ds) (hm : Go.Proofs.Ytccbcbnglnloiaa.G.ilen y = some m) (hd : ds.length = m * sz) (ho : ds.all ione = true) (hf : fits (cs.length + m) by' = true) :
  RP (appF sz by' s y J) fun s' J' => Grow J' s' sz (cs ++ ds) ∧ Fr J J' (blk s) ∧ (∀ b ∈ blk s', b ∈ blk s ∨ J.size ≤ b) := by
 have hfm : ∀ k, k ≤ cs.length + m → fits k by' = true := fun k hk => by
  simp only [fits, Bool.and_eq_true, decide_eq_true_eq] at hf ⊢
  refine ⟨by omega, Nat.le_trans (Nat.mul_le_mul_right by' hk) hf.2⟩
 unfold appF
 rw [if_pos hsz]
 unfold iappend
 simp only [hy, hm]
 rcases h with ⟨rfl, rfl⟩ | ⟨b, v, n, full, rfl, h1, h2, h3, h4⟩
 ·by_cases h0 : m = 0
  ·subst h0
   have : ds = [] := List.eq_nil_of_length_eq_zero (by simpa using hd)
   subst this
   simp only [if_true, RP_some]
   exact ⟨.nil, .refl _ _, fun b hb => .inl hb⟩
  ·simp only [if_neg h0, hfm m (by omega), ho, Bool.and_self, if_true, RP_some]
   refine ⟨.inr ⟨J.size, 0, m, ds, rfl, by simp, by omega, ?_, by rw [List.drop_of_length_le (by omega)]; rfl⟩, Fr.push _ _ _, ?_⟩
   ·rw [List.nil_append, List.take_of_length_le (by omega)]
   ·simp [blk, blkOf]
 ·by_cases h0 : m = 0
  ·subst h0
   have : ds = [] := List.eq_nil_of_length_eq_zero (by simpa using hd)
   subst this
   simp only [if_true, RP_some, List.append_nil]
   exact ⟨.inr ⟨b, v, n, full, rfl, h1, h2, h3, h4⟩, .refl _ _, fun b hb => .inl hb⟩
  ·have hcl : cs.length = n * sz := by rw [← h3, List.length_take]; omega
   have hn : n ≤ cs.length := by rw [hcl]; exact Nat.le_mul_of_pos_right n hsz
   simp only [if_neg h0, hfm (n + m) (by omega), ho, Bool.and_self, and_self, if_true, h1, Nat.zero_add, h2, RP_some, Nat.le_add_right, List.drop_zero, h3]
   refine ⟨.inr ⟨b, v + 1, n + m, cs ++ ds, rfl, ?_, ?_, ?_, by rw [List.drop_of_length_le (by rw [List.length_append, hcl, hd, Nat.add_mul]; exact Nat.le_refl _)]; rfl⟩, Fr.set _ _ (by simp [blk, blkOf]), fun b hb => .inl (by simpa [blk, blkOf] using hb)⟩
   ·simp [lt_get h1]
   ·rw [List.length_append, hcl, hd, Nat.add_mul]; exact Nat.le_refl _
   ·rw [List.take_of_length_le]
    rw [List.length_append, hcl, hd, Nat.add_mul]; exact Nat.le_refl _
theorem Grow.one {J : JH} {s : IV} {sz : Nat} {cs : List IV} (h : Grow J s sz cs) : ione s = true := by
 rcases h with ⟨rfl, rfl⟩ | ⟨b, v, n, full, rfl, h1, h2, h3, h4⟩ <;> simp [ione, Go.Proofs.Ytccbcbnglnloiaa.G.one]
theorem Grow.icells {J : JH} {s : IV} {sz : Nat} {cs : List IV} (h : Grow J s sz cs) : icells s = [s] := by
 rcases h with ⟨rfl, rfl⟩ | ⟨b, v, n, full, rfl, h1, h2, h3, h4⟩ <;> simp [Go.Proofs.Ytccbcbnglnloiaa.G.icells]
theorem grp1' {n : Nat} {l : List IV} (h : n = l.length) : grp 1 n l = l := by subst h; exact grp1 l
theorem Grow.frz1 {J : JH} {s : IV} {cs : List IV} (h : Grow J s 1 cs) (hp : ipureL cs = true) (ho : cs.all ione = true) : ∃ u, frz J DEP s = some u ∧ Ls 1 u cs := by
 rcases h with ⟨rfl, rfl⟩ | ⟨b, v, n, full, rfl, h1, h2, h3, h4⟩
 ·exact ⟨_, frzP rfl, .nil⟩
 ·have hcl : cs.length = n := by rw [← h3, List.length_take]; omega
  refine ⟨_, by rw [frz12, frz_sl (by omega) (cs := cs) (by simp only [ird, h1, true_and, Nat.zero_add, if_pos h2, List.drop_zero, h3]) hp ho, grp1' hcl.symm], .lst⟩
theorem Grow.cells {J : JH} {s : IV} {sz : Nat} {cs : List IV} (h : Grow J s sz cs) : iscells J sz s = some cs := by
 rcases h with ⟨rfl, rfl⟩ | ⟨b, v, n, full, rfl, h1, h2, h3, h4⟩
 ·rfl
 ·simp [iscells, ird, h1, h2, h3]
theorem Grow.lenF {J J' : JH} {s : IV} {sz n : Nat} {cs : List IV} (h : Grow J s sz cs) (hn : cs.length = n * sz) (hsz : 0 < sz) : Go.Proofs.Ytccbcbnglnloiaa.G.lenF false s J' = some (.int .i64 (n : Nat), J') := by
 rcases h with ⟨rfl, rfl⟩ | ⟨b, v, k, full, rfl, h1, h2, h3, h4⟩
 ·have : n = 0 := by
   rcases Nat.eq_zero_or_pos n with h | h
   ·exact h
   ·have := Nat.mul_pos h hsz; simp at hn; omega
  subst this; rfl
 ·have hcl : cs.length = k * sz := by rw [← h3, List.length_take]; omega
  rw [hn] at hcl
  rw [lenF_sl, Nat.eq_of_mul_eq_mul_right hsz hcl]
def LsR {α : Type} (sz : Nat) (R : IV → α → Prop) (x : IV) (as : List α) : Prop := ∃ xs, Ls sz x xs ∧ xs.length = as.length ∧ ∀ i (h : i < xs.length) (h' : i < as.length), R xs[i] as[i]
theorem LsR.lenF {α : Type} {sz : Nat} {R : IV → α → Prop} {x : IV} {as : List α} (h : LsR sz R x as) {J : JH} : Go.Proofs.Ytccbcbnglnloiaa.G.lenF false x J = some (.int .i64 (as.length : Nat), J) := by
 obtain ⟨xs, h1, h2, _⟩ := h
 rw [← h2]; exact h1.lenF
theorem LsR.at {α : Type} {sz : Nat} {R : IV → α → Prop} {x : IV} {as : List α} (h : LsR sz R x as) {i : Nat} (hi : i < as.length) : ∃ e, R e as[i] ∧ ∀ J, iaddrF sz x (.int .i64 (i : Int)) J = some (.rptr e 0, J) := by
 obtain ⟨xs, h1, h2, h3⟩ := h
 exact ⟨xs[i]'(by omega), h3 i (by omega) hi, fun J => h1.at (by omega)⟩
theorem LsR.pure {α : Type} {sz : Nat} {R : IV → α → Prop} {x : IV} {as : List α} (h : LsR sz R x as) : ipure x = true := h.choose_spec.1.pure
theorem LsR.nil {α : Type} {sz : Nat} {R : IV → α → Prop} : LsR sz R (.sc (.slice none 0 0)) [] := ⟨[], .nil, rfl, fun i h => by simp at h⟩
noncomputable def thenC (r : Option (IV × JH)) (J : JH) (chk : List (Option (Operand × Bool) × SOp)) (t : Option (List Nat)) (ρ : List IV) (k : L) : Option (Out IV × JH) := match r with
 | some (v, J') => if chk.all (ichk J J' t ρ) then dn BI k (ρ ++ [v]) J' else none
 | none => none
theorem step_chk {ρ : List IV} {J : JH} {p : SOp} {md : Md} {chk} : stepI' BI (ic BI) ρ ⟨none, p, md, chk⟩ J = (match iexec BI (ic BI) md ρ p J with | some (v, J') => if chk.all (ichk J J' (itouch BI md ρ p J) ρ) then some (v, J') else none | none => none) := rfl
def blkF (x : IV) : Option (List Nat) := Go.Proofs.Ytccbcbnglnloiaa.G.blkOf x
theorem dnW_oca {ρ : List IV} {J : JH} {sz by' : Nat} {s x : Operand} {md : Md} {chk} {k : L} : dn BI (oc none (.append sz by' s x) md chk k) ρ J = thenC (appF sz by' (evI ρ s) (evI ρ x) J) J chk (blkF (evI ρ s)) ρ k := by
 rw [dnW_oc, step_chk, iexec_append]
 have ht : itouch BI md ρ (.append sz by' s x) J = blkOf (evI ρ s) := rfl
 rw [ht]
 unfold thenC blkF
 generalize appF sz by' (evI ρ s) (evI ρ x) J = r
 cases r with
 | none => rfl
 | some q =>
  by_cases hh : chk.all (ichk J q.2 (blkOf (evI ρ s)) ρ) = true
  ·simp only [hh, if_true]; rfl
  ·simp only [hh]; rfl
theorem WP_bindC {r : Option (IV × JH)} {J : JH} {chk} {t : Option (List Nat)} {k : L} {ρ : List IV} {P Q} (h : RP r Q) (hk : ∀ v J', Q v J' → chk.all (ichk J J' t ρ) = true ∧ WP (dn BI k (ρ ++ [v]) J') P) : WP (thenC r J chk t ρ k) P := by
 obtain ⟨v, J', hc, hq⟩ := RP_of h
 obtain ⟨h1, h2⟩ := hk v J' hq
 rw [hc]
 simp only [thenC, h1, if_true]
 exact h2
theorem Grow.blkF {J : JH} {s : IV} {sz : Nat} {cs : List IV} (h : Grow J s sz cs) : blkF s = some (blk s) := by
 rcases h with ⟨rfl, rfl⟩ | ⟨b, v, n, full, rfl, h1, h2, h3, h4⟩ <;> rfl
end Go.Proofs.Ytccbcbnglnloiaa.G
namespace Go.Proofs.Ytccbcbnglnloiaa.G
open Go
attribute [go_sem ↓] dnW_oca iexec_len iexec_iaddr iexec_append iexec_store
attribute [go_sem] rawB allC1 dn_ret dn_goto iexec evI_0 evI_succ evI_int evI_bool evI_nilsl evI_nilp List.cons_append List.nil_append scal2_sc abin aun ilift_some Option.map_some Option.map_none decide_eq_true_eq List.map_cons List.map_nil if_true if_false Bool.false_eq_true inew iload istore iwr ird icells ione one List.getElem?_toArray List.getElem?_cons_zero List.getElem?_cons_succ List.push_toArray List.size_toArray List.length_cons List.length_nil List.setIfInBounds_toArray List.set_cons_zero List.set_cons_succ isplice_cons List.drop_succ_cons List.drop_zero List.take_succ_cons List.take_zero List.drop_nil List.take_nil List.append_nil List.all_cons List.all_nil Bool.and_true Bool.true_and Bool.and_self Nat.zero_add Nat.add_zero Nat.le_refl true_and and_true and_self List.getElem?_nil BI_zc BI_zv BI_co zcT zvT coT not_true_eq_false not_false_eq_true Bool.not_true Bool.not_false stepI' wantsI ifill ievs itup Nat.le_add_left Nat.le_add_right iaggEq List.foldl iminI iminF imin2 min2 iisNil isNil ilen Option.isNone_none Option.isNone_some Nat.zero_le decide_true decide_false ireps List.replicate List.flatten_cons List.flatten_nil ichk itouch ctouch ilooks isame untouched Option.isSome_some Bool.or_true Bool.true_or List.contains_nil blkOf IntKind.bits iasNat asNat Int.toNat_natCast Int.natCast_nonneg List.length_map iscells ibnd islice capOf Option.isSome_none Bool.false_and Bool.and_false Bool.or_false Bool.false_or bne_self_eq_false Nat.not_lt_zero Nat.mul_one Nat.one_mul Nat.zero_mul Nat.mul_zero beq_self_eq_true Nat.sub_zero List.length_set false_implies implies_true forall_const evI_fn Nat.zero_lt_one dnW_o dnW_om dnW_oc dnW_join thenD_some thenD_ite onIfD_bool onJoinD_out onJoinD_ret onJoinD_ite WP_some WP_ite byOut_goto byOut_ret storeF_ptr lenF_nil lenF_lst lenF_sl lenF_str iaddrF_sl iaddrF_lst
attribute [go_sem_proc] reduceIte Nat.reduceAdd Nat.reduceLeDiff Nat.reduceMul Nat.reduceEqDiff Int.reduceLT Int.reduceLE Int.reduceToNat Nat.reduceSub Nat.reduceLT Int.reduceEq BitVec.reduceOfInt BitVec.reduceOfNat Int.reduceGT Int.reduceGE Int.reduceBEq Int.reduceBNe Nat.reduceGT Nat.reduceBEq Nat.reduceBNe Int.reduceAdd Int.reduceSub Int.reduceNeg
section
variable {α : Type} {sz : Nat}
theorem flat_len : ∀ {X : List (List α)}, (∀ x ∈ X, x.length = sz) → X.flatten.length = X.length * sz
 | [], _ => by simp
 | x :: X, h => by
  rw [List.flatten_cons, List.length_append, h x (by simp), flat_len fun y hy => h y (by simp [hy]), List.length_cons, Nat.succ_mul]
  omega
theorem flat_drop : ∀ {X : List (List α)} {rest : List α} {i : Nat}, (∀ x ∈ X, x.length = sz) → i ≤ X.length → (X.flatten ++ rest).drop (i * sz) = (X.drop i).flatten ++ rest
 | _, _, 0, _, _ => by simp
 | [], _, i + 1, _, h => by simp at h
 | x :: X, rest, i + 1, h, hi => by
  have hx := h x (by simp)
  rw [List.flatten_cons, List.append_assoc, Nat.succ_mul, Nat.add_comm, List.drop_append, hx, List.drop_of_length_le (by omega), List.nil_append, Nat.add_sub_cancel_left, List.drop_succ_cons]
  exact flat_drop (fun y hy => h y (by simp [hy])) (by simpa using hi)
theorem flat_at {X : List (List α)} {rest : List α} {i : Nat} (h : ∀ x ∈ X, x.length = sz) (hi : i < X.length) : ((X.flatten ++ rest).drop (i * sz)).take sz = X[i] := by
 rw [flat_drop h (by omega), List.drop_eq_getElem_cons hi, List.flatten_cons, List.append_assoc, List.take_append_of_le_length (by rw [h _ (List.getElem_mem hi)]; exact Nat.le_refl _), List.take_of_length_le (by rw [h _ (List.getElem_mem hi)]; exact Nat.le_refl _)]
theorem flat_at1 {X : List (List α)} {rest : List α} {i k : Nat} (h : ∀ x ∈ X, x.length = sz) (hi : i < X.length) (hk : k < X[i].length) : ((X.flatten ++ rest).drop (i * sz + k)).take 1 = [X[i][k]] := by
 have hx := h _ (List.getElem_mem hi)
 rw [← List.drop_drop, flat_drop h (by omega), List.drop_eq_getElem_cons hi, List.flatten_cons, List.append_assoc, List.drop_append_of_le_length (by omega), List.drop_eq_getElem_cons hk]
 rfl
theorem flat_take : ∀ {X : List (List α)} {rest : List α} {i : Nat}, (∀ x ∈ X, x.length = sz) → i ≤ X.length → (X.flatten ++ rest).take (i * sz) = (X.take i).flatten
 | _, _, 0, _, _ => by simp
 | [], _, i + 1, _, h => by simp at h
 | x :: X, rest, i + 1, h, hi => by
  have hx := h x (by simp)
  rw [List.flatten_cons, List.append_assoc, Nat.succ_mul, Nat.add_comm, List.take_append, hx, List.take_of_length_le (by omega), Nat.add_sub_cancel_left, List.take_succ_cons, List.flatten_cons]
  rw [flat_take (fun y hy => h y (by simp [hy])) (by simpa using hi)]
theorem flat_splice {X : List (List IV)} {rest vs : List IV} {i k : Nat} (h : ∀ x ∈ X, x.length = sz) (hi : i < X.length) (hk : k + vs.length ≤ sz) : isplice (X.flatten ++ rest) (i * sz + k) vs = (X.set i (isplice X[i] k vs)).flatten ++ rest := by
 have hx := h _ (List.getElem_mem hi)
 have e1 : (X.flatten ++ rest).take (i * sz + k) = (X.take i).flatten ++ X[i].take k := by
  rw [← List.take_append_drop (i * sz) (X.flatten ++ rest), flat_take h (by omega), flat_drop h (by omega)]
  have hl : (X.take i).flatten.length = i * sz := by rw [flat_len (sz := sz) (fun x hx => h x (List.mem_of_mem_take hx)), List.length_take, Nat.min_eq_left (by omega)]
  rw [List.take_append, hl, List.take_of_length_le (by omega), Nat.add_sub_cancel_left, List.drop_eq_getElem_cons hi, List.flatten_cons, List.append_assoc, List.take_append_of_le_length (by omega)]
 have e2 : (X.flatten ++ rest).drop (i * sz + k + vs.length) = X[i].drop (k + vs.length) ++ ((X.drop (i + 1)).flatten ++ rest) := by
  rw [Nat.add_assoc, ← List.drop_drop, flat_drop h (by omega), List.drop_eq_getElem_cons hi, List.flatten_cons, List.append_assoc, List.drop_append_of_le_length (by omega)]
 unfold isplice
 rw [e1, e2, List.set_eq_take_append_cons_drop, if_pos hi]
 simp [List.flatten_append]
end
def SlX (J : JH) (x : IV) (sz : Nat) (X : List (List IV)) : Prop := (∀ e ∈ X, e.length = sz) ∧ ((x = .sc (.slice none 0 0) ∧ X = []) ∨ ∃ b v rest, x = .sl b v 0 X.length (UNK + sz) sz ∧ J[b]? = some (.cells v (X.flatten ++ rest) false) ∧ irefsL rest = [])
theorem SlX.grow {J : JH} {x : IV} {sz : Nat} {X : List (List IV)} (h : SlX J x sz X) : Grow J x sz X.flatten := by
 obtain ⟨h1, ⟨rfl, rfl⟩ | ⟨b, v, rest, rfl, h2, h5⟩⟩ := h
 ·exact .nil
 ·refine .inr ⟨b, v, _, _, rfl, h2, ?_, ?_, by rw [flat_drop h1 (Nat.le_refl _), List.drop_length]; exact h5⟩
  ·rw [List.length_append, flat_len h1]; omega
  ·rw [flat_take h1 (Nat.le_refl _), List.take_length]
theorem Grow.slx {J : JH} {x : IV} {sz : Nat} {X : List (List IV)} (h : Grow J x sz X.flatten) (h1 : ∀ e ∈ X, e.length = sz) (hsz : 0 < sz) : SlX J x sz X := by
 refine ⟨h1, ?_⟩
 have hl := flat_len h1
 rcases h with ⟨rfl, h2⟩ | ⟨b, v, n, full, rfl, h2, h3, h4, h5⟩
 ·left
  rw [h2] at hl
  have : X.length = 0 := by
   rcases Nat.eq_zero_or_pos X.length with h | h
   ·exact h
   ·have := Nat.mul_pos h hsz; simp at hl; omega
  exact ⟨rfl, List.eq_nil_of_length_eq_zero this⟩
 ·right
  have hn : n = X.length := by
   have : (full.take (n * sz)).length = n * sz := by rw [List.length_take]; omega
   rw [h4, hl] at this
   exact (Nat.eq_of_mul_eq_mul_right hsz this).symm
  subst hn
  refine ⟨b, v, full.drop (X.length * sz), rfl, ?_, h5⟩
  rw [h2, ← h4, List.take_append_drop]
end Go.Proofs.Ytccbcbnglnloiaa.G
namespace Go.Proofs.Ytccbcbnglnloiaa.G
open Go
theorem ofInt_nat {w : Nat} (x : BitVec w) : BitVec.ofInt w (x.toNat : Int) = x := by
 rw [BitVec.ofInt_natCast]; simp
theorem wrapB8 (x : BitVec 8) : IntKind.u8.wrap (x.toNat : Int) = x.toNat := by
 have := x.isLt
 simp only [IntKind.wrap, IntKind.bits, IntKind.signed]; simp; omega
theorem wrapB16 (x : BitVec 16) : IntKind.u16.wrap (x.toNat : Int) = x.toNat := by
 have := x.isLt
 simp only [IntKind.wrap, IntKind.bits, IntKind.signed]; simp; omega
theorem wrapB32 (x : BitVec 32) : IntKind.u32.wrap (x.toNat : Int) = x.toNat := by
 have := x.isLt
 simp only [IntKind.wrap, IntKind.bits, IntKind.signed]; simp; omega
theorem wrapB64 (x : BitVec 64) : IntKind.u64.wrap (x.toNat : Int) = x.toNat := by
 have := x.isLt
 simp only [IntKind.wrap, IntKind.bits, IntKind.signed]; simp; omega
theorem beqB {w : Nat} (x y : BitVec w) : ((x.toNat : Int) == (y.toNat : Int)) = (x == y) := by
 rw [Bool.eq_iff_iff]; simp only [beq_iff_eq]; exact ⟨fun h => BitVec.eq_of_toNat_eq (by omega), fun h => by rw [h]⟩
theorem bneB {w : Nat} (x y : BitVec w) : ((x.toNat : Int) != (y.toNat : Int)) = (x != y) := by
 simp only [bne, beqB]
theorem beqB0 {w : Nat} (x : BitVec w) : ((x.toNat : Int) == 0) = (x == 0#w) := by
 have := beqB x 0#w; simpa using this
theorem bneB0 {w : Nat} (x : BitVec w) : ((x.toNat : Int) != 0) = (x != 0#w) := by
 simp only [bne, beqB0]
theorem wrapS {i n : Nat} (h : i < n) (hn : n ≤ 9223372036854775807) : IntKind.i64.wrap ((i : Int) + 1) = ((i + 1 : Nat) : Int) := by
 rw [wrap_i64 (by omega) (by omega)]; omega
abbrev m32 (x : BitVec 32) : IV := .int .u32 (x.toNat : Int)
abbrev nI (n : Nat) : IV := .int .i64 (n : Int)
theorem WP_range {f : List IV → JH → Option (Out IV × JH)} {l0 l1 : Nat} {b : L} {K : Out IV → JH → Prop} (hne : l0 ≠ l1) (N : Nat) (S : Nat → List IV → JH → Prop)
  (hs : ∀ i vs J, S i vs J → i ≤ N → ∀ K' : Out IV → JH → Prop, (i < N → ∀ ws J', S (i + 1) ws J' → K' (.goto l1 ws) J') → (∀ ws J', WP (dn BI b ws J') K → K' (.goto l0 ws) J') → (∀ ws J', K (.ret ws) J' → K' (.ret ws) J') → WP (f vs J) K')
  {vs : List IV} {J : JH} (h0 : S 0 vs J) : WP (onJoinD l0 (iter f l1 vs J) b) K :=
 WP_loop hne (fun m vs J => ∃ i, i + m = N ∧ S i vs J) (by
  rintro m vs J ⟨i, hi, h⟩ K' g1 g2 g3
  exact hs i vs J h (by omega) K' (fun hl ws J' h' => g1 ws (m - 1) J' (by omega) ⟨i + 1, by omega, h'⟩) g2 g3) N vs J ⟨0, by omega, h0⟩
theorem WP_rangeT {f : List IV → JH → Option (Out IV × JH)} {l1 : Nat} {K : Out IV → JH → Prop} (N : Nat) (S : Nat → List IV → JH → Prop)
  (hs : ∀ i vs J, S i vs J → i ≤ N → ∀ K' : Out IV → JH → Prop, (i < N → ∀ ws J', S (i + 1) ws J' → K' (.goto l1 ws) J') → (∀ j ws J', j ≠ l1 → K (.goto j ws) J' → K' (.goto j ws) J') → (∀ ws J', K (.ret ws) J' → K' (.ret ws) J') → WP (f vs J) K')
  {vs : List IV} {J : JH} (h0 : S 0 vs J) : WP (iter f l1 vs J) K :=
 WP_iter (fun m vs J => ∃ i, i + m = N ∧ S i vs J) (by
  rintro m vs J ⟨i, hi, h⟩ K' g1 g2 g3
  exact hs i vs J h (by omega) K' (fun hl ws J' h' => g1 ws (m - 1) J' (by omega) ⟨i + 1, by omega, h'⟩) g2 g3) N vs J ⟨0, by omega, h0⟩
theorem pcN (n : Nat) {f : FuncId} {args : List IV} {v u : IV} {J : JH} (h : icall BI n f args #[] = some (v, J)) (hf : frz J DEP v = some u) : pc BI f args = some u := by unfold pc; rw [lim_ic h]; exact hf
theorem convB8 {w : Nat} (x : BitVec w) : IntKind.u8.wrap (x.toNat : Int) = ((x.setWidth 8).toNat : Int) := by
 simp only [IntKind.wrap, IntKind.bits, IntKind.signed, BitVec.toNat_setWidth]; simp
theorem convB16 {w : Nat} (x : BitVec w) : IntKind.u16.wrap (x.toNat : Int) = ((x.setWidth 16).toNat : Int) := by
 simp only [IntKind.wrap, IntKind.bits, IntKind.signed, BitVec.toNat_setWidth]; simp
theorem convB32 {w : Nat} (x : BitVec w) : IntKind.u32.wrap (x.toNat : Int) = ((x.setWidth 32).toNat : Int) := by
 simp only [IntKind.wrap, IntKind.bits, IntKind.signed, BitVec.toNat_setWidth]; simp
theorem convB64 {w : Nat} (x : BitVec w) : IntKind.u64.wrap (x.toNat : Int) = ((x.setWidth 64).toNat : Int) := by
 simp only [IntKind.wrap, IntKind.bits, IntKind.signed, BitVec.toNat_setWidth]; simp
theorem i64B8 (x : BitVec 8) : IntKind.i64.wrap (x.toNat : Int) = (x.toNat : Int) := by have := x.isLt; exact wrap_i64 (by omega) (by omega)
theorem i64B16 (x : BitVec 16) : IntKind.i64.wrap (x.toNat : Int) = (x.toNat : Int) := by have := x.isLt; exact wrap_i64 (by omega) (by omega)
theorem i64B32 (x : BitVec 32) : IntKind.i64.wrap (x.toNat : Int) = (x.toNat : Int) := by have := x.isLt; exact wrap_i64 (by omega) (by omega)
theorem fdivB {w : Nat} (x : BitVec w) (k : Nat) : (x.toNat : Int).fdiv (2 ^ k) = ((x >>> k).toNat : Int) := by
 rw [show ((2 : Int) ^ k) = ((2 ^ k : Nat) : Int) by simp, Int.fdiv_eq_ediv_of_nonneg _ (Int.natCast_nonneg _), BitVec.toNat_ushiftRight, Nat.shiftRight_eq_div_pow]
 simp
theorem addB32 (x y : BitVec 32) : IntKind.u32.wrap ((x.toNat : Int) + (y.toNat : Int)) = ((x + y).toNat : Int) := by
 simp only [IntKind.wrap, IntKind.bits, IntKind.signed, BitVec.toNat_add]; simp
theorem mulB32 (x y : BitVec 32) : IntKind.u32.wrap ((x.toNat : Int) * (y.toNat : Int)) = ((x * y).toNat : Int) := by
 simp only [IntKind.wrap, IntKind.bits, IntKind.signed, BitVec.toNat_mul]; simp
theorem addB32c (x : BitVec 32) (c : Nat) : IntKind.u32.wrap ((x.toNat : Int) + no_index (@OfNat.ofNat Int c instOfNat)) = ((x + BitVec.ofNat 32 c).toNat : Int) := by
 simp only [IntKind.wrap, IntKind.bits, IntKind.signed, BitVec.toNat_add, BitVec.toNat_ofNat]
 show ((x.toNat : Int) + (c : Int)) % _ = _
 simp
theorem mulB32c (x : BitVec 32) (c : Nat) : IntKind.u32.wrap ((x.toNat : Int) * no_index (@OfNat.ofNat Int c instOfNat)) = ((x * BitVec.ofNat 32 c).toNat : Int) := by
 simp only [IntKind.wrap, IntKind.bits, IntKind.signed, BitVec.toNat_mul, BitVec.toNat_ofNat]
 show ((x.toNat : Int) * (c : Int)) % _ = _
 simp [Int.mul_emod]
theorem shlB32 (x : BitVec 32) (k : Nat) : IntKind.u32.wrap ((x.toNat : Int) * 2 ^ k) = ((x <<< k).toNat : Int) := by
 simp only [IntKind.wrap, IntKind.bits, IntKind.signed, BitVec.toNat_shiftLeft, Nat.shiftLeft_eq]; simp
theorem shlB64 (x : BitVec 64) (k : Nat) : IntKind.u64.wrap ((x.toNat : Int) * 2 ^ k) = ((x <<< k).toNat : Int) := by
 simp only [IntKind.wrap, IntKind.bits, IntKind.signed, BitVec.toNat_shiftLeft, Nat.shiftLeft_eq]; simp
theorem shl1B32 (k : Nat) : IntKind.u32.wrap (1 * 2 ^ k) = ((1#32 <<< k).toNat : Int) := shlB32 1#32 k
theorem shl1B64 (k : Nat) : IntKind.u64.wrap (1 * 2 ^ k) = ((1#64 <<< k).toNat : Int) := shlB64 1#64 k
theorem notB32 (x : BitVec 32) : aun .xor (.int .u32 (x.toNat : Int)) = some (.int .u32 ((~~~x).toNat : Int)) := by
 have e : BitVec.ofInt 32 IntKind.u32.max = BitVec.allOnes 32 := by decide
 simp only [aun, IntKind.bits, IntKind.signed, Bool.false_eq_true, if_false, ofInt_nat]
 rw [e]
 have e2 : BitVec.allOnes 32 ^^^ x = ~~~x := BitVec.allOnes_xor
 have e3 := wrapB32 (~~~x)
 rw [← e2] at e3 ⊢
 exact congrArg (fun z => some (Value.int .u32 z)) e3
theorem band8 (x y : BitVec 8) : abin .and (.int .u8 (x.toNat : Int)) (.int .u8 (y.toNat : Int)) = some (.int .u8 ((x &&& y).toNat : Int)) := by
 show some (Value.int .u8 (IntKind.u8.wrap ((BitVec.ofInt 8 (x.toNat : Int) &&& BitVec.ofInt 8 (y.toNat : Int)).toNat : Int))) = _
 rw [ofInt_nat, ofInt_nat, wrapB8]
theorem band8c (x : BitVec 8) (c : Nat) : abin .and (.int .u8 (x.toNat : Int)) (.int .u8 (no_index (@OfNat.ofNat Int c instOfNat))) = some (.int .u8 ((x &&& BitVec.ofNat 8 c).toNat : Int)) := by
 show some (Value.int .u8 (IntKind.u8.wrap ((BitVec.ofInt 8 (x.toNat : Int) &&& BitVec.ofInt 8 ((c : Nat) : Int)).toNat : Int))) = _
 rw [ofInt_nat, BitVec.ofInt_natCast, wrapB8]
theorem bor8 (x y : BitVec 8) : abin .or (.int .u8 (x.toNat : Int)) (.int .u8 (y.toNat : Int)) = some (.int .u8 ((x ||| y).toNat : Int)) := by
 show some (Value.int .u8 (IntKind.u8.wrap ((BitVec.ofInt 8 (x.toNat : Int) ||| BitVec.ofInt 8 (y.toNat : Int)).toNat : Int))) = _
 rw [ofInt_nat, ofInt_nat, wrapB8]
theorem bor8c (x : BitVec 8) (c : Nat) : abin .or (.int .u8 (x.toNat : Int)) (.int .u8 (no_index (@OfNat.ofNat Int c instOfNat))) = some (.int .u8 ((x ||| BitVec.ofNat 8 c).toNat : Int)) := by
 show some (Value.int .u8 (IntKind.u8.wrap ((BitVec.ofInt 8 (x.toNat : Int) ||| BitVec.ofInt 8 ((c : Nat) : Int)).toNat : Int))) = _
 rw [ofInt_nat, BitVec.ofInt_natCast, wrapB8]
theorem bxor8 (x y : BitVec 8) : abin .xor (.int .u8 (x.toNat : Int)) (.int .u8 (y.toNat : Int)) = some (.int .u8 ((x ^^^ y).toNat : Int)) := by
 show some (Value.int .u8 (IntKind.u8.wrap ((BitVec.ofInt 8 (x.toNat : Int) ^^^ BitVec.ofInt 8 (y.toNat : Int)).toNat : Int))) = _
 rw [ofInt_nat, ofInt_nat, wrapB8]
theorem bxor8c (x : BitVec 8) (c : Nat) : abin .xor (.int .u8 (x.toNat : Int)) (.int .u8 (no_index (@OfNat.ofNat Int c instOfNat))) = some (.int .u8 ((x ^^^ BitVec.ofNat 8 c).toNat : Int)) := by
 show some (Value.int .u8 (IntKind.u8.wrap ((BitVec.ofInt 8 (x.toNat : Int) ^^^ BitVec.ofInt 8 ((c : Nat) : Int)).toNat : Int))) = _
 rw [ofInt_nat, BitVec.ofInt_natCast, wrapB8]
theorem bandNot8 (x y : BitVec 8) : abin .andNot (.int .u8 (x.toNat : Int)) (.int .u8 (y.toNat : Int)) = some (.int .u8 ((x &&& ~~~y).toNat : Int)) := by
 show some (Value.int .u8 (IntKind.u8.wrap ((BitVec.ofInt 8 (x.toNat : Int) &&& ~~~ BitVec.ofInt 8 (y.toNat : Int)).toNat : Int))) = _
 rw [ofInt_nat, ofInt_nat, wrapB8]
theorem band16 (x y : BitVec 16) : abin .and (.int .u16 (x.toNat : Int)) (.int .u16 (y.toNat : Int)) = some (.int .u16 ((x &&& y).toNat : Int)) := by
 show some (Value.int .u16 (IntKind.u16.wrap ((BitVec.ofInt 16 (x.toNat : Int) &&& BitVec.ofInt 16 (y.toNat : Int)).toNat : Int))) = _
 rw [ofInt_nat, ofInt_nat, wrapB16]
theorem band16c (x : BitVec 16) (c : Nat) : abin .and (.int .u16 (x.toNat : Int)) (.int .u16 (no_index (@OfNat.ofNat Int c instOfNat))) = some (.int .u16 ((x &&& BitVec.ofNat 16 c).toNat : Int)) := by
 show some (Value.int .u16 (IntKind.u16.wrap ((BitVec.ofInt 16 (x.toNat : Int) &&& BitVec.ofInt 16 ((c : Nat) : Int)).toNat : Int))) = _
 rw [ofInt_nat, BitVec.ofInt_natCast, wrapB16]
theorem bor16 (x y : BitVec 16) : abin .or (.int .u16 (x.toNat : Int)) (.int .u16 (y.toNat : Int)) = some (.int .u16 ((x ||| y).toNat : Int)) := by
 show some (Value.int .u16 (IntKind.u16.wrap ((BitVec.ofInt 16 (x.toNat : Int) ||| BitVec.ofInt 16 (y.toNat : Int)).toNat : Int))) = _
 rw [ofInt_nat, ofInt_nat, wrapB16]
theorem bor16c (x : BitVec 16) (c : Nat) : abin .or (.int .u16 (x.toNat : Int)) (.int .u16 (no_index (@OfNat.ofNat Int c instOfNat))) = some (.int .u16 ((x ||| BitVec.ofNat 16 c).toNat : Int)) := by
 show some (Value.int .u16 (IntKind.u16.wrap ((BitVec.ofInt 16 (x.toNat : Int) ||| BitVec.ofInt 16 ((c : Nat) : Int)).toNat : Int))) = _
 rw [ofInt_nat, BitVec.ofInt_natCast, wrapB16]
theorem bxor16 (x y : BitVec 16) : abin .xor (.int .u16 (x.toNat : Int)) (.int .u16 (y.toNat : Int)) = some (.int .u16 ((x ^^^ y).toNat : Int)) := by
 show some (Value.int .u16 (IntKind.u16.wrap ((BitVec.ofInt 16 (x.toNat : Int) ^^^ BitVec.ofInt 16 (y.toNat : Int)).toNat : Int))) = _
 rw [ofInt_nat, ofInt_nat, wrapB16]
theorem bxor16c (x : BitVec 16) (c : Nat) : abin .xor (.int .u16 (x.toNat : Int)) (.int .u16 (no_index (@OfNat.ofNat Int c instOfNat))) = some (.int .u16 ((x ^^^ BitVec.ofNat 16 c).toNat : Int)) := by
 show some (Value.int .u16 (IntKind.u16.wrap ((BitVec.ofInt 16 (x.toNat : Int) ^^^ BitVec.ofInt 16 ((c : Nat) : Int)).toNat : Int))) = _
 rw [ofInt_nat, BitVec.ofInt_natCast, wrapB16]
theorem bandNot16 (x y : BitVec 16) : abin .andNot (.int .u16 (x.toNat : Int)) (.int .u16 (y.toNat : Int)) = some (.int .u16 ((x &&& ~~~y).toNat : Int)) := by
 show some (Value.int .u16 (IntKind.u16.wrap ((BitVec.ofInt 16 (x.toNat : Int) &&& ~~~ BitVec.ofInt 16 (y.toNat : Int)).toNat : Int))) = _
 rw [ofInt_nat, ofInt_nat, wrapB16]
theorem band32 (x y : BitVec 32) : abin .and (.int .u32 (x.toNat : Int)) (.int .u32 (y.toNat : Int)) = some (.int .u32 ((x &&& y).toNat : Int)) := by
 show some (Value.int .u32 (IntKind.u32.wrap ((BitVec.ofInt 32 (x.toNat : Int) &&& BitVec.ofInt 32 (y.toNat : Int)).toNat : Int))) = _
 rw [ofInt_nat, ofInt_nat, wrapB32]
theorem band32c (x : BitVec 32) (c : Nat) : abin .and (.int .u32 (x.toNat : Int)) (.int .u32 (no_index (@OfNat.ofNat Int c instOfNat))) = some (.int .u32 ((x &&& BitVec.ofNat 32 c).toNat : Int)) := by
 show some (Value.int .u32 (IntKind.u32.wrap ((BitVec.ofInt 32 (x.toNat : Int) &&& BitVec.ofInt 32 ((c : Nat) : Int)).toNat : Int))) = _
 rw [ofInt_nat, BitVec.ofInt_natCast, wrapB32]
theorem bor32 (x y : BitVec 32) : abin .or (.int .u32 (x.toNat : Int)) (.int .u32 (y.toNat : Int)) = some (.int .u32 ((x ||| y).toNat : Int)) := by
 show some (Value.int .u32 (IntKind.u32.wrap ((BitVec.ofInt 32 (x.toNat : Int) ||| BitVec.ofInt 32 (y.toNat : Int)).toNat : Int))) = _
 rw [ofInt_nat, ofInt_nat, wrapB32]
theorem bor32c (x : BitVec 32) (c : Nat) : abin .or (.int .u32 (x.toNat : Int)) (.int .u32 (no_index (@OfNat.ofNat Int c instOfNat))) = some (.int .u32 ((x ||| BitVec.ofNat 32 c).toNat : Int)) := by
 show some (Value.int .u32 (IntKind.u32.wrap ((BitVec.ofInt 32 (x.toNat : Int) ||| BitVec.ofInt 32 ((c : Nat) : Int)).toNat : Int))) = _
 rw [ofInt_nat, BitVec.ofInt_natCast, wrapB32]
theorem bxor32 (x y : BitVec 32) : abin .xor (.int .u32 (x.toNat : Int)) (.int .u32 (y.toNat : Int)) = some (.int .u32 ((x ^^^ y).toNat : Int)) := by
 show some (Value.int .u32 (IntKind.u32.wrap ((BitVec.ofInt 32 (x.toNat : Int) ^^^ BitVec.ofInt 32 (y.toNat : Int)).toNat : Int))) = _
 rw [ofInt_nat, ofInt_nat, wrapB32]
theorem bxor32c (x : BitVec 32) (c : Nat) : abin .xor (.int .u32 (x.toNat : Int)) (.int .u32 (no_index (@OfNat.ofNat Int c instOfNat))) = some (.int .u32 ((x ^^^ BitVec.ofNat 32 c).toNat : Int)) := by
 show some (Value.int .u32 (IntKind.u32.wrap ((BitVec.ofInt 32 (x.toNat : Int) ^^^ BitVec.ofInt 32 ((c : Nat) : Int)).toNat : Int))) = _
 rw [ofInt_nat, BitVec.ofInt_natCast, wrapB32]
theorem bandNot32 (x y : BitVec 32) : abin .andNot (.int .u32 (x.toNat : Int)) (.int .u32 (y.toNat : Int)) = some (.int .u32 ((x &&& ~~~y).toNat : Int)) := by
 show some (Value.int .u32 (IntKind.u32.wrap ((BitVec.ofInt 32 (x.toNat : Int) &&& ~~~ BitVec.ofInt 32 (y.toNat : Int)).toNat : Int))) = _
 rw [ofInt_nat, ofInt_nat, wrapB32]
theorem band64 (x y : BitVec 64) : abin .and (.int .u64 (x.toNat : Int)) (.int .u64 (y.toNat : Int)) = some (.int .u64 ((x &&& y).toNat : Int)) := by
 show some (Value.int .u64 (IntKind.u64.wrap ((BitVec.ofInt 64 (x.toNat : Int) &&& BitVec.ofInt 64 (y.toNat : Int)).toNat : Int))) = _
 rw [ofInt_nat, ofInt_nat, wrapB64]
theorem band64c (x : BitVec 64) (c : Nat) : abin .and (.int .u64 (x.toNat : Int)) (.int .u64 (no_index (@OfNat.ofNat Int c instOfNat))) = some (.int .u64 ((x &&& BitVec.ofNat 64 c).toNat : Int)) := by
 show some (Value.int .u64 (IntKind.u64.wrap ((BitVec.ofInt 64 (x.toNat : Int) &&& BitVec.ofInt 64 ((c : Nat) : Int)).toNat : Int))) = _
 rw [ofInt_nat, BitVec.ofInt_natCast, wrapB64]
theorem bor64 (x y : BitVec 64) : abin .or (.int .u64 (x.toNat : Int)) (.int .u64 (y.toNat : Int)) = some (.int .u64 ((x ||| y).toNat : Int)) := by
 show some (Value.int .u64 (IntKind.u64.wrap ((BitVec.ofInt 64 (x.toNat : Int) ||| BitVec.ofInt 64 (y.toNat : Int)).toNat : Int))) = _
 rw [ofInt_nat, ofInt_nat, wrapB64]
theorem bor64c (x : BitVec 64) (c : Nat) : abin .or (.int .u64 (x.toNat : Int)) (.int .u64 (no_index (@OfNat.ofNat Int c instOfNat))) = some (.int .u64 ((x ||| BitVec.ofNat 64 c).toNat : Int)) := by
 show some (Value.int .u64 (IntKind.u64.wrap ((BitVec.ofInt 64 (x.toNat : Int) ||| BitVec.ofInt 64 ((c : Nat) : Int)).toNat : Int))) = _
 rw [ofInt_nat, BitVec.ofInt_natCast, wrapB64]
theorem bxor64 (x y : BitVec 64) : abin .xor (.int .u64 (x.toNat : Int)) (.int .u64 (y.toNat : Int)) = some (.int .u64 ((x ^^^ y).toNat : Int)) := by
 show some (Value.int .u64 (IntKind.u64.wrap ((BitVec.ofInt 64 (x.toNat : Int) ^^^ BitVec.ofInt 64 (y.toNat : Int)).toNat : Int))) = _
 rw [ofInt_nat, ofInt_nat, wrapB64]
theorem bxor64c (x : BitVec 64) (c : Nat) : abin .xor (.int .u64 (x.toNat : Int)) (.int .u64 (no_index (@OfNat.ofNat Int c instOfNat))) = some (.int .u64 ((x ^^^ BitVec.ofNat 64 c).toNat : Int)) := by
 show some (Value.int .u64 (IntKind.u64.wrap ((BitVec.ofInt 64 (x.toNat : Int) ^^^ BitVec.ofInt 64 ((c : Nat) : Int)).toNat : Int))) = _
 rw [ofInt_nat, BitVec.ofInt_natCast, wrapB64]
theorem bandNot64 (x y : BitVec 64) : abin .andNot (.int .u64 (x.toNat : Int)) (.int .u64 (y.toNat : Int)) = some (.int .u64 ((x &&& ~~~y).toNat : Int)) := by
 show some (Value.int .u64 (IntKind.u64.wrap ((BitVec.ofInt 64 (x.toNat : Int) &&& ~~~ BitVec.ofInt 64 (y.toNat : Int)).toNat : Int))) = _
 rw [ofInt_nat, ofInt_nat, wrapB64]
abbrev by8 (x : BitVec 8) : IV := .int .u8 (x.toNat : Int)
def copyF (sz : Nat) (d s : IV) (J : JH) : Option (IV × JH) := icopy sz d s J
theorem iexec_copy {B : IBook} {C : ICall} {md : Md} {ρ : List IV} {sz : Nat} {d s : Operand} {J : JH} : iexec B C md ρ (.copy sz d s) J = copyF sz (evI ρ d) (evI ρ s) J := rfl
theorem copyF_ls {sz b v off dl cap : Nat} {x : IV} {xs : List IV} {J : JH} (hx : Ls sz x xs) (h0 : min xs.length dl ≠ 0) : copyF sz (.sl b v off dl cap sz) x J = (match iwr J b v off ((xs.flatMap icells).take (min xs.length dl * sz)) with | some J' => some (.int .i64 (min xs.length dl : Nat), J') | none => none) := by
 unfold copyF icopy
 rw [hx.ilen, hx.cells]
 simp only [ilen, if_neg h0, if_true]
 rfl
theorem copyF_0 {sz b v off dl cap : Nat} {x : IV} {xs : List IV} {J : JH} (hx : Ls sz x xs) (h0 : min xs.length dl = 0) : copyF sz (.sl b v off dl cap sz) x J = some (.int .i64 0, J) := by
 unfold copyF icopy
 rw [hx.ilen]
 simp only [ilen, h0, if_true]
theorem push_set {α : Type} (J : Array α) (X Y : α) : (J.push X).setIfInBounds J.size Y = J.push Y := by
 rcases J with ⟨l⟩
 simp
theorem push_get {α : Type} (J : Array α) (X : α) : (J.push X)[J.size]? = some X := by simp
theorem set_get {α : Type} (J : Array α) {b : Nat} {X : α} (h : b < J.size) : (J.setIfInBounds b X)[b]? = some X := by simp [h]
theorem set_set {α : Type} (J : Array α) {b : Nat} {X Y : α} : (J.setIfInBounds b X).setIfInBounds b Y = J.setIfInBounds b Y := by
 rcases J with ⟨l⟩
 simp
theorem pcK (n : Nat) {f : FuncId} {args : List IV} {u : IV} (h : (match icall BI n f args #[] with | some (v, J) => frz J DEP v | none => none) = some u) : pc BI f args = some u := by
 split at h
 ·rename_i v J hc
  exact pcN n hc h
 ·simp at h
theorem natBeqD (a b : Nat) : (a == b) = decide (a = b) := by rw [Bool.eq_iff_iff]; simp
theorem s11 (n : Nat) : n + 1 + 1 = n + 2 := rfl
theorem s12 (n : Nat) : n + 1 + 2 = n + 3 := rfl
theorem s13 (n : Nat) : n + 1 + 3 = n + 4 := rfl
theorem s22 (n : Nat) : n + 2 + 2 = n + 4 := rfl
theorem s23 (n : Nat) : n + 2 + 3 = n + 5 := rfl
theorem s21 (n : Nat) : n + 2 + 1 = n + 3 := rfl
theorem s31 (n : Nat) : n + 3 + 1 = n + 4 := rfl
theorem s41 (n : Nat) : n + 4 + 1 = n + 5 := rfl
theorem s51 (n : Nat) : n + 5 + 1 = n + 6 := rfl
theorem ite_max {a b : Int} : (if b > a then b else a) = max a b := by split <;> omega
theorem ite_min {a b : Int} : (if b < a then b else a) = min a b := by split <;> omega
attribute [go_sem] push_set push_get Array.size_push Array.size_setIfInBounds set_set
attribute [go_sem] s11 s12 s13 s22 s23 s21 s31 s41 s51 Nat.left_eq_add Nat.add_eq_left List.contains_cons
attribute [go_sem ↓] iexec_copy notB32 band8 band8c bor8 bor8c bxor8 bxor8c bandNot8 band16 band16c bor16 bor16c bxor16 bxor16c bandNot16 band32 band32c bor32 bor32c bxor32 bxor32c bandNot32 band64 band64c bor64 bor64c bxor64 bxor64c bandNot64
attribute [go_sem] lt_UNK not_UNK_le UNK_pos one_lt_UNK Nat.min_eq_left Nat.min_eq_right convB8 convB16 convB32 convB64 i64B8 i64B16 i64B32 fdivB addB32 mulB32 addB32c mulB32c shlB32 shlB64 shl1B32 shl1B64 BitVec.setWidth_eq ite_max ite_min ofInt_nat wrapB8 wrapB16 wrapB32 wrapB64 beqB bneB beqB0 bneB0
def oneM (o : Int) : BitVec 32 := if 0 ≤ o ∧ o < 32 then 1#32 <<< o.toNat else 0#32
theorem one_ok (o : Int) : pc BI F_mask_one [.int .i64 o] = some (m32 (oneM o)) := by
 refine pcE fn_mask_one rfl fun K hK => ?_
 unfold l_mask_one
 by_cases h : o < 0
 ·simp -implicitDefEqProofs only [go_sem, dnW_ite, go_sem_proc, h]
  exact hK _ _ (frzE rfl (by simp [itup, oneM, m32, show ¬ (0 ≤ o) by omega]))
 by_cases h2 : o ≥ 32
 ·simp -implicitDefEqProofs only [go_sem, dnW_ite, go_sem_proc, h, h2]
  exact hK _ _ (frzE rfl (by simp [itup, oneM, m32, show ¬ (o < 32) by omega]))
 ·simp -implicitDefEqProofs only [go_sem, dnW_ite, go_sem_proc, h, h2]
  refine hK _ _ (frzE rfl ?_)
  have e : min o.toNat 32 = o.toNat := by omega
  simp only [e, shl1B32, itup, oneM, m32, show (0 ≤ o ∧ o < 32) from ⟨by omega, by omega⟩, and_self, if_true]
theorem Less_ok (m n : BitVec 32) : pc BI F_mask_Mask_Less [m32 m, m32 n] = some (m32 (m &&& ~~~n)) := by
 refine pcE fn_mask_Mask_Less rfl fun K hK => ?_
 unfold l_mask_Mask_Less
 simp -implicitDefEqProofs only [go_sem, dnW_ite, go_sem_proc]
 exact hK _ _ (frzE rfl rfl)
def within (m n : BitVec 32) : Bool := m &&& ~~~n == 0#32
theorem Within_ok (m n : BitVec 32) : pc BI F_mask_Mask_Within [m32 m, m32 n] = some (.bool (within m n)) := by
 refine pcE fn_mask_Mask_Within rfl fun K hK => ?_
 unfold l_mask_Mask_Within
 simp -implicitDefEqProofs only [go_sem, dnW_ite, go_sem_proc]
 exact hK _ _ (frzE rfl rfl)
def hasM (m : BitVec 32) (o : Int) : Bool := m &&& oneM o != 0#32
theorem Has_ok (m : BitVec 32) (o : Int) : pc BI F_mask_Mask_Has [m32 m, .int .i64 o] = some (.bool (hasM m o)) := by
 refine pcE fn_mask_Mask_Has rfl fun K hK => ?_
 unfold l_mask_Mask_Has
 simp -implicitDefEqProofs only [go_sem, dnW_ite, go_sem_proc, dcp (one_ok o) rfl]
 exact hK _ _ (frzE rfl rfl)
def allM (n : Int) : BitVec 32 := BitVec.ofNat 32 (2 ^ (min (max n 0) 32).toNat - 1)
theorem All_ok (n : Int) : pc BI F_mask_All [.int .i64 n] = some (m32 (allM n)) := by
 refine pcE fn_mask_All rfl fun K hK => ?_
 unfold l_mask_All
 simp -implicitDefEqProofs only [go_sem, dnW_ite, go_sem_proc, show ¬ (min (max n 0) 32 < 0) by omega]
 refine hK _ _ (frzE rfl ?_)
 obtain ⟨k, hk, hk2⟩ : ∃ k : Nat, min (max n 0) 32 = (k : Int) ∧ k ≤ 32 := ⟨(min (max n 0) 32).toNat, by omega, by omega⟩
 simp only [itup, allM, m32, hk, Int.toNat_natCast, BitVec.toNat_ofNat]
 have h1 : (2 : Nat) ^ k ≤ 2 ^ 32 := Nat.pow_le_pow_right (by omega) hk2
 have h2 : 0 < (2 : Nat) ^ k := Nat.pow_pos (by omega)
 have h3 : (1#64 <<< k).toNat = 2 ^ k := by
  rw [BitVec.toNat_shiftLeft, Nat.shiftLeft_eq]
  simp only [BitVec.toNat_ofNat]
  omega
 simp only [Nat.min_eq_left (show k ≤ 64 by omega), h3]
 generalize (2 : Nat) ^ k = p at *
 simp only [IntKind.wrap, IntKind.bits, IntKind.signed]
 simp
 omega
theorem Meet_ok (m : BitVec 32) (x : IV) (l : List (BitVec 32)) (hx : Ls 1 x (l.map m32)) (hb : l.length ≤ 9223372036854775807) : pc BI F_mask_Mask_Meet [m32 m, x] = some (m32 (l.foldl (· &&& ·) m)) := by
 refine pcE fn_mask_Mask_Meet rfl fun K hK => ?_
 unfold l_mask_Mask_Meet
 simp -implicitDefEqProofs only [go_sem, dnW_ite, go_sem_proc, hx.lenF, dn_loop, List.length_map]
 refine WP_range (by decide) l.length (fun i vs J => vs = [m32 ((l.take i).foldl (· &&& ·) m), x, nI l.length, nI i]) ?_ rfl
 rintro i vs J rfl hi K1 g1 g2 g3
 unfold l_mask_Mask_Meet_k0
 by_cases h : i < l.length
 ·have ha := hx.at (i := i) (by simpa using h) (J := J)
  simp only [List.getElem_map] at ha
  simp -implicitDefEqProofs only [go_sem, dnW_ite, go_sem_proc, show ((i : Int) < (l.length : Int)) by omega, ha, wrapS h hb]
  refine g1 h _ _ ?_
  rw [List.take_succ_eq_append_getElem h, List.foldl_append]; rfl
 ·simp -implicitDefEqProofs only [go_sem, dnW_ite, go_sem_proc, show ¬ ((i : Int) < (l.length : Int)) by omega]
  refine g2 _ _ ?_
  unfold l_mask_Mask_Meet_k1
  simp -implicitDefEqProofs only [go_sem, dnW_ite, go_sem_proc]
  refine hK _ _ (frzE rfl ?_)
  rw [List.take_of_length_le (by omega)]; rfl
theorem Join_ok (m : BitVec 32) (x : IV) (l : List (BitVec 32)) (hx : Ls 1 x (l.map m32)) (hb : l.length ≤ 9223372036854775807) : pc BI F_mask_Mask_Join [m32 m, x] = some (m32 (l.foldl (· ||| ·) m)) := by
 refine pcE fn_mask_Mask_Join rfl fun K hK => ?_
 unfold l_mask_Mask_Join
 simp -implicitDefEqProofs only [go_sem, dnW_ite, go_sem_proc, hx.lenF, dn_loop, List.length_map]
 refine WP_range (by decide) l.length (fun i vs J => vs = [m32 ((l.take i).foldl (· ||| ·) m), x, nI l.length, nI i]) ?_ rfl
 rintro i vs J rfl hi K1 g1 g2 g3
 unfold l_mask_Mask_Join_k0
 by_cases h : i < l.length
 ·have ha := hx.at (i := i) (by simpa using h) (J := J)
  simp only [List.getElem_map] at ha
  simp -implicitDefEqProofs only [go_sem, dnW_ite, go_sem_proc, show ((i : Int) < (l.length : Int)) by omega, ha, wrapS h hb]
  refine g1 h _ _ ?_
  rw [List.take_succ_eq_append_getElem h, List.foldl_append]; rfl
 ·simp -implicitDefEqProofs only [go_sem, dnW_ite, go_sem_proc, show ¬ ((i : Int) < (l.length : Int)) by omega]
  refine g2 _ _ ?_
  unfold l_mask_Mask_Join_k1
  simp -implicitDefEqProofs only [go_sem, dnW_ite, go_sem_proc]
  refine hK _ _ (frzE rfl ?_)
  rw [List.take_of_length_le (by omega)]; rfl
theorem With_ok (m : BitVec 32) (x : IV) (l : List Int) (hx : Ls 1 x (l.map (IV.int .i64))) (hb : l.length ≤ 9223372036854775807) : pc BI F_mask_Mask_With [m32 m, x] = some (m32 (l.foldl (fun m o => m ||| oneM o) m)) := by
 refine pcE fn_mask_Mask_With rfl fun K hK => ?_
 unfold l_mask_Mask_With
 simp -implicitDefEqProofs only [go_sem, dnW_ite, go_sem_proc, hx.lenF, dn_loop, List.length_map]
 refine WP_range (by decide) l.length (fun i vs J => vs = [m32 ((l.take i).foldl (fun m o => m ||| oneM o) m), x, nI l.length, nI i]) ?_ rfl
 rintro i vs J rfl hi K1 g1 g2 g3
 unfold l_mask_Mask_With_k0
 by_cases h : i < l.length
 ·have ha := hx.at (i := i) (by simpa using h) (J := J)
  simp only [List.getElem_map] at ha
  simp -implicitDefEqProofs only [go_sem, dnW_ite, go_sem_proc, show ((i : Int) < (l.length : Int)) by omega, ha, wrapS h hb, dcp (one_ok l[i]) rfl]
  refine g1 h _ _ ?_
  rw [List.take_succ_eq_append_getElem h, List.foldl_append]; rfl
 ·simp -implicitDefEqProofs only [go_sem, dnW_ite, go_sem_proc, show ¬ ((i : Int) < (l.length : Int)) by omega]
  refine g2 _ _ ?_
  unfold l_mask_Mask_With_k1
  simp -implicitDefEqProofs only [go_sem, dnW_ite, go_sem_proc]
  refine hK _ _ (frzE rfl ?_)
  rw [List.take_of_length_le (by omega)]; rfl
theorem Of_ok (x : IV) (l : List Int) (hx : Ls 1 x (l.map (IV.int .i64))) (hb : l.length ≤ 9223372036854775807) : pc BI F_mask_Of [x] = some (m32 (l.foldl (fun m o => m ||| oneM o) 0#32)) := by
 refine pcE fn_mask_Of rfl fun K hK => ?_
 unfold l_mask_Of
 have : pc BI F_mask_Mask_With [IV.int .u32 0, x] = _ := With_ok 0#32 x l hx hb
 simp -implicitDefEqProofs only [go_sem, dnW_ite, go_sem_proc, dcp this (by simp [ipureL, hx.pure, ipure])]
 exact hK _ _ (frzE rfl rfl)
structure Cl where
 v : Int
 s : BitVec 32
 deriving DecidableEq
def Cl.c (c : Cl) : List IV := [.int .i32 c.v, m32 c.s]
def Cl.z : Cl := ⟨0, 0#32⟩
structure Bd where
 l : List Cl
 h : l.length ≤ 48
theorem Bd.ext {a b : Bd} (h : a.l = b.l) : a = b := by cases a; cases b; cases h; rfl
instance : DecidableEq Bd := fun a b => if h : a.l = b.l then isTrue (Bd.ext h) else isFalse fun e => h (by rw [e])
def Bd.pad (b : Bd) : List (List IV) := (b.l ++ List.replicate (48 - b.l.length) Cl.z).map Cl.c
def bdc (b : Bd) : List IV := b.pad.flatten ++ [nI b.l.length]
def Bd.set (b : Bd) (i : Nat) (c : Cl) : Bd := ⟨b.l.set i c, by rw [List.length_set]; exact b.h⟩
def Bd.map (b : Bd) (f : Cl → Cl) : Bd := ⟨b.l.map f, by rw [List.length_map]; exact b.h⟩
def Bd.z : Bd := ⟨[], by simp⟩
theorem pad2 (b : Bd) : ∀ e ∈ b.pad, e.length = 2 := by
 intro e he
 obtain ⟨y, _, rfl⟩ := List.mem_map.1 he
 rfl
theorem pad_len (b : Bd) : b.pad.length = 48 := by
 have := b.h
 simp [Bd.pad]; omega
theorem bdc_len (b : Bd) : (bdc b).length = 97 := by
 simp only [bdc, List.length_append, flat_len (pad2 b), pad_len, List.length_cons, List.length_nil]
theorem bdc_one (b : Bd) : (bdc b).all ione = true := by
 rw [List.all_eq_true]
 intro x hx
 rcases List.mem_append.1 hx with hx | hx
 ·obtain ⟨e, he, hx⟩ := List.mem_flatten.1 hx
  obtain ⟨y, _, rfl⟩ := List.mem_map.1 he
  simp [Cl.c] at hx
  rcases hx with rfl | rfl <;> rfl
 ·simp at hx; subst hx; rfl
theorem bdc_pure (b : Bd) : ipureL (bdc b) = true := by
 rw [ipureL_iff]
 intro x hx
 rcases List.mem_append.1 hx with hx | hx
 ·obtain ⟨e, he, hx⟩ := List.mem_flatten.1 hx
  obtain ⟨y, _, rfl⟩ := List.mem_map.1 he
  simp [Cl.c] at hx
  rcases hx with rfl | rfl <;> rfl
 ·simp at hx; subst hx; rfl
theorem bdc_take (b : Bd) : (bdc b).take 97 = bdc b := List.take_of_length_le (by rw [bdc_len]; exact Nat.le_refl _)
theorem bdc_n (b : Bd) : ((bdc b).drop 96).take 1 = [nI b.l.length] := by
 have h : b.pad.flatten.length = 96 := by rw [flat_len (pad2 b), pad_len]
 rw [bdc, List.drop_append_of_le_length (by omega), List.drop_of_length_le (by omega)]; rfl
theorem pad_at (b : Bd) {i : Nat} (h : i < b.l.length) (h' : i < b.pad.length) : b.pad[i] = b.l[i].c := by
 simp [Bd.pad, List.getElem_append, h]
theorem bdc_at (b : Bd) {i : Nat} (h : i < b.l.length) : ((bdc b).drop (i * 2)).take 2 = b.l[i].c := by
 have := b.h
 have h' : i < b.pad.length := by rw [pad_len]; omega
 rw [bdc, flat_at (pad2 b) h', pad_at b h h']
theorem bdc_at1 (b : Bd) {i k : Nat} (h : i < b.l.length) (hk : k < 2) : ((bdc b).drop (i * 2 + k)).take 1 = [b.l[i].c[k]'hk] := by
 have := b.h
 have h' : i < b.pad.length := by rw [pad_len]; omega
 have e := pad_at b h h'
 rw [bdc, flat_at1 (pad2 b) h' (by rw [pad2 b _ (List.getElem_mem h')]; exact hk)]
 simp only [e]; rfl
theorem bdc_s (b : Bd) {i : Nat} (h : i < b.l.length) : ((bdc b).drop (i * 2 + 1)).take 1 = [m32 b.l[i].s] := bdc_at1 b h (k := 1) (by omega)
theorem pad_set (b : Bd) {i : Nat} (h : i < b.l.length) (c : Cl) : b.pad.set i c.c = (b.set i c).pad := by
 simp only [Bd.pad, Bd.set, ← List.map_set, List.length_set, List.set_append_left _ _ h]
theorem bdc_splice (b : Bd) {i k : Nat} (vs : List IV) (h : i < b.l.length) (hk : k + vs.length ≤ 2) (c : Cl) (hc : isplice b.l[i].c k vs = c.c) : isplice (bdc b) (i * 2 + k) vs = bdc (b.set i c) := by
 have := b.h
 have h' : i < b.pad.length := by rw [pad_len]; omega
 rw [bdc, flat_splice (pad2 b) h' hk, pad_at b h h', hc, pad_set b h]
 rw [bdc]; simp [Bd.set]
theorem bdc_set (b : Bd) {i : Nat} (h : i < b.l.length) (c : Cl) : isplice (bdc b) (i * 2) [.int .i32 c.v, m32 c.s] = bdc (b.set i c) := bdc_splice b (k := 0) _ h (by simp) c rfl
theorem bdc_setv (b : Bd) {i : Nat} (h : i < b.l.length) (v : Int) : isplice (bdc b) (i * 2) [.int .i32 v] = bdc (b.set i ⟨v, b.l[i].s⟩) := bdc_splice b (k := 0) _ h (by simp) ⟨v, b.l[i].s⟩ rfl
theorem bdc_sets (b : Bd) {i : Nat} (h : i < b.l.length) (s : BitVec 32) : isplice (bdc b) (i * 2 + 1) [m32 s] = bdc (b.set i ⟨b.l[i].v, s⟩) := bdc_splice b (k := 1) _ h (by simp) ⟨b.l[i].v, s⟩ rfl
theorem bdc_all (b c : Bd) : isplice (bdc b) 0 (bdc c) = bdc c := by
 simp only [isplice, List.take_zero, List.nil_append, Nat.zero_add]
 rw [List.drop_of_length_le (by rw [bdc_len, bdc_len]; exact Nat.le_refl _), List.append_nil]
theorem zc_bd : (reps 48 [Value.int .i32 0, Value.int .u32 0] ++ [Value.int .i64 0]).map IV.sc = bdc Bd.z := by rfl
theorem b48 {i : Nat} (h : i < 48) : i * 2 ≤ 95 ∧ i * 2 ≤ 96 ∧ i * 2 + 1 ≤ 96 ∧ i * 2 ≤ 97 ∧ i * 2 + 1 ≤ 97 ∧ i < 48 := by omega
theorem cells_eq : ∀ (p q : List Cl) (n m : Nat), p.length = q.length → iaggEq ((p.map Cl.c).flatten ++ [nI n]) ((q.map Cl.c).flatten ++ [nI m]) = some (decide (p = q ∧ n = m))
 | [], [], n, m, _ => by
  simp only [List.map_nil, List.flatten_nil, List.nil_append, iaggEq, if_true, Bool.and_true, true_and]
  congr 1
  rw [Bool.eq_iff_iff]; simp; omega
 | a :: p, b :: q, n, m, h => by
  have ih := cells_eq p q n m (by simpa using h)
  obtain ⟨av, as⟩ := a
  obtain ⟨bv, bs⟩ := b
  simp only [List.map_cons, List.flatten_cons, Cl.c, List.cons_append, List.nil_append, iaggEq, if_true, ih, List.append_eq, beqB]
  congr 1
  rw [Bool.eq_iff_iff]
  simp [and_assoc]
 | [], _ :: _, _, _, h => by simp at h
 | _ :: _, [], _, _, h => by simp at h
theorem bdc_eq (a b : Bd) : iaggEq (bdc a) (bdc b) = some (decide (a = b)) := by
 have ha := a.h
 have hb := b.h
 rw [bdc, bdc, Bd.pad, Bd.pad, cells_eq _ _ _ _ (by simp; omega)]
 congr 1
 rw [decide_eq_decide]
 constructor
 ·rintro ⟨h1, h2⟩
  apply Bd.ext
  rw [h2] at h1
  exact List.append_cancel_right h1
 ·rintro rfl
  exact ⟨rfl, rfl⟩
attribute [go_sem] Cl.c bdc_len bdc_one bdc_pure bdc_take bdc_n bdc_all bdc_eq agg_pure
attribute [go_sem ↓] zc_bd
theorem Len_ok (b : Bd) : pc BI F_board_Board_Len [.agg (bdc b)] = some (nI b.l.length) := by
 refine pcE fn_board_Board_Len rfl fun K hK => ?_
 unfold l_board_Board_Len
 simp -implicitDefEqProofs only [go_sem, dnW_ite, go_sem_proc]
 exact hK _ _ (frzE rfl rfl)
def Bd.there (b : Bd) (i : Int) : Bool := decide (0 ≤ i ∧ i < (b.l.length : Int))
theorem there_ok (b : Bd) (i : Int) : pc BI F_board_Board_there [.agg (bdc b), .int .i64 i] = some (.bool (b.there i)) := by
 refine pcE fn_board_Board_there rfl fun K hK => ?_
 unfold l_board_Board_there
 by_cases h : i ≥ 0
 ·simp -implicitDefEqProofs only [go_sem, dnW_ite, go_sem_proc, h]
  exact hK _ _ (frzE rfl (by simp [itup, Bd.there, h]))
 ·simp -implicitDefEqProofs only [go_sem, dnW_ite, go_sem_proc, h]
  exact hK _ _ (frzE rfl (by simp [itup, Bd.there, h]))
def Bd.at (b : Bd) (i : Int) : Cl := b.l.getD i.toNat Cl.z
theorem At_ok (b : Bd) (i : Int) : pc BI F_board_Board_At [.agg (bdc b), .int .i64 i] = some (.tup [.agg (if b.there i then b.at i else Cl.z).c, .bool (b.there i)]) := by
 refine pcE fn_board_Board_At rfl fun K hK => ?_
 unfold l_board_Board_At
 by_cases h : b.there i = true
 ·obtain ⟨h1, h2⟩ : 0 ≤ i ∧ i < (b.l.length : Int) := by simpa [Bd.there] using h
  have h3 : i.toNat < b.l.length := by omega
  have h4 := b.h
  have e : b.at i = b.l[i.toNat] := by simp [Bd.at, h3]
  simp -implicitDefEqProofs only [go_sem, dnW_ite, go_sem_proc, dcp (there_ok b i) (by simp [ipureL, ipure, bdc_pure]), h, h1, b48 (show i.toNat < 48 by omega), bdc_at b h3]
  exact hK _ _ (frzE rfl (by simp [itup, h, e, Cl.c]))
 ·simp only [Bool.not_eq_true] at h
  simp -implicitDefEqProofs only [go_sem, dnW_ite, go_sem_proc, dcp (there_ok b i) (by simp [ipureL, ipure, bdc_pure]), h]
  exact hK _ _ (frzE rfl (by simp [itup, h, Cl.c, Cl.z]))
def Bd.put (b : Bd) (i : Int) (c : Cl) : Bd := if b.there i then b.set i.toNat c else b
theorem Put_ok (b : Bd) (i : Int) (c : Cl) : pc BI F_board_Board_Put [.agg (bdc b), .int .i64 i, .agg c.c] = some (.tup [.agg (bdc (b.put i c)), nI (if b.there i then 0 else 7)]) := by
 refine pcE fn_board_Board_Put rfl fun K hK => ?_
 unfold l_board_Board_Put
 by_cases h : b.there i = true
 ·obtain ⟨h1, h2⟩ : 0 ≤ i ∧ i < (b.l.length : Int) := by simpa [Bd.there] using h
  have h3 : i.toNat < b.l.length := by omega
  have h4 := b.h
  simp -implicitDefEqProofs only [go_sem, dnW_ite, go_sem_proc, dcp (there_ok b i) (by simp [ipureL, ipure, bdc_pure]), h, h1, b48 (show i.toNat < 48 by omega), bdc_set b h3]
  exact hK _ _ (frzE (by simp [itup, ipure, ipureL, bdc_pure]) (by simp [itup, h, Bd.put]))
 ·simp only [Bool.not_eq_true] at h
  simp -implicitDefEqProofs only [go_sem, dnW_ite, go_sem_proc, dcp (there_ok b i) (by simp [ipureL, ipure, bdc_pure]), h]
  exact hK _ _ (frzE (by simp [itup, ipure, ipureL, bdc_pure]) (by simp [itup, h, Bd.put]))
def Bd.show (b : Bd) (i : Int) (to : BitVec 32) : Bd := if b.there i then b.set i.toNat ⟨(b.at i).v, (b.at i).s ||| to⟩ else b
theorem Show_ok (b : Bd) (i : Int) (to : BitVec 32) : pc BI F_board_Board_Show [.agg (bdc b), .int .i64 i, m32 to] = some (.tup [.agg (bdc (b.show i to)), .bool (b.there i && !within to (b.at i).s), nI (if b.there i then 0 else 7)]) := by
 refine pcE fn_board_Board_Show rfl fun K hK => ?_
 unfold l_board_Board_Show
 by_cases h : b.there i = true
 ·obtain ⟨h1, h2⟩ : 0 ≤ i ∧ i < (b.l.length : Int) := by simpa [Bd.there] using h
  have h3 : i.toNat < b.l.length := by omega
  have h4 := b.h
  have e : b.at i = b.l[i.toNat] := by simp [Bd.at, h3]
  have hj := fun f => Join_ok b.l[i.toNat].s (.lst 1 f [m32 to]) [to] .lst (by simp)
  simp only [List.foldl] at hj
  simp -implicitDefEqProofs only [go_sem, dnW_ite, go_sem_proc, dcp (there_ok b i) (by simp [ipureL, ipure, bdc_pure]), h, h1, b48 (show i.toNat < 48 by omega), bdc_s b h3, dcp (Within_ok to b.l[i.toNat].s) rfl, ipureL, ipure, grp, mkE, List.headD, one_lt_UNK, dcp (hj _) rfl, bdc_sets b h3]
  exact hK _ _ (frzE (by simp [itup, ipure, ipureL, bdc_pure]) (by simp [itup, h, Bd.show, e]))
 ·simp only [Bool.not_eq_true] at h
  simp -implicitDefEqProofs only [go_sem, dnW_ite, go_sem_proc, dcp (there_ok b i) (by simp [ipureL, ipure, bdc_pure]), h]
  exact hK _ _ (frzE (by simp [itup, ipure, ipureL, bdc_pure]) (by simp [itup, h, Bd.show]))
def viewC (o : Int) (c : Cl) : Cl := if hasM c.s o then c else ⟨0, c.s⟩
def Bd.view (b : Bd) (o : Int) : Bd := b.map (viewC o)
def Bd.viewN (b : Bd) (o : Int) (i : Nat) : Bd := ⟨(b.l.take i).map (viewC o) ++ b.l.drop i, by have := b.h; simp; omega⟩
theorem viewN_len (b : Bd) (o : Int) (i : Nat) : (b.viewN o i).l.length = b.l.length := by simp [Bd.viewN]; omega
theorem viewN_at (b : Bd) (o : Int) (i : Nat) (h : i < b.l.length) (h' : i < (b.viewN o i).l.length) : (b.viewN o i).l[i] = b.l[i] := by
 simp [Bd.viewN, List.getElem_append, show min i b.l.length = i by omega]
theorem viewN_succ (b : Bd) (o : Int) (i : Nat) (h : i < b.l.length) : (b.viewN o i).set i (viewC o b.l[i]) = b.viewN o (i + 1) := by
 apply Bd.ext
 simp only [Bd.viewN, Bd.set]
 rw [List.take_succ_eq_append_getElem h, List.map_append, List.drop_eq_getElem_cons h, List.set_append_right _ _ (by simp; omega)]
 simp only [List.length_map, List.length_take, show i - min i b.l.length = 0 by omega, List.set_cons_zero, List.append_assoc, List.map_cons, List.map_nil, List.cons_append, List.nil_append]
theorem viewN_same (b : Bd) (o : Int) (i : Nat) (h : i < b.l.length) (hv : viewC o b.l[i] = b.l[i]) : b.viewN o i = b.viewN o (i + 1) := by
 rw [← viewN_succ b o i h, hv]
 apply Bd.ext
 simp only [Bd.set]
 rw [← viewN_at b o i h (by rw [viewN_len]; exact h), List.set_getElem_self]
theorem View_ok (b : Bd) (o : Int) : pc BI F_board_Board_View [.agg (bdc b), .int .i64 o] = some (.agg (bdc (b.view o))) := by
 refine pcE fn_board_Board_View rfl fun K hK => ?_
 unfold l_board_Board_View
 have h4 := b.h
 simp -implicitDefEqProofs only [go_sem, dnW_ite, go_sem_proc, dn_loop]
 refine WP_range (by decide) b.l.length (fun i vs J => vs = [.int .i64 o, .ptr 0 0 0, .ptr 1 0 0, nI b.l.length, nI i] ∧ J = #[IB.cells 0 (bdc (b.viewN o i)) false, IB.cells 0 (bdc Bd.z) false]) ?_ ⟨rfl, by simp [Bd.viewN]⟩
 rintro i vs J ⟨rfl, rfl⟩ hi K1 g1 g2 g3
 unfold l_board_Board_View_k0
 by_cases h : i < b.l.length
 ·have h' : i < (b.viewN o i).l.length := by rw [viewN_len]; exact h
  have e1 := bdc_s (b.viewN o i) h'
  have e2 := bdc_setv (b.viewN o i) h' 0
  rw [viewN_at b o i h] at e1 e2
  by_cases hv : hasM b.l[i].s o = true
  ·simp -implicitDefEqProofs only [go_sem, dnW_ite, go_sem_proc, show ((i : Int) < (b.l.length : Int)) by omega, b48 (show i < 48 by omega), e1, dcp (Has_ok b.l[i].s o) rfl, hv, wrapS h (show b.l.length ≤ 9223372036854775807 by omega)]
   refine g1 h _ _ ⟨rfl, ?_⟩
   rw [viewN_same b o i h (by simp [viewC, hv])]
  ·simp only [Bool.not_eq_true] at hv
   simp -implicitDefEqProofs only [go_sem, dnW_ite, go_sem_proc, show ((i : Int) < (b.l.length : Int)) by omega, b48 (show i < 48 by omega), e1, e2, dcp (Has_ok b.l[i].s o) rfl, hv, wrapS h (show b.l.length ≤ 9223372036854775807 by omega)]
   refine g1 h _ _ ⟨rfl, ?_⟩
   rw [← viewN_succ b o i h]
   simp [viewC, hv]
 ·simp -implicitDefEqProofs only [go_sem, dnW_ite, go_sem_proc, show ¬ ((i : Int) < (b.l.length : Int)) by omega]
  refine g2 _ _ ?_
  unfold l_board_Board_View_k1
  simp -implicitDefEqProofs only [go_sem, dnW_ite, go_sem_proc]
  refine hK _ _ (frzE (by simp [itup, ipure, ipureL, bdc_pure]) ?_)
  have : b.viewN o i = b.view o := by
   apply Bd.ext
   simp [Bd.viewN, Bd.view, Bd.map, List.take_of_length_le (show b.l.length ≤ i by omega), List.drop_of_length_le (show b.l.length ≤ i by omega)]
  rw [this]; rfl
structure Cd where
 op : Nat
 a : Nat
 b : Nat
 c : Nat
 n : Int
 mask : BitVec 32
 deriving DecidableEq
def Cd.cs (x : Cd) : List IV := [.int .u8 (x.op : Int), .int .u8 (x.a : Int), .int .u8 (x.b : Int), .int .u8 (x.c : Int), .int .i32 x.n, m32 x.mask]
def Cd.e (x : Cd) : IV := .agg x.cs
structure Cd.wf (x : Cd) : Prop where
 op : x.op < 256
 a : x.a < 256
 b : x.b < 256
 c : x.c < 256
 n0 : -2147483648 ≤ x.n
 n1 : x.n < 2147483648
def useOf (op : Nat) : Bool × Bool × Bool × Nat × Bool := match op with
 | 1 => (true, false, false, 1, false)
 | 2 | 3 => (true, false, false, 2, false)
 | 4 | 5 => (true, true, false, 2, false)
 | 6 | 7 | 8 | 9 | 10 | 11 | 12 | 13 | 14 | 15 | 16 | 17 | 18 => (true, true, true, 0, false)
 | 19 => (true, false, false, 3, false)
 | 20 => (false, false, false, 3, false)
 | 21 => (true, false, false, 4, false)
 | 22 => (false, true, false, 2, true)
 | 23 => (true, false, false, 5, false)
 | 24 => (false, false, false, 6, false)
 | 25 => (true, false, false, 0, false)
 | _ => (false, false, false, 0, false)
def useC (u : Bool × Bool × Bool × Nat × Bool) : List IV := [.bool u.1, .bool u.2.1, .bool u.2.2.1, .int .u8 (u.2.2.2.1 : Int), .bool u.2.2.2.2]
def usesL : List IV := ((List.range 26).map fun i => useC (useOf i)).flatten
theorem uses_ok : pc BI F_code_uses [] = some (.agg usesL) := pcK 60 (by kernel_rfl)
theorem uses_len : usesL.length = 130 := by kernel_rfl
theorem uses_one : usesL.all ione = true := by kernel_rfl
theorem uses_pure : ipureL usesL = true := by kernel_rfl
theorem uses_take : usesL.take 130 = usesL := List.take_of_length_le (by rw [uses_len]; exact Nat.le_refl _)
theorem uses_all : isplice usesL 0 usesL = usesL := by kernel_rfl
theorem uses_at {i : Nat} (h : i < 26) : (usesL.drop (i * 5)).take 5 = useC (useOf i) := by
 have := flat_at (rest := []) (X := (List.range 26).map fun i => useC (useOf i)) (sz := 5) (i := i) (fun x hx => by
  obtain ⟨y, _, rfl⟩ := List.mem_map.1 hx; rfl) (by simpa using h)
 rw [List.append_nil] at this
 rw [usesL, this]; simp
attribute [go_sem] uses_len uses_one uses_pure uses_take uses_all
def regOk (used : Bool) (r : Nat) : Bool := r == 0 || used && decide (r < 8)
theorem natBeq (a b : Nat) : ((a : Int) == (b : Int)) = (a == b) := by rw [Bool.eq_iff_iff]; simp; omega
theorem natBeqc (a c : Nat) : ((a : Int) == no_index (@OfNat.ofNat Int c instOfNat)) = (a == c) := natBeq a c
theorem natBeq0 (a : Nat) : ((a : Int) == 0) = (a == 0) := natBeq a 0
theorem register_ok (used : Bool) (r : Nat) : pc BI F_code_register [.bool used, .int .u8 (r : Int)] = some (.bool (regOk used r)) := by
 refine pcE fn_code_register rfl fun K hK => ?_
 unfold l_code_register
 by_cases h0 : r = 0
 ·subst h0
  simp -implicitDefEqProofs only [go_sem, dnW_ite, go_sem_proc]
  exact hK _ _ (frzE rfl rfl)
 have h1 : ((r : Int) == 0) = false := by rw [natBeq0]; simpa using h0
 cases used with
 | true =>
  simp -implicitDefEqProofs only [go_sem, dnW_ite, go_sem_proc, h1]
  exact hK _ _ (frzE rfl (by simp [itup, regOk, h0, show ((r : Int) < 8) ↔ (r < 8) by omega]))
 | false =>
  simp -implicitDefEqProofs only [go_sem, dnW_ite, go_sem_proc, h1]
  exact hK _ _ (frzE rfl (by simp [itup, regOk, h0]))
def nOk (k : Nat) (n : Int) (size cells players : Nat) : Bool := match k with
 | 1 => true
 | 2 => decide (0 ≤ n ∧ n < cells)
 | 3 => decide (0 ≤ n ∧ n ≤ size)
 | 4 => decide (0 ≤ n ∧ n < players)
 | 5 => decide (1 ≤ n)
 | _ => n == 0
def Cd.right (x : Cd) (size cells players : Nat) : Bool :=
 if x.op > 25 then false else
 if (useOf x.op).2.2.2.1 = 6 then (x.a == 0 && x.b == 0) && (decide (1 ≤ x.c) && decide (x.c ≤ 48)) && decide (0 ≤ x.n) && decide (x.n + x.c ≤ cells) && x.mask == 0#32
 else nOk (useOf x.op).2.2.2.1 x.n size cells players && regOk (useOf x.op).1 x.a && regOk (useOf x.op).2.1 x.b && regOk (useOf x.op).2.2.1 x.c && ((useOf x.op).2.2.2.2 || x.mask == 0#32)
theorem use_le (op : Nat) : (useOf op).2.2.2.1 ≤ 6 := by unfold useOf; split <;> simp
theorem right_k1 (J : JH) (p q : Nat) (v1 v2 : Nat) (x : Cd) (u : Bool × Bool × Bool × Nat × Bool) (ok : Bool) (hp : J[p]? = some (.cells v1 x.cs false)) (hq : J[q]? = some (.cells v2 (useC u) false)) (K : Out IV → JH → Prop)
  (h : K (.ret [.bool (ok && regOk u.1 x.a && regOk u.2.1 x.b && regOk u.2.2.1 x.c && (u.2.2.2.2 || x.mask == 0#32))]) J) : WP (dn BI l_code_right_k1 [.ptr p v1 0, .ptr q v2 0, .bool ok] J) K := by
 unfold l_code_right_k1
 obtain ⟨ua, ub, uc, un, um⟩ := u
 simp only [Cd.cs, useC] at hp hq
 cases ok with
 | false => simp -implicitDefEqProofs only [go_sem, dnW_ite, go_sem_proc]; exact h
 | true =>
  simp -implicitDefEqProofs only [go_sem, dnW_ite, go_sem_proc, hp, hq, dcp (register_ok ua x.a) rfl]
  cases hA : regOk ua x.a with
  | false => simp -implicitDefEqProofs only [go_sem, dnW_ite, go_sem_proc, hA]; simp only [hA] at h; exact h
  | true =>
   simp -implicitDefEqProofs only [go_sem, dnW_ite, go_sem_proc, hA, hp, hq, dcp (register_ok ub x.b) rfl]
   cases hB : regOk ub x.b with
   | false => simp -implicitDefEqProofs only [go_sem, dnW_ite, go_sem_proc, hB]; simp only [hA, hB] at h; exact h
   | true =>
    simp -implicitDefEqProofs only [go_sem, dnW_ite, go_sem_proc, hB, hp, hq, dcp (register_ok uc x.c) rfl]
    cases hC : regOk uc x.c with
    | false => simp -implicitDefEqProofs only [go_sem, dnW_ite, go_sem_proc, hC]; simp only [hA, hB, hC] at h; exact h
    | true =>
     cases um with
     | true => simp -implicitDefEqProofs only [go_sem, dnW_ite, go_sem_proc, hC, hp, hq]; simp only [hA, hB, hC] at h; exact h
     | false => simp -implicitDefEqProofs only [go_sem, dnW_ite, go_sem_proc, hC, hp, hq]; simp only [hA, hB, hC] at h; exact h
theorem or8_0 (a b : Nat) (ha : a < 256) (hb : b < 256) : ∃ r : Nat, abin .or (.int .u8 (a : Int)) (.int .u8 (b : Int)) = some (.int .u8 (r : Int)) ∧ r < 256 ∧ (r = 0 ↔ a = 0 ∧ b = 0) := by
 have h := bor8 (BitVec.ofNat 8 a) (BitVec.ofNat 8 b)
 simp only [BitVec.toNat_ofNat, Nat.mod_eq_of_lt (show a < 2 ^ 8 from ha), Nat.mod_eq_of_lt (show b < 2 ^ 8 from hb)] at h
 refine ⟨_, h, (BitVec.ofNat 8 a ||| BitVec.ofNat 8 b).isLt, ?_⟩
 rw [BitVec.toNat_or, Nat.or_eq_zero_iff]
 simp only [BitVec.toNat_ofNat, Nat.mod_eq_of_lt (show a < 2 ^ 8 from ha), Nat.mod_eq_of_lt (show b < 2 ^ 8 from hb)]
theorem right_k0 (x : Cd) (hx : x.wf) (cells : Nat) (many : Bool) (hc : cells ≤ 1000000) (J : JH) (hJ : J[0]? = some (.cells 0 x.cs false)) :
  dn BI l_code_right_k0 [nI cells, .ptr 0 0 0, .int .i64 x.n, .bool many] J = some (.ret [.bool ((x.a == 0 && x.b == 0) && many && decide (0 ≤ x.n) && decide (x.n + x.c ≤ cells) && x.mask == 0#32)], J) := by
 obtain ⟨w1, w2, w3, w4, w5, w6⟩ := hx
 obtain ⟨r, hr, hr1, hr2⟩ := or8_0 x.a x.b w2 w3
 have hreg : regOk false r = (x.a == 0 && x.b == 0) := by
  rw [Bool.eq_iff_iff]; simp [regOk, hr2]
 have e1 : IntKind.i64.wrap (x.c : Int) = x.c := wrap_i64 (by omega) (by omega)
 have e2 : IntKind.i64.wrap (x.n + x.c) = x.n + x.c := wrap_i64 (by omega) (by omega)
 have hrr := register_ok false r
 rw [hreg] at hrr
 unfold l_code_right_k0
 simp only [Cd.cs] at hJ
 cases hA : (x.a == 0 && x.b == 0) with
 | false =>
  rw [hA] at hrr
  simp -implicitDefEqProofs only [go_sem, dnW_ite, go_sem_proc, hJ, ↓hr, dcp hrr rfl]
 | true =>
  rw [hA] at hrr
  cases many with
  | false => simp -implicitDefEqProofs only [go_sem, dnW_ite, go_sem_proc, hJ, ↓hr, dcp hrr rfl]
  | true =>
   by_cases h0 : x.n ≥ 0
   ·by_cases h1 : x.n + x.c ≤ cells
    ·simp -implicitDefEqProofs only [go_sem, dnW_ite, go_sem_proc, hJ, ↓hr, dcp hrr rfl, h0, e1, e2, h1]
    ·simp -implicitDefEqProofs only [go_sem, dnW_ite, go_sem_proc, hJ, ↓hr, dcp hrr rfl, h0, e1, e2, h1]
   ·simp -implicitDefEqProofs only [go_sem, dnW_ite, go_sem_proc, hJ, ↓hr, dcp hrr rfl, h0]
theorem right_ok (x : Cd) (hx : x.wf) (size cells players : Nat) (hs : size ≤ 1000000) (hc : cells ≤ 1000000) (hp : players ≤ 1000000) :
  pc BI F_code_right [x.e, .agg usesL, nI size, nI cells, nI players] = some (.bool (x.right size cells players)) := by
 refine pcE fn_code_right rfl fun K hK => ?_
 unfold l_code_right Cd.e
 obtain ⟨w1, w2, w3, w4, w5, w6⟩ := hx
 have hxo : x.cs.all ione = true := rfl
 by_cases hop : x.op > 25
 ·have : ((x.op : Int) > 25) := by omega
  simp -implicitDefEqProofs only [go_sem, dnW_ite, go_sem_proc, hxo, Cd.cs, this]
  exact hK _ _ (frzE rfl (by simp [itup, Cd.right, hop]))
 have h1 : ¬ ((x.op : Int) > 25) := by omega
 have hu := uses_at (i := x.op) (by omega)
 have hi : IntKind.i64.wrap x.n = x.n := wrap_i64 (by omega) (by omega)
 have hle := use_le x.op
 have hk : ∀ ok : Bool, (useOf x.op).2.2.2.1 ≠ 6 → nOk (useOf x.op).2.2.2.1 x.n size cells players = ok → ∀ J, J[0]? = some (.cells 0 x.cs false) → J[2]? = some (.cells 0 (useC (useOf x.op)) false) → WP (dn BI l_code_right_k1 [.ptr 0 0 0, .ptr 2 0 0, .bool ok] J) K := by
  intro ok hne hok J hJ0 hJ2
  refine right_k1 J 0 2 0 0 x (useOf x.op) ok hJ0 hJ2 K (hK _ _ (frzE rfl ?_))
  simp [itup, Cd.right, hop, hne, hok]
 simp -implicitDefEqProofs only [go_sem, dnW_ite, go_sem_proc, hxo, Cd.cs, h1, show x.op < 26 by omega, show x.op * 5 ≤ 125 by omega, hu, useC, hi, natBeqc]
 generalize hun : (useOf x.op).2.2.2.1 = un at *
 rcases (show un = 0 ∨ un = 1 ∨ un = 2 ∨ un = 3 ∨ un = 4 ∨ un = 5 ∨ un = 6 by omega) with rfl | rfl | rfl | rfl | rfl | rfl | rfl
 ·simp -implicitDefEqProofs only [go_sem, dnW_ite, go_sem_proc]
  exact hk _ (by decide) rfl _ rfl (by simp [useC, hun])
 ·simp -implicitDefEqProofs only [go_sem, dnW_ite, go_sem_proc]
  exact hk _ (by decide) rfl _ rfl (by simp [useC, hun])
 ·by_cases h0 : x.n ≥ 0
  ·simp -implicitDefEqProofs only [go_sem, dnW_ite, go_sem_proc, h0]
   exact hk _ (by decide) (by simp [nOk]; omega) _ rfl (by simp [useC, hun])
  ·simp -implicitDefEqProofs only [go_sem, dnW_ite, go_sem_proc, h0]
   exact hk _ (by decide) (by simp [nOk]; omega) _ rfl (by simp [useC, hun])
 ·by_cases h0 : x.n ≥ 0
  ·simp -implicitDefEqProofs only [go_sem, dnW_ite, go_sem_proc, h0]
   exact hk _ (by decide) (by simp [nOk]; omega) _ rfl (by simp [useC, hun])
  ·simp -implicitDefEqProofs only [go_sem, dnW_ite, go_sem_proc, h0]
   exact hk _ (by decide) (by simp [nOk]; omega) _ rfl (by simp [useC, hun])
 ·by_cases h0 : x.n ≥ 0
  ·simp -implicitDefEqProofs only [go_sem, dnW_ite, go_sem_proc, h0]
   exact hk _ (by decide) (by simp [nOk]; omega) _ rfl (by simp [useC, hun])
  ·simp -implicitDefEqProofs only [go_sem, dnW_ite, go_sem_proc, h0]
   exact hk _ (by decide) (by simp [nOk]; omega) _ rfl (by simp [useC, hun])
 ·simp -implicitDefEqProofs only [go_sem, dnW_ite, go_sem_proc]
  exact hk _ (by decide) (by simp [nOk]) _ rfl (by simp [useC, hun])
 ·have h6 : ∀ many, many = (decide (1 ≤ x.c) && decide (x.c ≤ 48)) → ∀ J : JH, J[0]? = some (.cells 0 x.cs false) → WP (onJoinD 0 (dn BI l_code_right_k0 [nI cells, .ptr 0 0 0, .int .i64 x.n, .bool many] J) l_code_right_k1) K := by
   intro many hm J hJ
   rw [right_k0 x ⟨w1, w2, w3, w4, w5, w6⟩ cells many hc J hJ]
   simp -implicitDefEqProofs only [go_sem, dnW_ite, go_sem_proc]
   exact hK _ _ (frzE rfl (by simp [itup, Cd.right, hop, hun, hm]))
  by_cases h0 : (x.c : Int) ≥ 1
  ·simp -implicitDefEqProofs only [go_sem, dnW_ite, go_sem_proc, h0]
   refine h6 _ ?_ _ rfl
   rw [Bool.eq_iff_iff]; simp; omega
  ·simp -implicitDefEqProofs only [go_sem, dnW_ite, go_sem_proc, h0]
   refine h6 _ ?_ _ rfl
   rw [Bool.eq_iff_iff]; simp; omega
def rightL (l : List Cd) (cells players : Nat) : Bool := decide (l.length ≤ 96) && l.all fun x => x.right l.length cells players
theorem Check_ok (x : IV) (l : List Cd) (hx : Ls 6 x (l.map Cd.e)) (hw : ∀ c ∈ l, c.wf) (cells players : Nat) (hc : cells ≤ 1000000) (hp : players ≤ 1000000) :
  ∃ k : Nat, pc BI F_code_Check [x, nI cells, nI players] = some (.tup [nI k, .bool (rightL l cells players)]) := by
 have : ∃ u, pc BI F_code_Check [x, nI cells, nI players] = some u ∧ ∃ k : Nat, u = .tup [nI k, .bool (rightL l cells players)] := by
  refine pcW fn_code_Check rfl fun K hK => ?_
  unfold l_code_Check
  by_cases h96 : l.length > 96
  ·have h' : (l.length : Int) > 96 := by omega
   simp -implicitDefEqProofs only [go_sem, dnW_ite, go_sem_proc, hx.lenF, List.length_map, h']
   refine hK _ _ _ (frzP rfl) ⟨96, ?_⟩
   simp [itup, rightL, show ¬ l.length ≤ 96 by omega]
  have h' : ¬ (l.length : Int) > 96 := by omega
  simp -implicitDefEqProofs only [go_sem, dnW_ite, go_sem_proc, hx.lenF, List.length_map, h', dcp uses_ok rfl, dn_loop]
  refine WP_range (by decide) l.length (fun i vs J => vs = [x, nI cells, nI players, .ptr 0 0 0, x, nI l.length, nI i] ∧ J[0]? = some (.cells 0 usesL false) ∧ (l.take i).all (fun x => x.right l.length cells players) = true) ?_ ⟨rfl, rfl, rfl⟩
  rintro i vs J ⟨rfl, hJ, ha⟩ hi K1 g1 g2 g3
  unfold l_code_Check_k0
  by_cases h : i < l.length
  ·have hat := fun J => hx.at (i := i) (by simpa using h) (J := J)
   simp only [List.getElem_map, Cd.e, Cd.cs] at hat
   have hr := right_ok l[i] (hw _ (List.getElem_mem h)) l.length cells players (by omega) hc hp
   have hin := inb hJ
   rw [List.take_succ_eq_append_getElem h, List.all_append, ha] at g1
   simp only [Cd.e, Cd.cs] at hr
   have fin : ∀ J', J'[0]? = some (.cells 0 usesL false) → l[i].right l.length cells players = true → K1 (.goto 1 [x, nI cells, nI players, .ptr 0 0 0, x, nI l.length, nI (i + 1)]) J' := fun J' h1 h2 => g1 h _ _ ⟨rfl, h1, by simp [h2]⟩
   cases hv : l[i].right l.length cells players with
   | true =>
    rw [hv] at hr
    simp -implicitDefEqProofs only [go_sem, dnW_ite, go_sem_proc, show ((i : Int) < (l.length : Int)) by omega, hat, hJ, hx.lenF, List.length_map, Array.getElem?_push, hin, dcp hr (by simp [ipureL, ipure, uses_pure]), wrapS h (show l.length ≤ 9223372036854775807 by omega)]
    refine fin _ ?_ hv
    rw [Array.getElem?_push, if_neg (by have := lt_get hJ; omega)]
    exact hJ
   | false =>
    rw [hv] at hr
    simp -implicitDefEqProofs only [go_sem, dnW_ite, go_sem_proc, show ((i : Int) < (l.length : Int)) by omega, hat, hJ, hx.lenF, List.length_map, Array.getElem?_push, hin, dcp hr (by simp [ipureL, ipure, uses_pure])]
    refine g3 _ _ (hK _ _ _ (frzP rfl) ⟨i, ?_⟩)
    have : ¬ (l.all fun x => x.right l.length cells players) = true := fun hh => by
     rw [List.all_eq_true] at hh
     have := hh _ (List.getElem_mem h)
     rw [hv] at this; cases this
    simp only [Bool.not_eq_true] at this
    simp [itup, rightL, this]
  ·simp -implicitDefEqProofs only [go_sem, dnW_ite, go_sem_proc, show ¬ ((i : Int) < (l.length : Int)) by omega]
   refine g2 _ _ ?_
   unfold l_code_Check_k1
   simp -implicitDefEqProofs only [go_sem, dnW_ite, go_sem_proc]
   refine hK _ _ _ (frzP rfl) ⟨0, ?_⟩
   rw [List.take_of_length_le (by omega)] at ha
   simp [itup, rightL, ha, show l.length ≤ 96 by omega]
 obtain ⟨u, h1, k, rfl⟩ := this
 exact ⟨k, h1⟩
theorem Right_ok (x : IV) (l : List Cd) (hx : Ls 6 x (l.map Cd.e)) (hw : ∀ c ∈ l, c.wf) (cells players : Nat) (hc : cells ≤ 1000000) (hp : players ≤ 1000000) :
  pc BI F_code_Right [x, nI cells, nI players] = some (.bool (rightL l cells players)) := by
 obtain ⟨k, hk⟩ := Check_ok x l hx hw cells players hc hp
 refine pcE fn_code_Right rfl fun K hK => ?_
 unfold l_code_Right
 simp -implicitDefEqProofs only [go_sem, dnW_ite, go_sem_proc, dcp hk (by simp [ipureL, ipure, hx.pure])]
 exact hK _ _ (frzE rfl rfl)
def Upd (b : Nat) (J : JH) (s : IV) (J' : JH) (s' : IV) : Prop := Fr J J' (b :: blk s) ∧ ∀ c ∈ blk s', c ∈ blk s ∨ J.size ≤ c
theorem Upd.refl {b : Nat} {J : JH} {s : IV} : Upd b J s J s := ⟨.refl _ _, fun c h => .inl h⟩
theorem Upd.push {b : Nat} {J : JH} {s : IV} (X : IB) : Upd b J s (J.push X) s := ⟨.push _ _ _, fun c h => .inl h⟩
theorem Upd.trans {b : Nat} {J J1 J2 : JH} {s s1 s2 : IV} (h : Upd b J s J1 s1) (k : Upd b J1 s1 J2 s2) : Upd b J s J2 s2 := by
 refine ⟨h.1.trans k.1 fun d hd hm => ?_, fun c hc => ?_⟩
 ·rcases List.mem_cons.1 hm with rfl | hm
  ·simp
  ·rcases h.2 d hm with h | h
   ·simp [h]
   ·omega
 ·rcases k.2 c hc with h1 | h1
  ·exact h.2 c h1
  ·exact .inr (Nat.le_trans h.1.1 h1)
def PenAt (J : JH) (b : Nat) (s : IV) (l : List (BitVec 8)) : Prop := J[b]? = some (.cells 0 [s] false) ∧ b ∉ blk s ∧ Grow J s 1 (l.map by8)
def tabL (f : Nat → BitVec 32) : List IV := (List.range 256).map fun i => m32 (f i)
theorem tabL_len (f) : (tabL f).length = 256 := by simp [tabL]
theorem tabL_one (f) : (tabL f).all ione = true := by simp [tabL, ione, one]
theorem tabL_pure (f) : ipureL (tabL f) = true := ipureL_iff.2 fun x hx => by
 obtain ⟨y, _, rfl⟩ := List.mem_map.1 hx; rfl
theorem tabL_all (f g) : isplice (tabL f) 0 (tabL g) = tabL g := by
 simp only [isplice, List.take_zero, List.nil_append, Nat.zero_add]
 rw [List.drop_of_length_le (by rw [tabL_len, tabL_len]; exact Nat.le_refl _), List.append_nil]
theorem tabL_take (f) : (tabL f).take 256 = tabL f := List.take_of_length_le (by rw [tabL_len]; exact Nat.le_refl _)
theorem zc_tab : (reps 256 [Value.int .u32 0]).map IV.sc = tabL fun _ => 0#32 := by
 simp only [reps, tabL, List.map_const', List.flatten_replicate_singleton, List.append_nil, List.map_replicate, List.length_range]; rfl
attribute [go_sem] tabL_len tabL_one tabL_pure tabL_all tabL_take
attribute [go_sem ↓] zc_tab
def Cl.e (c : Cl) : IV := .agg c.c
def Bd.new (l : List Cl) : Bd := if h : l.length ≤ 48 then ⟨l, h⟩ else Bd.z
theorem cells_flat (l : List Cl) : (l.map Cl.e).flatMap icells = (l.map Cl.c).flatten := by
 rw [List.flatMap_map]; simp [List.flatMap_def, icells, Cl.e]
theorem flat_one (l : List Cl) : (l.map Cl.c).flatten.all ione = true := by
 rw [List.all_eq_true]
 intro x hx
 obtain ⟨e, he, hx⟩ := List.mem_flatten.1 hx
 obtain ⟨y, _, rfl⟩ := List.mem_map.1 he
 simp [Cl.c] at hx
 rcases hx with rfl | rfl <;> rfl
theorem flat_cl (l : List Cl) : (l.map Cl.c).flatten.length = l.length * 2 := by
 rw [flat_len (sz := 2)]
 ·simp
 ·intro e he
  obtain ⟨y, _, rfl⟩ := List.mem_map.1 he
  rfl
theorem new_cells (l : List Cl) (h : l.length ≤ 48) : isplice (isplice (bdc Bd.z) 0 (l.map Cl.c).flatten) 96 [nI l.length] = bdc ⟨l, h⟩ := by
 have e1 : isplice (bdc Bd.z) 0 (l.map Cl.c).flatten = ((l ++ List.replicate (48 - l.length) Cl.z).map Cl.c).flatten ++ [nI 0] := by
  simp only [isplice, List.take_zero, List.nil_append, Nat.zero_add, flat_cl, List.map_append, List.flatten_append, List.append_assoc, List.append_cancel_left_eq]
  have : bdc Bd.z = ((List.replicate l.length Cl.z).map Cl.c).flatten ++ (((List.replicate (48 - l.length) Cl.z).map Cl.c).flatten ++ [nI 0]) := by
   rw [← List.append_assoc, ← List.flatten_append, ← List.map_append, List.replicate_append_replicate, show l.length + (48 - l.length) = 48 by omega]
   rfl
  rw [this, List.drop_append_of_le_length (by rw [flat_cl]; simp), List.drop_of_length_le (by rw [flat_cl]; simp), List.nil_append]
 rw [e1]
 have h2 : ((l ++ List.replicate (48 - l.length) Cl.z).map Cl.c).flatten.length = 96 := by rw [flat_cl]; simp; omega
 unfold isplice
 rw [List.take_append_of_le_length (by omega), List.take_of_length_le (by omega), List.drop_of_length_le (by rw [List.length_append, h2]; simp)]
 rw [bdc, Bd.pad]; simp
theorem splice_len (cs vs : List IV) (off : Nat) (h : off + vs.length ≤ cs.length) : (isplice cs off vs).length = cs.length := by
 simp [isplice]; omega
theorem New_ok (x : IV) (l : List Cl) (hx : Ls 2 x (l.map Cl.e)) (hb : l.length ≤ 9223372036854775807) : pc BI F_board_New [x] = some (.tup [.agg (bdc (Bd.new l)), nI (if l.length ≤ 48 then 0 else 6)]) := by
 refine pcE fn_board_New rfl fun K hK => ?_
 unfold l_board_New
 by_cases h : l.length ≤ 48
 ·have e1 : isplice (bdc Bd.z) 0 (l.map Cl.c).flatten = isplice (bdc Bd.z) 0 (l.map Cl.c).flatten := rfl
  have hl := splice_len (bdc Bd.z) (l.map Cl.c).flatten 0 (by rw [flat_cl, bdc_len]; omega)
  rw [bdc_len] at hl
  have hn := new_cells l h
  have hc := hx.cells
  rw [cells_flat] at hc
  have hm : min l.length 48 = l.length := by omega
  have ht : (l.map Cl.c).flatten.take (l.length * 2) = (l.map Cl.c).flatten := List.take_of_length_le (by rw [flat_cl]; exact Nat.le_refl _)
  have hil := hx.ilen
  rw [List.length_map] at hil
  by_cases h0 : l.length = 0
  ·have hnil : l = [] := List.eq_nil_of_length_eq_zero h0
   subst hnil
   have hnew : Bd.new [] = Bd.z := rfl
   have hsp : isplice (bdc Bd.z) 96 [IV.int .i64 0] = bdc Bd.z := by rfl
   simp -implicitDefEqProofs only [go_sem, dnW_ite, go_sem_proc, hx.lenF, copyF_0 hx (b := 1) (v := 0) (off := 0) (cap := 48) (dl := 48) (by simp), List.length_nil, hsp, Nat.zero_min, show ¬ (((0 : Nat) : Int) > 48) by omega, show ((0 : Nat) : Int) = 0 from rfl]
   exact hK _ _ (frzE (by simp [itup, ipure, ipureL, bdc_pure]) rfl)
  ·have hgt : ¬ ((l.length : Int) > 48) := by omega
   have hnew : Bd.new l = ⟨l, h⟩ := by simp [Bd.new, h]
   simp -implicitDefEqProofs only [go_sem, dnW_ite, go_sem_proc, hx.lenF, List.length_map, hgt, copyF_ls hx (b := 1) (v := 0) (off := 0) (cap := 48) (dl := 48) (by rw [List.length_map]; omega), cells_flat, hm, h0, ht, flat_cl, flat_one, show l.length * 2 ≤ 97 by omega, hl, hn]
   refine hK _ _ (frzE (by simp [itup, ipure, ipureL, bdc_pure]) ?_)
   rw [hnew]; simp [itup, h]
 ·have hgt : ((l.length : Int) > 48) := by omega
  have hnew : Bd.new l = Bd.z := by simp [Bd.new, h]
  simp -implicitDefEqProofs only [go_sem, dnW_ite, go_sem_proc, hx.lenF, List.length_map, hgt]
  refine hK _ _ (frzE (by simp [itup, ipure, ipureL, bdc_pure]) ?_)
  rw [hnew]; simp [itup, h]
theorem Upd.keep {b d : Nat} {J J' : JH} {s s' : IV} {X : IB} (h : Upd b J s J' s') (hd : J[d]? = some X) (hb : d ≠ b) (hs : d ∉ blk s) : J'[d]? = some X := by
 rw [h.1.2 d (lt_get hd) (by simp [hb, hs])]; exact hd
theorem Upd.out {b d : Nat} {J J' : JH} {s s' : IV} (h : Upd b J s J' s') (hd : d < J.size) (hs : d ∉ blk s) : d ∉ blk s' := fun hm => by
 rcases h.2 d hm with h | h
 ·exact hs h
 ·omega
theorem PenAt.push {J : JH} {b : Nat} {s : IV} {l : List (BitVec 8)} (X : IB) (h : PenAt J b s l) : PenAt (J.push X) b s l :=
 ⟨by rw [Array.getElem?_push, if_neg (Nat.ne_of_lt (lt_get h.1))]; exact h.1, h.2.1, h.2.2.fr (S := []) (.push _ _ _) (by simp)⟩
theorem PenAt.low {J : JH} {b : Nat} {s : IV} {l : List (BitVec 8)} (h : PenAt J b s l) : J.size ∉ blk s := fun hm => Nat.lt_irrefl _ (h.2.2.low _ hm)
theorem Fr.mark (J : JH) (l S : List Nat) (h : ∀ d ∈ l, d ∈ S) : Fr J (markA J l) S := ⟨by rw [markA_size]; exact Nat.le_refl _, fun d _ hn => by rw [markA_get, if_neg fun hm => hn (h d hm)]⟩
theorem WP_callF {f : FuncId} {args as : List IV} {u : IV} {J : JH} {k : L} {ρ : List IV} {P} (S : List Nat) (ha : args.mapM (frz J DEP) = some as) (hp : pc BI f as = some u) (hs : ∀ d ∈ args.flatMap (shows J DEP), d ∈ S) (hk : ∀ J', Fr J J' S → J'.size = J.size → WP (dn BI k (ρ ++ [u]) J') P) : WP (thenD (doCall (ic BI) .pure f args J) k ρ) P := by
 rw [dcf ha hp]
 by_cases h : iscal u = true
 ·rw [if_pos h]; exact hk J (.refl _ _) rfl
 ·rw [if_neg h]; exact hk _ (.mark _ _ _ hs) (markA_size _ _)
theorem Grow.shows {J : JH} {s : IV} {sz : Nat} {cs : List IV} (h : Grow J s sz cs) (hp : ipureL cs = true) : ∀ d ∈ Go.Proofs.Ytccbcbnglnloiaa.G.shows J DEP s, d ∈ blk s := by
 rcases h with ⟨rfl, rfl⟩ | ⟨b, v, n, full, rfl, h1, h2, h3, h4⟩
 ·intro d hd
  rw [shows_pure J DEP rfl] at hd
  cases hd
 ·intro d hd
  rw [frz12, shows_sl (cs := cs) (by simp [ird, h1, h2, h3]) hp] at hd
  exact hd
theorem Grow.fr0 {J J' : JH} {x : IV} {sz : Nat} {cs : List IV} (h : Grow J x sz cs) (hf : Fr J J' []) : Grow J' x sz cs := h.fr hf (by simp)
theorem frz_aggL {J : JH} {k : Nat} {l us : List IV} (h : l.mapM (frz J k) = some us) : frz J (k + 1) (.agg l) = some (.agg us) := by
 by_cases hp : ipureL l = true
 ·rw [frzL_pure J k hp] at h
  cases h
  exact frz_pure J _ (by simp only [ipure, hp])
 ·rw [frz_agg (by simpa using hp), h]; rfl
theorem grp_flat {sz : Nat} : ∀ {X : List (List IV)}, (∀ x ∈ X, x.length = sz) → grp sz X.length X.flatten = X.map (mkE sz)
 | [], _ => rfl
 | x :: X, h => by
  have hx := h x (by simp)
  rw [List.length_cons, grp, List.flatten_cons, List.take_append_of_le_length (by omega), List.take_of_length_le (by omega), List.drop_append_of_le_length (by omega), List.drop_of_length_le (by omega), List.nil_append, grp_flat fun y hy => h y (by simp [hy])]
  rfl
theorem Grow.frzX {J : JH} {s : IV} {sz : Nat} {X : List (List IV)} (h : Grow J s sz X.flatten) (hX : ∀ x ∈ X, x.length = sz) (hsz : 0 < sz) (hp : ipureL X.flatten = true) (ho : X.flatten.all ione = true) : ∃ u, (∀ k, frz J (k + 1) s = some u) ∧ Ls sz u (X.map (mkE sz)) := by
 obtain ⟨_, ⟨rfl, rfl⟩ | ⟨b, v, rest, rfl, h2⟩⟩ := h.slx hX hsz
 ·exact ⟨_, fun k => frz_pure J _ rfl, .nil⟩
 ·refine ⟨.lst sz (X.length == UNK + sz && decide (UNK + sz < UNK)) (X.map (mkE sz)), fun k => ?_, .lst⟩
  have hlen := flat_len hX
  rw [frz_sl (cs := X.flatten) hsz (by simp only [ird, h2, true_and, Nat.zero_add, List.drop_zero]; rw [if_pos (by rw [List.length_append, hlen]; omega), List.take_append_of_le_length (by omega), List.take_of_length_le (by omega)]) hp ho, grp_flat hX]
theorem mkE1_map (l : List IV) : (l.map fun x => [x]).map (mkE 1) = l := by
 rw [List.map_map]
 conv => rhs; rw [← List.map_id l]
 rfl
theorem flat1 (l : List IV) : (l.map fun x => [x]).flatten = l := by induction l <;> simp_all
theorem Grow.frzE1 {J : JH} {s : IV} {cs : List IV} (h : Grow J s 1 cs) (hp : ipureL cs = true) (ho : cs.all ione = true) : ∃ u, (∀ k, frz J (k + 1) s = some u) ∧ Ls 1 u cs := by
 have := Grow.frzX (X := cs.map fun x => [x]) (by rw [flat1]; exact h) (by simp) (by omega) (by rw [flat1]; exact hp) (by rw [flat1]; exact ho)
 rw [mkE1_map] at this
 exact this
def sliceF (sz : Nat) (x : IV) (lo hi mx : Option IV) (J : JH) : Option (IV × JH) := ilift (islice sz x lo hi mx) J
theorem iexec_slice {B : IBook} {C : ICall} {md : Md} {ρ : List IV} {sz : Nat} {x : Operand} {lo hi mx : Option Operand} {J : JH} : iexec B C md ρ (.slice sz x lo hi mx) J = sliceF sz (evI ρ x) (lo.map (evI ρ)) (hi.map (evI ρ)) (mx.map (evI ρ)) J := rfl
theorem sliceF_sl {sz b v o n c z : Nat} {lo hi mx : Option IV} {J : JH} : sliceF sz (.sl b v o n c z) lo hi mx J = ilift (islice sz (.sl b v o n c z) lo hi mx) J := rfl
attribute [go_sem ↓] iexec_slice
attribute [go_sem] sliceF_sl
theorem Ls.slice {sz : Nat} {x : IV} {xs : List IV} (hx : Ls sz x xs) {h : Nat} (hh : h ≤ xs.length) : ∃ y, (∀ J, sliceF sz x none (some (nI h)) none J = some (y, J)) ∧ Ls sz y (xs.take h) := by
 rcases hx with ⟨rfl, rfl⟩ | ⟨f, rfl⟩
 ·obtain rfl : h = 0 := by simpa using hh
  exact ⟨_, fun J => rfl, .nil⟩
 ·refine ⟨_, fun J => ?_, .lst (f := (f && h == xs.length))⟩
  simp only [sliceF, islice, Option.isSome_none, Option.isNone_some, Bool.and_false, bne_self_eq_false, Bool.or_false, Bool.false_eq_true, if_false, ibnd, iasNat, asNat, Int.natCast_nonneg, if_true, Int.toNat_natCast, Nat.zero_le, hh, Nat.le_refl, true_and, List.drop_zero, Nat.sub_zero, Bool.false_and, Bool.false_or, Option.isNone_none, Bool.and_true, false_implies, and_self, ilift]
theorem Ls.sliceLo {sz : Nat} {x : IV} {xs : List IV} (hx : Ls sz x xs) {l : Nat} (hl : l ≤ xs.length) : ∃ y, (∀ J, sliceF sz x (some (nI l)) none none J = some (y, J)) ∧ Ls sz y (xs.drop l) := by
 rcases hx with ⟨rfl, rfl⟩ | ⟨f, rfl⟩
 ·obtain rfl : l = 0 := by simpa using hl
  exact ⟨_, fun J => rfl, .nil⟩
 ·refine ⟨_, fun J => ?_, .lst (f := f)⟩
  simp [sliceF, islice, ibnd, iasNat, asNat, hl, ilift]
  exact List.take_of_length_le (by simp)
theorem mkE_flat {sz : Nat} {X : List (List IV)} (hX : ∀ x ∈ X, x.length = sz) (ho : X.flatten.all ione = true) : (X.map (mkE sz)).flatMap icells = X.flatten := by
 induction X with
 | nil => rfl
 | cons x X ih =>
  simp only [List.flatten_cons, List.all_append, Bool.and_eq_true] at ho
  simp only [List.map_cons, List.flatMap_cons, List.flatten_cons]
  rw [ih (fun y hy => hX y (by simp [hy])) ho.2]
  congr 1
  have hl := hX x (by simp)
  unfold mkE
  by_cases h1 : sz = 1
  ·rw [if_pos h1]
   subst h1
   obtain ⟨v, rfl⟩ := List.length_eq_one_iff.1 hl
   have : ione v = true := by simpa using ho.1
   cases v <;> simp_all [icells, ione]
  ·rw [if_neg h1]; rfl
def Clip (J J' : JH) (s : IV) (sz : Nat) (X : List (List IV)) : Prop := (X = [] ∧ s = .lst sz true [] ∧ J' = J) ∨ (X ≠ [] ∧ s = .sl J.size 0 0 X.length (UNK + sz) sz ∧ J' = J.push (.cells 0 X.flatten false))
theorem app_clip {sz by' : Nat} {y : IV} {X : List (List IV)} {J : JH} (hy : Ls sz y (X.map (mkE sz))) (hsz : 0 < sz) (hX : ∀ x ∈ X, x.length = sz) (ho : X.flatten.all ione = true) (hf : fits X.length by' = true) :
  RP (appF sz by' (.lst sz true []) y J) fun s J' => Clip J J' s sz X := by
 have hc := hy.cells J
 rw [mkE_flat hX ho] at hc
 have hl := hy.ilen
 rw [List.length_map] at hl
 simp only [appF, if_pos hsz, iappend, hc, hl]
 by_cases h0 : X.length = 0
 ·rw [if_pos h0]
  exact .inl ⟨List.eq_nil_of_length_eq_zero h0, rfl, rfl⟩
 ·rw [if_neg h0]
  simp only [List.length_nil, Nat.zero_add, beq_self_eq_true, Bool.true_and, hf, ho, Bool.and_self, if_true, List.flatMap_nil, List.nil_append, RP]
  exact .inr ⟨fun e => h0 (by rw [e]; rfl), rfl, rfl⟩
theorem Clip.frz {J J' : JH} {s : IV} {sz : Nat} {X : List (List IV)} (h : Clip J J' s sz X) (hsz : 0 < sz) (hX : ∀ x ∈ X, x.length = sz) (hp : ipureL X.flatten = true) (ho : X.flatten.all ione = true) : ∃ u, (∀ k, frz J' (k + 1) s = some u) ∧ Ls sz u (X.map (mkE sz)) := by
 rcases h with ⟨rfl, rfl, rfl⟩ | ⟨hne, rfl, rfl⟩
 ·exact ⟨_, fun k => frz_pure _ _ rfl, .lst⟩
 ·refine ⟨.lst sz (X.length == UNK + sz && decide (UNK + sz < UNK)) (X.map (mkE sz)), fun k => ?_, .lst⟩
  rw [frz_sl (cs := X.flatten) hsz ?_ hp ho, grp_flat hX]
  simp only [ird, push_get, true_and, Nat.zero_add, List.drop_zero]
  rw [if_pos (by rw [flat_len hX]; exact Nat.le_refl _), List.take_of_length_le (by rw [flat_len hX]; exact Nat.le_refl _)]
theorem Clip.fr {J J' : JH} {s : IV} {sz : Nat} {X : List (List IV)} (h : Clip J J' s sz X) : Fr J J' [] := by
 rcases h with ⟨_, _, rfl⟩ | ⟨_, _, rfl⟩
 ·exact .refl _ _
 ·exact .push _ _ _
theorem Clip.lenF {J J' : JH} {s : IV} {sz : Nat} {X : List (List IV)} (h : Clip J J' s sz X) (J2 : JH) : Go.Proofs.Ytccbcbnglnloiaa.G.lenF false s J2 = some (nI X.length, J2) := by
 rcases h with ⟨rfl, rfl, _⟩ | ⟨_, rfl, _⟩ <;> rfl
structure Gm where
 obs : Int
 players : Int
 moves : BitVec 32
 dflt : BitVec 32
 cells : List Cl
 code : List Cd
def gmc (g : Gm) (x y : IV) : List IV := [.int .i64 g.obs, .int .i64 g.players, m32 g.moves, m32 g.dflt, x, y]
structure GR (g : Gm) (x y : IV) : Prop where
 x : Ls 2 x (g.cells.map Cl.e)
 y : Ls 6 y (g.code.map Cd.e)
theorem gm_len (g x y) : (gmc g x y).length = 6 := rfl
theorem gm_take (g x y) : (gmc g x y).take 6 = gmc g x y := rfl
theorem gm_0 (g x y) : ((gmc g x y).drop 0).take 1 = [.int .i64 g.obs] := rfl
theorem gm_00 (g x y) : (gmc g x y).take 1 = [.int .i64 g.obs] := rfl
theorem gm_1 (g x y) : ((gmc g x y).drop 1).take 1 = [.int .i64 g.players] := rfl
theorem gm_2 (g x y) : ((gmc g x y).drop 2).take 1 = [m32 g.moves] := rfl
theorem gm_3 (g x y) : ((gmc g x y).drop 3).take 1 = [m32 g.dflt] := rfl
theorem gm_4 (g x y) : ((gmc g x y).drop 4).take 1 = [x] := rfl
theorem gm_5 (g x y) : ((gmc g x y).drop 5).take 1 = [y] := rfl
attribute [go_sem] gm_len gm_take gm_0 gm_00 gm_1 gm_2 gm_3 gm_4 gm_5
theorem GR.pure {g x y} (h : GR g x y) : ipureL (gmc g x y) = true := by
 simp [ipureL, gmc, ipure, h.x.pure, h.y.pure]
theorem GR.one {g x y} (h : GR g x y) : (gmc g x y).all ione = true := by
 have h1 := h.x.one
 have h2 := h.y.one
 simp only [gmc, List.all_cons, List.all_nil, h1, h2]; rfl
def Gm.legal (g : Gm) (m : BitVec 32) : Bool := decide (m.toNat < g.moves.toNat)
theorem All10_ok (g : Gm) (x y : IV) (h : GR g x y) : pc BI F_rules_Game_All [.agg (gmc g x y)] = some (m32 (allM g.obs)) := by
 refine pcE fn_rules_Game_All rfl fun K hK => ?_
 unfold l_rules_Game_All
 simp -implicitDefEqProofs only [go_sem, dnW_ite, go_sem_proc, h.one, dcp (All_ok g.obs) rfl]
 exact hK _ _ (frzE rfl rfl)
theorem Legal_ok (g : Gm) (x y : IV) (h : GR g x y) (m : BitVec 32) : pc BI F_rules_Game_Legal [.agg (gmc g x y), m32 m] = some (.bool (g.legal m)) := by
 refine pcE fn_rules_Game_Legal rfl fun K hK => ?_
 unfold l_rules_Game_Legal
 simp -implicitDefEqProofs only [go_sem, dnW_ite, go_sem_proc, h.one]
 refine hK _ _ (frzE rfl ?_)
 simp [Gm.legal, itup]
def Gm.right (g : Gm) : Bool :=
 decide (1 ≤ g.obs ∧ g.obs ≤ 32) && decide (1 ≤ g.players ∧ g.players ≤ 6 ∧ g.players ≤ g.obs) && decide (g.dflt.toNat < g.moves.toNat) && decide (g.cells.length ≤ 48) &&
 g.cells.all (fun c => within c.s (allM g.obs)) && rightL g.code g.cells.length g.players.toNat
theorem gRight_k (g : Gm) (x y : IV) (h : GR g x y) (hw : ∀ c ∈ g.code, c.wf) (hb : g.code.length ≤ 9223372036854775807) (h48 : g.cells.length ≤ 48) (hp : 0 ≤ g.players ∧ g.players ≤ 6) (J : JH) (h0 : J[0]? = some (.cells 0 (gmc g x y) false)) (K : Out IV → JH → Prop)
  (hK : ∀ J', K (.ret [.bool (g.cells.all (fun c => within c.s (allM g.obs)) && rightL g.code g.cells.length g.players.toNat)]) J') :
  WP (dn BI l_rules_Game_Right_k2 [.ptr 0 0 0] J) K := by
 unfold l_rules_Game_Right_k2
 simp -implicitDefEqProofs only [go_sem, dnW_ite, go_sem_proc, h0, h.x.lenF, List.length_map, dn_loop]
 refine WP_range (by decide) g.cells.length (fun i vs J' => vs = [.ptr 0 0 0, x, nI g.cells.length, nI i] ∧ Fr J J' [] ∧ ∀ c ∈ g.cells.take i, within c.s (allM g.obs) = true) ?_ ⟨rfl, .refl _ _, by simp⟩
 rintro i vs J1 ⟨rfl, hf, hn⟩ hi K1 g1 g2 g3
 have h01 : J1[0]? = some (.cells 0 (gmc g x y) false) := by rw [hf.2 0 (lt_get h0) (by simp)]; exact h0
 have hin := inb h01
 unfold l_rules_Game_Right_k0
 by_cases hi2 : i < g.cells.length
 ·have hat := fun J => h.x.at (i := i) (by simpa using hi2) (J := J)
  simp only [List.getElem_map, Cl.e, Cl.c] at hat
  have hwi := Within_ok g.cells[i].s (allM g.obs)
  have hl0 := lt_get h01
  cases hc : within g.cells[i].s (allM g.obs) with
  | false =>
   rw [hc] at hwi
   simp -implicitDefEqProofs only [go_sem, dnW_ite, go_sem_proc, show ((i : Int) < (g.cells.length : Int)) by omega, hat, Array.getElem?_push, h01, hin, show ¬ (0 = J1.size) by omega, show ¬ (J1.size = 0) by omega, dcp (All10_ok g x y h) (by simp [ipureL, ipure, h.pure]), dcp hwi rfl]
   refine g3 _ _ ?_
   have e : g.cells.all (fun c => within c.s (allM g.obs)) = false := by
    rw [List.all_eq_false]
    exact ⟨_, List.getElem_mem hi2, by rw [hc]; decide⟩
   have := hK (J1.push (IB.cells 0 [IV.int .i32 g.cells[i].v, m32 g.cells[i].s] false))
   rw [e] at this
   exact this
  | true =>
   rw [hc] at hwi
   simp -implicitDefEqProofs only [go_sem, dnW_ite, go_sem_proc, show ((i : Int) < (g.cells.length : Int)) by omega, hat, Array.getElem?_push, h01, hin, show ¬ (0 = J1.size) by omega, show ¬ (J1.size = 0) by omega, dcp (All10_ok g x y h) (by simp [ipureL, ipure, h.pure]), dcp hwi rfl, wrapS hi2 (show g.cells.length ≤ 9223372036854775807 by omega)]
   refine g1 hi2 _ _ ⟨rfl, hf.trans (Fr.push _ _ []) (by simp), ?_⟩
   rw [List.take_succ_eq_append_getElem hi2]
   intro c hcm
   rcases List.mem_append.1 hcm with hcm | hcm
   ·exact hn c hcm
   ·simp at hcm; subst hcm; exact hc
 ·simp -implicitDefEqProofs only [go_sem, dnW_ite, go_sem_proc, show ¬ ((i : Int) < (g.cells.length : Int)) by omega]
  refine g2 _ _ ?_
  unfold l_rules_Game_Right_k1
  rw [List.take_of_length_le (by omega)] at hn
  have e : g.cells.all (fun c => within c.s (allM g.obs)) = true := List.all_eq_true.2 hn
  obtain ⟨p, hp2⟩ : ∃ p : Nat, g.players = p := ⟨g.players.toNat, by omega⟩
  have hR := Right_ok y g.code h.y hw g.cells.length p (by omega) (by omega)
  rw [e, hp2] at hK
  simp -implicitDefEqProofs only [go_sem, dnW_ite, go_sem_proc, h01, hp2, h.x.lenF, List.length_map, dcp hR (by simp [ipureL, ipure, h.y.pure])]
  exact hK _
theorem gRight_ok (g : Gm) (x y : IV) (h : GR g x y) (hw : ∀ c ∈ g.code, c.wf) (hb : g.code.length ≤ 9223372036854775807) : pc BI F_rules_Game_Right [.agg (gmc g x y)] = some (.bool g.right) := by
 refine pcE fn_rules_Game_Right rfl fun K hK => ?_
 unfold l_rules_Game_Right
 have no : g.right = false → K (.ret [.bool false]) #[.cells 0 (gmc g x y) false] := fun e => hK _ _ (frzE rfl (by rw [e]; rfl))
 by_cases h1 : g.obs < 1
 ·simp -implicitDefEqProofs only [go_sem, dnW_ite, go_sem_proc, h.one, h1]
  exact no (by simp [Gm.right]; omega)
 by_cases h2 : g.obs > 32
 ·simp -implicitDefEqProofs only [go_sem, dnW_ite, go_sem_proc, h.one, h1, h2]
  exact no (by simp [Gm.right]; omega)
 by_cases h3 : g.players < 1
 ·simp -implicitDefEqProofs only [go_sem, dnW_ite, go_sem_proc, h.one, h1, h2, h3]
  exact no (by simp [Gm.right]; omega)
 by_cases h4 : g.players > min 6 g.obs
 ·simp -implicitDefEqProofs only [go_sem, dnW_ite, go_sem_proc, h.one, h1, h2, h3, h4]
  exact no (by simp [Gm.right]; omega)
 by_cases h5 : (g.dflt.toNat : Int) ≥ (g.moves.toNat : Int)
 ·simp -implicitDefEqProofs only [go_sem, dnW_ite, go_sem_proc, h.one, h1, h2, h3, h4, h5]
  exact no (by simp [Gm.right]; omega)
 by_cases h6 : (g.cells.length : Int) > 48
 ·simp -implicitDefEqProofs only [go_sem, dnW_ite, go_sem_proc, h.one, h1, h2, h3, h4, h5, h.x.lenF, List.length_map, h6]
  exact no (by simp [Gm.right]; omega)
 simp -implicitDefEqProofs only [go_sem, dnW_ite, go_sem_proc, h.one, h1, h2, h3, h4, h5, h.x.lenF, List.length_map, h6]
 refine gRight_k g x y h hw hb (by omega) (by omega) _ rfl K fun J' => hK _ _ (frzE rfl ?_)
 have e1 : decide (1 ≤ g.obs ∧ g.obs ≤ 32) = true := by simp; omega
 have e2 : decide (1 ≤ g.players ∧ g.players ≤ 6 ∧ g.players ≤ g.obs) = true := by simp; omega
 have e3 : decide (g.dflt.toNat < g.moves.toNat) = true := by simp; omega
 have e4 : decide (g.cells.length ≤ 48) = true := by simp; omega
 simp [Gm.right, e1, e2, e3, e4, itup]
attribute [go_sem] Nat.add_lt_add_iff_left Nat.add_left_cancel_iff Nat.lt_add_right_iff_pos Array.getElem?_push Array.getElem?_setIfInBounds
theorem gpN {J : JH} {d : Nat} {X : IB} {r : Option IB} (h : d < J.size) (k : J[d]? = r) : (J.push X)[d]? = r := by rw [Array.getElem?_push, if_neg (by omega)]; exact k
theorem gpE {J : JH} {d : Nat} {X : IB} (h : d = J.size) : (J.push X)[d]? = some X := by subst h; exact push_get J X
theorem Fr.psh {J J1 : JH} {S : List Nat} (h : Fr J J1 S) {X : IB} : Fr J (J1.push X) S := h.trans (Fr.push _ _ S) (fun _ _ h => h)
theorem Fr.stn {J J1 : JH} {S : List Nat} (h : Fr J J1 S) {b : Nat} {X : IB} (hb : J.size ≤ b) : Fr J (J1.setIfInBounds b X) S := ⟨by rw [Array.size_setIfInBounds]; exact h.1, fun d hd hn => by rw [Array.getElem?_setIfInBounds, if_neg (by omega)]; exact h.2 d hd hn⟩
theorem Fr.sts {J J1 : JH} {S : List Nat} (h : Fr J J1 S) {b : Nat} {X : IB} (hb : b ∈ S) : Fr J (J1.setIfInBounds b X) S := h.trans (Fr.set _ _ hb) (fun _ _ h => h)
def RawX (J : JH) (s : IV) (sz : Nat) (X : List (List IV)) : Prop := ∃ b v c, s = .sl b v 0 X.length c sz ∧ J[b]? = some (.cells v X.flatten false)
theorem RawX.fr {J J' : JH} {s : IV} {sz : Nat} {X : List (List IV)} {S : List Nat} (h : RawX J s sz X) (hf : Fr J J' S) (hs : ∀ d ∈ blk s, d ∉ S) : RawX J' s sz X := by
 obtain ⟨b, v, c, rfl, hb⟩ := h
 exact ⟨b, v, c, rfl, by rw [hf.2 b (lt_get hb) (hs b (by simp [blk, blkOf]))]; exact hb⟩
theorem RawX.low {J : JH} {s : IV} {sz : Nat} {X : List (List IV)} (h : RawX J s sz X) : ∀ d ∈ blk s, d < J.size := by
 obtain ⟨b, v, c, rfl, hb⟩ := h
 intro d hd; simp [blk, blkOf] at hd; subst hd; exact lt_get hb
theorem RawX.lenF {J : JH} {s : IV} {sz : Nat} {X : List (List IV)} (h : RawX J s sz X) (J2 : JH) : Go.Proofs.Ytccbcbnglnloiaa.G.lenF false s J2 = some (nI X.length, J2) := by
 obtain ⟨b, v, c, rfl, hb⟩ := h; rfl
theorem RawX.rd {J : JH} {b v c sz : Nat} {X : List (List IV)} (hb : J[b]? = some (.cells v X.flatten false)) (hX : ∀ x ∈ X, x.length = sz) : ird J b v 0 (X.length * sz) = some X.flatten := by
 have hl := flat_len hX
 simp only [ird, hb, true_and, Nat.zero_add, List.drop_zero]
 rw [if_pos (by omega), List.take_of_length_le (by omega)]
theorem RawX.frz {J : JH} {s : IV} {sz : Nat} {X : List (List IV)} (h : RawX J s sz X) (hsz : 0 < sz) (hX : ∀ x ∈ X, x.length = sz) (hp : ipureL X.flatten = true) (ho : X.flatten.all ione = true) : ∃ u, (∀ k, Go.Proofs.Ytccbcbnglnloiaa.G.frz J (k + 1) s = some u) ∧ Ls sz u (X.map (mkE sz)) := by
 obtain ⟨b, v, c, rfl, hb⟩ := h
 refine ⟨_, fun k => frz_sl hsz (RawX.rd (c := c) hb hX) hp ho, ?_⟩
 rw [grp_flat hX]; exact .lst
theorem RawX.shows {J : JH} {s : IV} {sz : Nat} {X : List (List IV)} (h : RawX J s sz X) (hX : ∀ x ∈ X, x.length = sz) (hp : ipureL X.flatten = true) : ∀ d ∈ Go.Proofs.Ytccbcbnglnloiaa.G.shows J DEP s, d ∈ blk s := by
 obtain ⟨b, v, c, rfl, hb⟩ := h
 intro d hd
 rw [frz12, shows_sl (RawX.rd (c := c) hb hX) hp] at hd
 exact hd
inductive FA (J : JH) (S : List Nat) : List IV → List IV → Prop where
 | nil : FA J S [] []
 | pure {v : IV} {vs us : List IV} : ipure v = true → FA J S vs us → FA J S (v :: vs) (v :: us)
 | raw {v u : IV} {vs us : List IV} : frz J DEP v = some u → (∀ d ∈ shows J DEP v, d ∈ S) → FA J S vs us → FA J S (v :: vs) (u :: us)
theorem FA.mapM {J : JH} {S : List Nat} {vs us : List IV} (h : FA J S vs us) : vs.mapM (frz J DEP) = some us := by
 induction h with
 | nil => rfl
 | pure hv _ ih => rw [List.mapM_cons, frz_pure J _ hv, ih]; rfl
 | raw hv _ _ ih => rw [List.mapM_cons, hv, ih]; rfl
theorem FA.shown {J : JH} {S : List Nat} {vs us : List IV} (h : FA J S vs us) : ∀ d ∈ vs.flatMap (shows J DEP), d ∈ S := by
 induction h with
 | nil => simp
 | pure hv _ ih => rw [List.flatMap_cons, shows_pure J _ hv]; exact ih
 | raw _ hs _ ih =>
  intro d hd
  rw [List.flatMap_cons] at hd
  rcases List.mem_append.1 hd with hd | hd
  ·exact hs d hd
  ·exact ih d hd
theorem WP_callG {f : FuncId} {args as : List IV} {u : IV} {J : JH} {k : L} {ρ : List IV} {P} {S : List Nat} (ha : FA J S args as) (hp : pc BI f as = some u) (hk : ∀ J', Fr J J' S → J'.size = J.size → WP (dn BI k (ρ ++ [u]) J') P) : WP (thenD (doCall (ic BI) .pure f args J) k ρ) P :=
 WP_callF S ha.mapM hp ha.shown hk
def KeepC (J J' : JH) : Prop := ∀ (d w : Nat) (cs : List IV) (f : Bool), J[d]? = some (IB.cells w cs f) → ∃ f', J'[d]? = some (IB.cells w cs f')
theorem KeepC.refl (J : JH) : KeepC J J := fun d w cs f h => ⟨f, h⟩
theorem KeepC.mark (J : JH) (l : List Nat) : KeepC J (markA J l) := fun d w cs f h => by
 rw [markA_get]
 by_cases hm : d ∈ l
 ·rw [if_pos hm, h]; exact ⟨true, rfl⟩
 ·rw [if_neg hm, h]; exact ⟨f, rfl⟩
theorem KeepC.rd {J J' : JH} (h : KeepC J J') {b v off n : Nat} {cs : List IV} (hr : ird J b v off n = some cs) : ird J' b v off n = some cs := by
 unfold ird at hr ⊢
 cases hb : J[b]? with
 | none => rw [hb] at hr; simp at hr
 | some X =>
  rw [hb] at hr
  cases X with
  | cells w c f =>
   obtain ⟨f', hf⟩ := h b w c f hb
   rw [hf]; exact hr
  | map _ _ => simp at hr
theorem KeepC.cells {J J' : JH} (h : KeepC J J') {sz : Nat} {x : IV} {cs : List IV} (hr : iscells J sz x = some cs) : iscells J' sz x = some cs := by
 unfold iscells at hr ⊢
 split at hr
 ·exact hr
 ·exact h.rd hr
 ·exact hr
 ·cases hr
def ones (κ : IntKind) (l : List Int) : List (List IV) := l.map fun v => [IV.int κ v]
def lookF (z : Option Value) (s : KS) (ok : Bool) (m k : IV) (J : JH) : Option (IV × JH) := match z with | some z => ilookup s (ivV z) ok m k J | none => ilift none J
theorem iexec_lookup {B : IBook} {C : ICall} {md : Md} {ρ : List IV} {t : TypeId} {s : KS} {ok : Bool} {m k : Operand} {J : JH} : iexec B C md ρ (.lookup t s ok m k) J = lookF (B.zv t) s ok (evI ρ m) (evI ρ k) J := rfl
def msetF (s : KS) (m k v : IV) (J : JH) : Option (IV × JH) := imapset s m k v J
theorem iexec_mapset {B : IBook} {C : ICall} {md : Md} {ρ : List IV} {s : KS} {m k v : Operand} {J : JH} : iexec B C md ρ (.mapset s m k v) J = msetF s (evI ρ m) (evI ρ k) (evI ρ v) J := rfl
def mdelF (s : KS) (m k : IV) (J : JH) : Option (IV × JH) := idelete s m k J
theorem iexec_del {B : IBook} {C : ICall} {md : Md} {ρ : List IV} {s : KS} {m k : Operand} {J : JH} : iexec B C md ρ (.del s m k) J = mdelF s (evI ρ m) (evI ρ k) J := rfl
attribute [go_sem ↓] iexec_lookup iexec_mapset iexec_del
structure Mv where
 p : Int
 t : BitVec 32
 m : BitVec 32
 b : Nat
def kkey (p : Int) (t : BitVec 32) : Value := .agg #[.int .i64 p, .int .u32 (t.toNat : Int)]
def Mv.e (x : Mv) : IEnt := ⟨kkey x.p x.t, m32 x.m, x.b⟩
def Mv.is (p : Int) (t : BitVec 32) (x : Mv) : Bool := decide (x.p = p) && decide (x.t = t)
section
variable {J : JH} {mb c : Nat} {l : List Mv} (h : J[mb]? = some (.map (l.map Mv.e) c)) (p : Int) (t : BitVec 32)
include h
end
structure Dk where
 pl : Int
 mv : BitVec 32
 us : BitVec 32
 tk : BitVec 32
def dkc (d : Dk) (mb : Nat) : List IV := [.int .i64 d.pl, m32 d.mv, m32 d.us, m32 d.tk, .map mb]
theorem dk_len (d mb) : (dkc d mb).length = 5 := rfl
theorem dk_0 (d mb) : ((dkc d mb).drop 0).take 1 = [.int .i64 d.pl] := rfl
theorem dk_00 (d mb) : (dkc d mb).take 1 = [.int .i64 d.pl] := rfl
theorem dk_1 (d mb) : ((dkc d mb).drop 1).take 1 = [m32 d.mv] := rfl
theorem dk_2 (d mb) : ((dkc d mb).drop 2).take 1 = [m32 d.us] := rfl
theorem dk_3 (d mb) : ((dkc d mb).drop 3).take 1 = [m32 d.tk] := rfl
theorem dk_4 (d mb) : ((dkc d mb).drop 4).take 1 = [.map mb] := rfl
theorem dk_take (d mb) : (dkc d mb).take 5 = dkc d mb := rfl
theorem dk_s0 (d : Dk) (mb : Nat) (v : Int) : isplice (dkc d mb) 0 [.int .i64 v] = dkc { d with pl := v } mb := rfl
theorem dk_s3 (d : Dk) (mb : Nat) (v : BitVec 32) : isplice (dkc d mb) 3 [m32 v] = dkc { d with tk := v } mb := rfl
theorem dk_s4 (d : Dk) (mb mb' : Nat) : isplice (dkc d mb) 4 [.map mb'] = dkc d mb' := rfl
theorem dk_all (d d' : Dk) (mb mb' : Nat) : isplice (dkc d mb) 0 (dkc d' mb') = dkc d' mb' := rfl
theorem dk_one (d mb) : (dkc d mb).all ione = true := rfl
attribute [go_sem] dk_len dk_0 dk_00 dk_1 dk_2 dk_3 dk_4 dk_take dk_s0 dk_s3 dk_s4 dk_all dk_one
structure DeskAt (J : JH) (b mb c : Nat) (d : Dk) (l : List Mv) : Prop where
 cells : J[b]? = some (.cells 0 (dkc d mb) false)
 map : J[mb]? = some (.map (l.map Mv.e) c)
 born : (l.map Mv.b).Pairwise (· < ·) ∧ ∀ x ∈ l, x.b < c
theorem DeskAt.ne {J b mb c d l} (h : DeskAt J b mb c d l) : b ≠ mb := by
 rintro rfl
 have := h.cells; rw [h.map] at this; cases this
theorem DeskAt.fr {J J' : JH} {b mb c d l} {S : List Nat} (h : DeskAt J b mb c d l) (hf : Fr J J' S) (h1 : b ∉ S) (h2 : mb ∉ S) : DeskAt J' b mb c d l :=
 ⟨by rw [hf.2 b (lt_get h.cells) h1]; exact h.cells, by rw [hf.2 mb (lt_get h.map) h2]; exact h.map, h.born⟩
end Go.Proofs.Ytccbcbnglnloiaa.G
namespace Go.Proofs.Ytccbcbnglnloiaa.G
open Go
def Gm.mv (g : Gm) (ms : List (BitVec 32)) (j : Nat) : BitVec 32 := if h : j < ms.length then (if g.legal ms[j] then ms[j] else g.dflt) else g.dflt
def Gm.allF (g : Gm) (ms : List (BitVec 32)) (n : Nat) : List Int := (List.range n).map fun j => IntKind.i32.wrap ((g.mv ms j).toNat : Int)
theorem allF_succ (g ms n) : Gm.allF g ms (n + 1) = Gm.allF g ms n ++ [IntKind.i32.wrap ((g.mv ms n).toNat : Int)] := by
 simp [Gm.allF, List.range_succ]
theorem allF_len (g ms n) : (Gm.allF g ms n).length = n := by simp [Gm.allF]
theorem fits4r {n : Nat} (h : n ≤ 1000000) : fits n 4 = true := by
 simp only [fits, Bool.and_eq_true, decide_eq_true_eq]; omega
theorem gall_ok (g : Gm) (x y : IV) (h : GR g x y) (p : Nat) (hp : g.players = p) (hp6 : p ≤ 1000) (mv : IV) (ms : List (BitVec 32)) (hm : Ls 1 mv (ms.map m32)) : ∃ u, pc BI F_rules_Game_all [.agg (gmc g x y), mv] = some u ∧ Ls 1 u ((g.allF ms p).map (IV.int .i32)) := by
 refine pcW fn_rules_Game_all rfl fun K hK => ?_
 unfold l_rules_Game_all
 simp -implicitDefEqProofs only [go_sem, dnW_ite, go_sem_proc, h.one, hp, dn_loop]
 refine WP_range (by decide) p (fun i vs J' => ∃ out, vs = [mv, .ptr 0 0 0, out, nI p, nI i] ∧ J'[0]? = some (.cells 0 (gmc g x y) false) ∧ 0 ∉ blk out ∧ Grow J' out 1 ((g.allF ms i).map (IV.int .i32))) ?_ ⟨_, rfl, rfl, by simp [blk, blkOf], .nil⟩
 rintro i vs J ⟨out, rfl, h0, hb, hg⟩ hi K1 g1 g2 g3
 have hin := inb h0
 unfold l_rules_Game_all_k1
 by_cases hlt : i < p
 ·have hw1 := wrapS hlt (show p ≤ 9223372036854775807 by omega)
  have fin : WP (dn BI l_rules_Game_all_k0 [mv, .ptr 0 0 0, out, m32 (g.mv ms i), nI p, nI i] J) K1 := by
   unfold l_rules_Game_all_k0
   simp -implicitDefEqProofs only [go_sem, dnW_ite, go_sem_proc, ipureL, ipure, grp, mkE, List.headD]
   refine WP_bind (hg.app (m := 1) (ds := [.int .i32 (IntKind.i32.wrap ((g.mv ms i).toNat : Int))]) (by omega) rfl rfl rfl rfl (fits4r ?_)) fun out' J2 hs2 => ?_
   ·simp [Gm.allF]; omega
   obtain ⟨k1, k2, k3⟩ := hs2
   simp -implicitDefEqProofs only [go_sem, dnW_ite, go_sem_proc, hw1]
   refine g1 hlt _ _ ⟨out', rfl, by rw [k2.2 0 (lt_get h0) hb]; exact h0, fun hm0 => ?_, ?_⟩
   ·rcases k3 0 hm0 with hc | hc
    ·exact hb hc
    ·have := lt_get h0; omega
   ·rw [allF_succ, List.map_append]; exact k1
  by_cases hv : i < ms.length
  ·have hat := fun J => hm.at (i := i) (by simpa using hv) (J := J)
   simp only [List.getElem_map] at hat
   have hL := Legal_ok g x y h ms[i]
   cases hc : g.legal ms[i] with
   | true =>
    rw [hc] at hL
    have e : g.mv ms i = ms[i] := by simp [Gm.mv, hv, hc]
    rw [e] at fin
    simp -implicitDefEqProofs only [go_sem, dnW_ite, go_sem_proc, show ((i : Int) < (p : Int)) by omega, h0, hm.lenF, List.length_map, show ((i : Int) < (ms.length : Int)) by omega, hat, dcp hL (by simp [ipureL, ipure, h.pure])]
    exact fin
   | false =>
    rw [hc] at hL
    have e : g.mv ms i = g.dflt := by simp [Gm.mv, hv, hc]
    rw [e] at fin
    simp -implicitDefEqProofs only [go_sem, dnW_ite, go_sem_proc, show ((i : Int) < (p : Int)) by omega, h0, hm.lenF, List.length_map, show ((i : Int) < (ms.length : Int)) by omega, hat, dcp hL (by simp [ipureL, ipure, h.pure])]
    exact fin
  ·have e : g.mv ms i = g.dflt := by simp [Gm.mv, hv]
   rw [e] at fin
   simp -implicitDefEqProofs only [go_sem, dnW_ite, go_sem_proc, show ((i : Int) < (p : Int)) by omega, h0, hm.lenF, List.length_map, show ¬ ((i : Int) < (ms.length : Int)) by omega]
   exact fin
 ·simp -implicitDefEqProofs only [go_sem, dnW_ite, go_sem_proc, show ¬ ((i : Int) < (p : Int)) by omega]
  refine g2 _ _ ?_
  unfold l_rules_Game_all_k2
  simp -implicitDefEqProofs only [go_sem, dnW_ite, go_sem_proc]
  obtain rfl : i = p := by omega
  obtain ⟨u, hu, hul⟩ := hg.frzE1 ints_pure ints_ione
  exact hK _ _ u (hu 11) hul
section
variable {α : Type}
theorem app_ld {A B : List α} {n : Nat} (h : A.length = n) (k : Nat) : (A ++ B).drop (n + k) = B.drop k := by
 rw [← List.drop_drop, List.drop_append_of_le_length (by omega), List.drop_of_length_le (l := A) (by omega), List.nil_append]
theorem app_sp {A B vs : List IV} {n : Nat} (h : A.length = n) (k : Nat) : isplice (A ++ B) (n + k) vs = A ++ isplice B k vs := by
 unfold isplice
 rw [List.take_append, List.take_of_length_le (by omega), Nat.add_assoc, app_ld h, show n + k - A.length = k by omega]
 simp
theorem app_sp0 {A B vs : List IV} {k : Nat} (h : k + vs.length ≤ A.length) : isplice (A ++ B) k vs = isplice A k vs ++ B := by
 unfold isplice
 rw [List.take_append_of_le_length (by omega), List.drop_append_of_le_length (by omega)]
 simp
end
structure Sh where
 cell : Int
 to : BitVec 32
 v : Int
 deriving DecidableEq
def Sh.c (s : Sh) : List IV := [.int .i64 s.cell, m32 s.to, .int .i32 s.v]
structure Rg where
 l : List Cl
 h : l.length = 8
def Rg.set (r : Rg) (i : Nat) (c : Cl) : Rg := ⟨r.l.set i c, by rw [List.length_set]; exact r.h⟩
def Rg.at (r : Rg) (i : Nat) : Cl := r.l.getD i Cl.z
structure Mc where
 bd : Bd
 dice : Int
 touched : BitVec 64
 shows : List Sh
 used : Nat
 err : Nat
 r : Rg
 pc : Nat
structure Me where
 mv : IV
 moves : List Int
 tick : Int
 all : BitVec 32
def mcB (m : Mc) (sh : IV) : List IV := [.int .u64 m.dice, .int .u64 (m.touched.toNat : Int), sh, nI m.used, nI m.err]
def rgc (r : Rg) : List IV := (r.l.map Cl.c).flatten
def mcD (E : Me) (m : Mc) : List IV := [nI m.pc, E.mv, .int .u32 E.tick, m32 E.all, .fn F_vm_Compute [] []]
def mc (E : Me) (m : Mc) (sh : IV) : List IV := bdc m.bd ++ (mcB m sh ++ (rgc m.r ++ mcD E m))
theorem mcB_len (m sh) : (mcB m sh).length = 5 := rfl
theorem rgc_len (r : Rg) : (rgc r).length = 16 := by rw [rgc, flat_cl, r.h]
theorem mc_len (E m sh) : (mc E m sh).length = 123 := by simp only [mc, List.length_append, bdc_len, rgc_len, mcB, mcD, List.length_cons, List.length_nil]
theorem rg2 (r : Rg) : ∀ e ∈ r.l.map Cl.c, e.length = 2 := by
 intro e he
 obtain ⟨y, _, rfl⟩ := List.mem_map.1 he
 rfl
theorem rg_at (r : Rg) {i : Nat} (h : i < 8) : r.at i = r.l[i]'(by rw [r.h]; exact h) := by simp [Rg.at, r.h, h]
theorem rgc_at (r : Rg) {i : Nat} (h : i < 8) : ((rgc r).drop (i * 2)).take 2 = (r.at i).c := by
 have := flat_at (rest := []) (rg2 r) (i := i) (by simp [r.h, h])
 rw [List.append_nil] at this
 rw [rgc, this, rg_at r h]; simp
theorem rgc_set (r : Rg) {i : Nat} (h : i < 8) (c : Cl) : isplice (rgc r) (i * 2) [.int .i32 c.v, m32 c.s] = rgc (r.set i c) := by
 have := flat_splice (rest := []) (vs := [IV.int .i32 c.v, m32 c.s]) (k := 0) (rg2 r) (i := i) (by simp [r.h, h]) (by simp)
 rw [List.append_nil, List.append_nil, Nat.add_zero] at this
 rw [rgc, this, rgc, Rg.set]
 simp only [List.getElem_map, List.map_set]
 rfl
theorem rgc_sets (r : Rg) {i : Nat} (h : i < 8) (s : BitVec 32) : isplice (rgc r) (i * 2 + 1) [m32 s] = rgc (r.set i ⟨(r.at i).v, s⟩) := by
 have := flat_splice (rest := []) (vs := [m32 s]) (k := 1) (rg2 r) (i := i) (by simp [r.h, h]) (by simp)
 rw [List.append_nil, List.append_nil] at this
 rw [rgc, this, rgc, Rg.set, rg_at r h]
 simp only [List.getElem_map, List.map_set]
 rfl
section
variable (E : Me) (m : Mc) (sh : IV)
theorem ld_bd : (mc E m sh).take 97 = bdc m.bd := by
 rw [mc, List.take_append_of_le_length (by rw [bdc_len]; exact Nat.le_refl _), bdc_take]
theorem ld_97 : ((mc E m sh).drop 97).take 1 = [.int .u64 m.dice] := by rw [mc, app_ld (bdc_len m.bd) 0]; rfl
theorem ld_98 : ((mc E m sh).drop 98).take 1 = [.int .u64 (m.touched.toNat : Int)] := by rw [mc, app_ld (bdc_len m.bd) 1]; rfl
theorem ld_99 : ((mc E m sh).drop 99).take 1 = [sh] := by rw [mc, app_ld (bdc_len m.bd) 2]; rfl
theorem ld_100 : ((mc E m sh).drop 100).take 1 = [nI m.used] := by rw [mc, app_ld (bdc_len m.bd) 3]; rfl
theorem ld_101 : ((mc E m sh).drop 101).take 1 = [nI m.err] := by rw [mc, app_ld (bdc_len m.bd) 4]; rfl
theorem ld_r {i : Nat} (h : i < 8) : ((mc E m sh).drop (102 + i * 2)).take 2 = [.int .i32 (m.r.at i).v, m32 (m.r.at i).s] := by
 rw [mc, show 102 + i * 2 = 97 + (5 + i * 2) by omega, app_ld (bdc_len m.bd), app_ld (mcB_len m sh), List.drop_append_of_le_length (by rw [rgc_len]; omega), List.take_append_of_le_length (by rw [List.length_drop, rgc_len]; omega), rgc_at _ h]; rfl
theorem ld_rv {i : Nat} (h : i < 8) : ((mc E m sh).drop (102 + i * 2)).take 1 = [.int .i32 (m.r.at i).v] := by
 have := congrArg (List.take 1) (ld_r E m sh h)
 rw [List.take_take] at this
 exact this
theorem ld_rs {i : Nat} (h : i < 8) : ((mc E m sh).drop (102 + i * 2 + 1)).take 1 = [m32 (m.r.at i).s] := by
 have := congrArg (List.drop 1) (ld_r E m sh h)
 rw [List.drop_take, List.drop_drop] at this
 exact this
theorem ld_118 : ((mc E m sh).drop 118).take 1 = [nI m.pc] := by
 rw [mc, show 118 = 97 + (5 + (16 + 0)) by omega, app_ld (bdc_len m.bd), app_ld (mcB_len m sh), app_ld (rgc_len m.r)]; rfl
theorem ld_119 : ((mc E m sh).drop 119).take 1 = [E.mv] := by
 rw [mc, show 119 = 97 + (5 + (16 + 1)) by omega, app_ld (bdc_len m.bd), app_ld (mcB_len m sh), app_ld (rgc_len m.r)]; rfl
theorem ld_120 : ((mc E m sh).drop 120).take 1 = [.int .u32 E.tick] := by
 rw [mc, show 120 = 97 + (5 + (16 + 2)) by omega, app_ld (bdc_len m.bd), app_ld (mcB_len m sh), app_ld (rgc_len m.r)]; rfl
theorem ld_121 : ((mc E m sh).drop 121).take 1 = [m32 E.all] := by
 rw [mc, show 121 = 97 + (5 + (16 + 3)) by omega, app_ld (bdc_len m.bd), app_ld (mcB_len m sh), app_ld (rgc_len m.r)]; rfl
theorem ld_122 : ((mc E m sh).drop 122).take 1 = [.fn F_vm_Compute [] []] := by
 rw [mc, show 122 = 97 + (5 + (16 + 4)) by omega, app_ld (bdc_len m.bd), app_ld (mcB_len m sh), app_ld (rgc_len m.r)]; rfl
theorem ld_res : (mc E m sh).take 102 = bdc m.bd ++ mcB m sh := by
 rw [mc, ← List.append_assoc, List.take_append_of_le_length (by simp [bdc_len, mcB]), List.take_of_length_le (by simp [bdc_len, mcB])]
theorem st_bd (b : Bd) : isplice (mc E m sh) 0 (bdc b) = mc E { m with bd := b } sh := by
 rw [mc, app_sp0 (by rw [bdc_len, bdc_len]; exact Nat.le_refl _), bdc_all]; rfl
theorem st_97 (d : Int) : isplice (mc E m sh) 97 [.int .u64 d] = mc E { m with dice := d } sh := by
 rw [mc, app_sp (bdc_len m.bd) 0]; rfl
theorem st_98 (d : BitVec 64) : isplice (mc E m sh) 98 [.int .u64 (d.toNat : Int)] = mc E { m with touched := d } sh := by
 rw [mc, app_sp (bdc_len m.bd) 1]; rfl
theorem st_99 (d : IV) : isplice (mc E m sh) 99 [d] = mc E m d := by
 rw [mc, app_sp (bdc_len m.bd) 2]; rfl
theorem st_100 (d : Nat) : isplice (mc E m sh) 100 [nI d] = mc E { m with used := d } sh := by
 rw [mc, app_sp (bdc_len m.bd) 3]; rfl
theorem st_101 (d : Nat) : isplice (mc E m sh) 101 [nI d] = mc E { m with err := d } sh := by
 rw [mc, app_sp (bdc_len m.bd) 4]; rfl
theorem st_r {i : Nat} (h : i < 8) (v : Int) (s : BitVec 32) : isplice (mc E m sh) (102 + i * 2) [.int .i32 v, m32 s] = mc E { m with r := m.r.set i ⟨v, s⟩ } sh := by
 rw [mc, show 102 + i * 2 = 97 + (5 + i * 2) by omega, app_sp (bdc_len m.bd), app_sp (mcB_len m sh), app_sp0 (by rw [rgc_len]; simp; omega), rgc_set _ h ⟨v, s⟩]; rfl
theorem st_rs {i : Nat} (h : i < 8) (s : BitVec 32) : isplice (mc E m sh) (102 + i * 2 + 1) [m32 s] = mc E { m with r := m.r.set i ⟨(m.r.at i).v, s⟩ } sh := by
 rw [mc, show 102 + i * 2 + 1 = 97 + (5 + (i * 2 + 1)) by omega, app_sp (bdc_len m.bd), app_sp (mcB_len m sh), app_sp0 (by rw [rgc_len]; simp; omega), rgc_sets _ h s]; rfl
theorem st_118 (d : Nat) : isplice (mc E m sh) 118 [nI d] = mc E { m with pc := d } sh := by
 rw [mc, show 118 = 97 + (5 + (16 + 0)) by omega, app_sp (bdc_len m.bd), app_sp (mcB_len m sh), app_sp (rgc_len m.r)]; rfl
end
theorem b8 {i : Nat} (h : i < 8) : i < 8 ∧ 102 + i * 2 ≤ 121 ∧ 102 + i * 2 ≤ 122 ∧ 102 + i * 2 + 1 ≤ 122 ∧ 102 + i * 2 + 2 ≤ 123 ∧ 102 + i * 2 + 1 ≤ 123 := by omega
attribute [go_sem] mc_len ld_bd ld_97 ld_98 ld_99 ld_100 ld_101 ld_118 ld_119 ld_120 ld_121 ld_122 ld_res st_bd st_97 st_98 st_99 st_100 st_101 st_118 set_get
def MAt (E : Me) (J : JH) (b : Nat) (sh : IV) (m : Mc) : Prop := J[b]? = some (.cells 0 (mc E m sh) false) ∧ b ∉ blk sh ∧ Grow J sh 3 (m.shows.map Sh.c).flatten
def MOut (E : Me) (b : Nat) (J : JH) (sh : IV) (J' : JH) (m : Mc) : Prop := ∃ sh', MAt E J' b sh' m ∧ Upd b J sh J' sh'
theorem MAt.push {E : Me} {J : JH} {b : Nat} {sh : IV} {m : Mc} (X : IB) (h : MAt E J b sh m) : MAt E (J.push X) b sh m :=
 ⟨by rw [Array.getElem?_push, if_neg (Nat.ne_of_lt (lt_get h.1))]; exact h.1, h.2.1, h.2.2.fr (S := []) (.push _ _ _) (by simp)⟩
theorem MAt.set {E : Me} {J : JH} {b : Nat} {sh : IV} {m : Mc} (h : MAt E J b sh m) (m' : Mc) (hs : m'.shows = m.shows) : MAt E (J.setIfInBounds b (.cells 0 (mc E m' sh) false)) b sh m' :=
 ⟨set_get J (lt_get h.1), h.2.1, by
  rw [hs]
  refine h.2.2.fr (Fr.set J _ (S := [b]) (by simp)) fun c hc hm => ?_
  rw [List.mem_singleton] at hm
  exact h.2.1 (hm ▸ hc)⟩
theorem Upd.set {b : Nat} {J : JH} {s : IV} (X : IB) : Upd b J s (J.setIfInBounds b X) s := ⟨.set _ _ (by simp), fun c h => .inl h⟩
theorem MOut.refl {E : Me} {J : JH} {b : Nat} {sh : IV} {m : Mc} (h : MAt E J b sh m) : MOut E b J sh J m := ⟨sh, h, .refl⟩
theorem MOut.set {E : Me} {J : JH} {b : Nat} {sh : IV} {m : Mc} (h : MAt E J b sh m) (m' : Mc) (hs : m'.shows = m.shows) : MOut E b J sh (J.setIfInBounds b (.cells 0 (mc E m' sh) false)) m' := ⟨sh, h.set m' hs, .set _⟩
theorem MOut.trans {E : Me} {J J1 J2 : JH} {b : Nat} {sh sh1 : IV} {m2 : Mc} (u : Upd b J sh J1 sh1) (k : MOut E b J1 sh1 J2 m2) : MOut E b J sh J2 m2 := by
 obtain ⟨s2, k1, k2⟩ := k
 exact ⟨s2, k1, u.trans k2⟩
end Go.Proofs.Ytccbcbnglnloiaa.G
namespace Go.Proofs.Ytccbcbnglnloiaa.G
open Go
variable {E : Me} {J : JH} {b : Nat} {sh : IV} {m : Mc}
theorem open_ok (h : MAt E J b sh m) (r : Nat) (hr : r < 8) : RP (ic BI F_vm_machine_open [.ptr b 0 0, .int .u8 (r : Int)] J) fun v J' => v = .bool (within E.all (m.r.at r).s) ∧ J' = J := by
 refine RP_run fn_vm_machine_open rfl fun K hK => ?_
 have hb := h.1
 unfold l_vm_machine_open
 simp -implicitDefEqProofs only [go_sem, dnW_ite, go_sem_proc, hb, b8 hr, ld_rs E m sh hr, dcp (Within_ok E.all (m.r.at r).s) rfl]
 exact hK _ _ ⟨rfl, rfl⟩
theorem fail_ok (h : MAt E J b sh m) (e : Nat) : RP (ic BI F_vm_machine_fail [.ptr b 0 0, nI e] J) fun v J' => MOut E b J sh J' { m with err := if m.err = 0 then e else m.err } := by
 refine RP_run fn_vm_machine_fail rfl fun K hK => ?_
 have hb := h.1
 unfold l_vm_machine_fail
 by_cases h0 : m.err = 0
 ·have e0 : ((m.err : Int) == 0) = true := by rw [natBeq0]; simpa using h0
  simp -implicitDefEqProofs only [go_sem, dnW_ite, go_sem_proc, hb, e0]
  rw [if_pos h0] at hK
  exact hK _ _ (MOut.set h { m with err := e } rfl)
 ·have e0 : ((m.err : Int) == 0) = false := by rw [natBeq0]; simpa using h0
  simp -implicitDefEqProofs only [go_sem, dnW_ite, go_sem_proc, hb, e0]
  rw [if_neg h0] at hK
  exact hK _ _ (MOut.refl h)
theorem load_ok (h : MAt E J b sh m) (r : Nat) (hr : r < 8) (i : Int) (hi : m.bd.there i = true) : RP (ic BI F_vm_machine_load [.ptr b 0 0, .int .u8 (r : Int), .int .i64 i] J) fun v J' => MOut E b J sh J' { m with r := m.r.set r (m.bd.at i) } := by
 refine RP_run fn_vm_machine_load rfl fun K hK => ?_
 have hb := h.1
 have hin := inb hb
 have hat := At_ok m.bd i
 rw [hi] at hat
 simp only [if_true, Cl.c] at hat
 unfold l_vm_machine_load
 simp -implicitDefEqProofs only [go_sem, dnW_ite, go_sem_proc, hb, b8 hr, st_r E m sh hr, dcp hat (by simp [ipureL, ipure, bdc_pure]), Array.getElem?_push, hin]
 exact hK _ _ (MOut.trans (.push _) (MOut.set (h.push _) { m with r := m.r.set r (m.bd.at i) } rfl))
def bit (i : Int) : BitVec 64 := 1#64 <<< i.toNat
theorem store_ok (h : MAt E J b sh m) (i : Int) (c : Cl) (hi : m.bd.there i = true) : RP (ic BI F_vm_machine_store [.ptr b 0 0, .int .i64 i, .agg [.int .i32 c.v, m32 c.s]] J) fun v J' => MOut E b J sh J' { m with bd := m.bd.put i c, touched := m.touched ||| bit i } := by
 refine RP_run fn_vm_machine_store rfl fun K hK => ?_
 have hb := h.1
 have hin := inb hb
 have hp := Put_ok m.bd i c
 have hi2 := hi
 have hbl := m.bd.h
 simp only [Bd.there, decide_eq_true_eq] at hi2
 rw [hi] at hp
 simp only [if_true, Cl.c] at hp
 unfold l_vm_machine_store
 simp -implicitDefEqProofs only [go_sem, dnW_ite, go_sem_proc, hb, dcp hp (by simp [ipureL, ipure, bdc_pure]), Array.getElem?_push, hin, show ¬ i < 0 by omega, show min i.toNat 64 = i.toNat by omega]
 exact hK _ _ (MOut.trans (.push _) (MOut.set (h.push _) { m with bd := m.bd.put i c, touched := m.touched ||| bit i } rfl))
def named (E : Me) (m : Mc) (x : Cd) : Int × Bool × Nat :=
 if within E.all (m.r.at x.b).s = false then (0, false, 8)
 else if x.n + (m.r.at x.b).v < 0 ∨ (m.bd.l.length : Int) ≤ x.n + (m.r.at x.b).v then (0, false, 7)
 else (x.n + (m.r.at x.b).v, true, 0)
def Rg.ok (r : Rg) : Prop := ∀ i, i < 8 → -2147483648 ≤ (r.at i).v ∧ (r.at i).v < 2147483648
theorem index_ok (h : MAt E J b sh m) (x : Cd) (hx : x.wf) (hxb : x.b < 8) (hr : m.r.ok) (h0 : m.err = 0) : RP (ic BI F_vm_machine_index [.ptr b 0 0, x.e] J) fun v J' => v = .tup [.int .i64 (named E m x).1, .bool (named E m x).2.1] ∧ MOut E b J sh J' { m with err := (named E m x).2.2 } := by
 refine RP_run fn_vm_machine_index rfl fun K hK => ?_
 have hb := h.1
 have hin := inb hb
 obtain ⟨w1, w2, w3, w4, w5, w6⟩ := hx
 obtain ⟨r1, r2⟩ := hr x.b hxb
 have e1 : IntKind.i64.wrap x.n = x.n := wrap_i64 (by omega) (by omega)
 have e2 : IntKind.i64.wrap (m.r.at x.b).v = (m.r.at x.b).v := wrap_i64 (by omega) (by omega)
 have e3 : IntKind.i64.wrap (x.n + (m.r.at x.b).v) = x.n + (m.r.at x.b).v := wrap_i64 (by omega) (by omega)
 unfold l_vm_machine_index Cd.e Cd.cs
 simp -implicitDefEqProofs only [go_sem, dnW_ite, go_sem_proc, hb, b8 hxb, ld_rv E m sh hxb, Array.getElem?_push, hin, e1, e2, e3]
 refine WP_call (open_ok (h.push _) x.b hxb) fun v J' hv => ?_
 obtain ⟨rfl, rfl⟩ := hv
 have fin : ∀ (X : IB) (q : Int × Bool × Nat), named E m x = q → ∀ J', MOut E b (J.push X) sh J' { m with err := q.2.2 } → K (.ret [.int .i64 q.1, .bool q.2.1]) J' := fun X q hq J' h1 => hK _ _ ⟨by rw [hq]; rfl, by rw [hq]; exact MOut.trans (.push X) h1⟩
 cases hw : within E.all (m.r.at x.b).s with
 | false =>
  simp -implicitDefEqProofs only [go_sem, dnW_ite, go_sem_proc]
  refine WP_call (fail_ok (h.push _) 8) fun v J' hv => ?_
  rw [if_pos h0] at hv
  simp -implicitDefEqProofs only [go_sem, dnW_ite, go_sem_proc]
  exact fin _ (0, false, 8) (by simp [named, hw]) _ hv
 | true =>
  by_cases h1 : x.n + (m.r.at x.b).v < 0
  ·simp -implicitDefEqProofs only [go_sem, dnW_ite, go_sem_proc, h1]
   refine WP_call (fail_ok (h.push _) 7) fun v J' hv => ?_
   rw [if_pos h0] at hv
   simp -implicitDefEqProofs only [go_sem, dnW_ite, go_sem_proc]
   exact fin _ (0, false, 7) (by simp [named, hw, h1]) _ hv
  ·by_cases h2 : x.n + (m.r.at x.b).v ≥ (m.bd.l.length : Int)
   ·simp -implicitDefEqProofs only [go_sem, dnW_ite, go_sem_proc, h1, hb, Array.getElem?_push, hin, dcp (Len_ok m.bd) (by simp [ipureL, ipure, bdc_pure]), h2]
    refine WP_call (fail_ok (h.push _) 7) fun v J' hv => ?_
    rw [if_pos h0] at hv
    simp -implicitDefEqProofs only [go_sem, dnW_ite, go_sem_proc]
    exact fin _ (0, false, 7) (by simp [named, hw]; omega) _ hv
   ·simp -implicitDefEqProofs only [go_sem, dnW_ite, go_sem_proc, h1, hb, Array.getElem?_push, hin, dcp (Len_ok m.bd) (by simp [ipureL, ipure, bdc_pure]), h2]
    refine fin (IB.cells 0 x.cs false) (x.n + (m.r.at x.b).v, true, 0) ?_ _ ?_
    ·simp only [named, hw]; rw [if_neg (by decide), if_neg (by omega)]
    ·have := MOut.refl (h.push (IB.cells 0 x.cs false))
     have e : ({ m with err := 0 } : Mc) = m := by cases m; simp_all
     show MOut _ _ _ _ _ { m with err := 0 }
     rw [e]; exact this
end Go.Proofs.Ytccbcbnglnloiaa.G
namespace Go.Proofs.Ytccbcbnglnloiaa.G
open Go
def x64 (a b : Int) : Int := IntKind.u64.wrap ((BitVec.ofInt 64 a ^^^ BitVec.ofInt 64 b).toNat : Int)
def mixF (a : Int) : Int :=
 let z := IntKind.u64.wrap (x64 a (a.fdiv (2 ^ min (Int.toNat 30) 64)) * 13787848793156543929)
 let z := IntKind.u64.wrap (x64 z (z.fdiv (2 ^ min (Int.toNat 27) 64)) * 10723151780598845931)
 x64 z (z.fdiv (2 ^ min (Int.toNat 31) 64))
theorem mixed_ok (a : Int) : pc BI F_dice_mixed [.int .u64 a] = some (.int .u64 (mixF a)) := by
 refine pc_intro (gv_none fn_dice_mixed) fn_dice_mixed rfl (J' := #[]) (vs := [.int .u64 (mixF a)]) ?_ rfl
 unfold l_dice_mixed
 simp -implicitDefEqProofs only [dn_o, dn_om, dn_oc, dn_ite, dn_ret, dn_join, dn_goto, iexec, evI_0, evI_succ, evI_int, evI_bool, evI_nilsl, evI_nilp, List.cons_append, List.nil_append, scal2_sc, abin, aun, ilift_some, thenI_some, onIf_bool, onJoin_goto, onJoin_ret, onJoin_ite, thenI_ite, Option.map_some, Option.map_none, decide_eq_true_eq, List.map_cons, List.map_nil, reduceIte, if_true, if_false, Bool.false_eq_true, inew, iload, istore, iwr, ird, icells, ione, one, List.getElem?_toArray, List.getElem?_cons_zero, List.getElem?_cons_succ, List.push_toArray, List.size_toArray, List.length_cons, List.length_nil, List.setIfInBounds_toArray, List.set_cons_zero, List.set_cons_succ, isplice_cons, List.drop_succ_cons, List.drop_zero, List.take_succ_cons, List.take_zero, List.drop_nil, List.take_nil, List.append_nil, List.all_cons, List.all_nil, Bool.and_true, Bool.true_and, Bool.and_self, Nat.zero_add, Nat.add_zero, Nat.reduceAdd, Nat.reduceLeDiff, Nat.reduceMul, Nat.le_refl, true_and, and_true, and_self, List.getElem?_nil, BI_zc, BI_zv, BI_co, zcT, zvT, coT, not_true_eq_false, not_false_eq_true, Bool.not_true, Bool.not_false, stepI', wantsI, ifill, rawB, allC1, ievs, Nat.reduceEqDiff, itup, Nat.le_add_left, Nat.le_add_right, iaggEq, List.foldl, iminI, iminF, imin2, min2, iisNil, isNil, ilen, Option.isNone_none, Option.isNone_some, Nat.zero_le, decide_true, decide_false, ireps, List.replicate, List.flatten_cons, List.flatten_nil, ichk, itouch, ctouch, ilooks, isame, untouched, Option.isSome_some, Bool.or_true, Bool.true_or, List.contains_nil, Int.reduceLT, Int.reduceLE, blkOf, IntKind.bits, iasNat, asNat, Int.toNat_natCast, Int.natCast_nonneg, List.length_map, endP_ret, endP_ite, Int.reduceToNat, iscells, ibnd, islice, capOf, Option.isSome_none, Bool.false_and, Bool.and_false, Bool.or_false, Bool.false_or, bne_self_eq_false, Nat.not_lt_zero, Nat.mul_one, Nat.one_mul, Nat.zero_mul, Nat.mul_zero, onJoin_out, beq_self_eq_true, Nat.sub_zero, Nat.reduceSub, List.length_set, false_implies, implies_true, forall_const]
 rfl
def sn (s : Int) : Int := IntKind.u64.wrap (s + 11400714819323198485)
def nx (s : Int) : Int := IntKind.u32.wrap ((mixF (sn s)).fdiv (2 ^ min (Int.toNat 32) 64))
def dice (s : Int) : IV := .agg [.int .u64 s]
theorem Next_ok (s : Int) : pc BI F_dice_Dice_Next [dice s] = some (.tup [.int .u32 (nx s), dice (sn s)]) := by
 refine pcE fn_dice_Dice_Next rfl fun K hK => ?_
 unfold l_dice_Dice_Next dice
 simp -implicitDefEqProofs only [go_sem, dnW_ite, go_sem_proc, dcp (mixed_ok _) rfl]
 exact hK _ _ (frzE rfl rfl)
def below (s n : Int) : Int := IntKind.u32.wrap ((IntKind.u64.wrap (IntKind.u64.wrap (nx s) * IntKind.u64.wrap n)).fdiv (2 ^ min (Int.toNat 32) 64))
theorem Below_ok (s n : Int) : pc BI F_dice_Dice_Below [dice s, .int .u32 n] = some (.tup [.int .u32 (below s n), dice (sn s)]) := by
 refine pcE fn_dice_Dice_Below rfl fun K hK => ?_
 have h := Next_ok s
 unfold dice at h
 unfold l_dice_Dice_Below dice
 simp -implicitDefEqProofs only [go_sem, dnW_ite, go_sem_proc, dcp h rfl]
 exact hK _ _ (frzE rfl rfl)
def skip (s n : Int) : Int := if n > 0 then IntKind.u64.wrap (s + IntKind.u64.wrap (11400714819323198485 * IntKind.u64.wrap n)) else s
def shufL (s : Int) : Nat → List Int → List Int × Int
 | 0, ys => (ys, s)
 | i + 1, ys => shufL (sn s) i ((ys.set (i + 1) (ys.getD (below s ((i : Int) + 2)).toNat 0)).set (below s ((i : Int) + 2)).toNat (ys.getD (i + 1) 0))
theorem below_rng (s n : Int) (h0 : 0 < n) (h1 : n < 4294967296) : 0 ≤ below s n ∧ below s n < n := by
 have hx := u32_rng ((mixF (sn s)).fdiv (2 ^ min (Int.toNat 32) 64))
 change 0 ≤ nx s ∧ nx s < 4294967296 at hx
 have hxn0 : 0 ≤ nx s * n := Int.mul_nonneg hx.1 (by omega)
 have hxn : nx s * n ≤ 4294967295 * n := Int.mul_le_mul_of_nonneg_right (by omega) (by omega)
 have e1 : below s n = IntKind.u32.wrap ((nx s * n) / 4294967296) := by
  unfold below
  rw [wrap_u64 (x := nx s) hx.1 (by omega), wrap_u64 (x := n) (by omega) (by omega), wrap_u64 (x := nx s * n) hxn0 (by omega)]
  rw [show (2 : Int) ^ min (Int.toNat 32) 64 = 4294967296 from rfl, Int.fdiv_eq_ediv_of_nonneg _ (by omega)]
 rw [e1, wrap_u32 (by omega) (by omega)]
 omega
def shH (s t : Int) (ys : List Int) : JH := [IB.cells 0 [.int .u64 s] false, IB.cells 0 [.int .u64 t] false, IB.cells 0 (ys.map (IV.int .i32)) false].toArray
theorem shuffle_step (t : Int) (n : Nat) (i : Nat) (s kk : Int) (ys : List Int) (hl : ys.length = n) (hi : i + 1 < n) (hr0 : 0 ≤ kk) (hk : kk.toNat < n) (hk2 : kk.toNat < ys.length) (hk3 : kk.toNat + 1 ≤ ys.length) (hi2 : i + 1 < ys.length) (hi3 : i + 1 + 1 ≤ ys.length)
  (h : pc BI F_dice_Dice_Below [.agg [.int .u64 s], .int .u32 ((i : Int) + 2)] = some (.tup [.int .u32 kk, .agg [.int .u64 (sn s)]]))
  (hn : IntKind.u32.wrap (IntKind.i64.wrap (((i + 1 : Nat) : Int) + 1)) = (i : Int) + 2) (hw2 : IntKind.i64.wrap (((i + 1 : Nat) : Int) - 1) = (i : Int)) (hpos : ((i + 1 : Nat) : Int) > 0) :
  dn BI l_dice_Dice_Shuffle_k0 [.ptr 0 0 0, .ptr 1 0 0, .sl 2 0 0 n (UNK + 1) 1, .int .i64 ((i + 1 : Nat) : Int)] (shH s t ys) = some (.goto 1 [.ptr 0 0 0, .ptr 1 0 0, .sl 2 0 0 n (UNK + 1) 1, .int .i64 i], shH (sn s) t ((ys.set (i + 1) (ys.getD kk.toNat 0)).set kk.toNat (ys.getD (i + 1) 0))) := by
 unfold l_dice_Dice_Shuffle_k0 shH
 simp -implicitDefEqProofs only [dn_o, dn_om, dn_oc, dn_ite, dn_ret, dn_join, dn_goto, iexec, evI_0, evI_succ, evI_int, evI_bool, evI_nilsl, evI_nilp, List.cons_append, List.nil_append, scal2_sc, abin, aun, ilift_some, thenI_some, onIf_bool, onJoin_goto, onJoin_ret, onJoin_ite, thenI_ite, Option.map_some, Option.map_none, decide_eq_true_eq, List.map_cons, List.map_nil, reduceIte, if_true, if_false, Bool.false_eq_true, inew, iload, istore, iwr, ird, icells, ione, one, List.getElem?_toArray, List.getElem?_cons_zero, List.getElem?_cons_succ, List.push_toArray, List.size_toArray, List.length_cons, List.length_nil, List.setIfInBounds_toArray, List.set_cons_zero, List.set_cons_succ, isplice_cons, List.drop_succ_cons, List.drop_zero, List.take_succ_cons, List.take_zero, List.drop_nil, List.take_nil, List.append_nil, List.all_cons, List.all_nil, Bool.and_true, Bool.true_and, Bool.and_self, Nat.zero_add, Nat.add_zero, Nat.reduceAdd, Nat.reduceLeDiff, Nat.reduceMul, Nat.le_refl, true_and, and_true, and_self, List.getElem?_nil, BI_zc, BI_zv, BI_co, zcT, zvT, coT, not_true_eq_false, not_false_eq_true, Bool.not_true, Bool.not_false, stepI', wantsI, ifill, rawB, allC1, ievs, Nat.reduceEqDiff, itup, Nat.le_add_left, Nat.le_add_right, iaggEq, List.foldl, iminI, iminF, imin2, min2, iisNil, isNil, ilen, Option.isNone_none, Option.isNone_some, Nat.zero_le, decide_true, decide_false, ireps, List.replicate, List.flatten_cons, List.flatten_nil, ichk, itouch, ctouch, ilooks, isame, untouched, Option.isSome_some, Bool.or_true, Bool.true_or, List.contains_nil, Int.reduceLT, Int.reduceLE, blkOf, IntKind.bits, iasNat, asNat, Int.toNat_natCast, Int.natCast_nonneg, List.length_map, endP_ret, endP_ite, Int.reduceToNat, iscells, ibnd, islice, capOf, Option.isSome_none, Bool.false_and, Bool.and_false, Bool.or_false, Bool.false_or, bne_self_eq_false, Nat.not_lt_zero, Nat.mul_one, Nat.one_mul, Nat.zero_mul, Nat.mul_zero, onJoin_out, beq_self_eq_true, Nat.sub_zero, Nat.reduceSub, List.length_set, false_implies, implies_true, forall_const, dcp h rfl, hn, hw2, hpos, hr0, hk, hk2, hk3, hi, hi2, hi3, take1_ints, isplice_ints]
theorem shuffle_loop (t : Int) (n : Nat) (hb : n ≤ 1000000) (i : Nat) : ∀ (s : Int) (ys : List Int), ys.length = n → i < n →
  iter (dn BI l_dice_Dice_Shuffle_k0) 1 [.ptr 0 0 0, .ptr 1 0 0, .sl 2 0 0 n (UNK + 1) 1, .int .i64 ((i : Nat) : Int)] (shH s t ys) =
  some (.goto 0 [.ptr 0 0 0, .ptr 1 0 0, .sl 2 0 0 n (UNK + 1) 1], shH (shufL s i ys).2 t (shufL s i ys).1) := by
 induction i with
 | zero =>
  intro s ys hl hi
  refine iter_out ?_ (by decide)
  unfold l_dice_Dice_Shuffle_k0
  simp -implicitDefEqProofs only [dn_o, dn_om, dn_oc, dn_ite, dn_ret, dn_join, dn_goto, iexec, evI_0, evI_succ, evI_int, evI_bool, evI_nilsl, evI_nilp, List.cons_append, List.nil_append, scal2_sc, abin, aun, ilift_some, thenI_some, onIf_bool, onJoin_goto, onJoin_ret, onJoin_ite, thenI_ite, Option.map_some, Option.map_none, decide_eq_true_eq, List.map_cons, List.map_nil, reduceIte, if_true, if_false, Bool.false_eq_true, inew, iload, istore, iwr, ird, icells, ione, one, List.getElem?_toArray, List.getElem?_cons_zero, List.getElem?_cons_succ, List.push_toArray, List.size_toArray, List.length_cons, List.length_nil, List.setIfInBounds_toArray, List.set_cons_zero, List.set_cons_succ, isplice_cons, List.drop_succ_cons, List.drop_zero, List.take_succ_cons, List.take_zero, List.drop_nil, List.take_nil, List.append_nil, List.all_cons, List.all_nil, Bool.and_true, Bool.true_and, Bool.and_self, Nat.zero_add, Nat.add_zero, Nat.reduceAdd, Nat.reduceLeDiff, Nat.reduceMul, Nat.le_refl, true_and, and_true, and_self, List.getElem?_nil, BI_zc, BI_zv, BI_co, zcT, zvT, coT, not_true_eq_false, not_false_eq_true, Bool.not_true, Bool.not_false, stepI', wantsI, ifill, rawB, allC1, ievs, Nat.reduceEqDiff, itup, Nat.le_add_left, Nat.le_add_right, iaggEq, List.foldl, iminI, iminF, imin2, min2, iisNil, isNil, ilen, Option.isNone_none, Option.isNone_some, Nat.zero_le, decide_true, decide_false, ireps, List.replicate, List.flatten_cons, List.flatten_nil, ichk, itouch, ctouch, ilooks, isame, untouched, Option.isSome_some, Bool.or_true, Bool.true_or, List.contains_nil, Int.reduceLT, Int.reduceLE, blkOf, IntKind.bits, iasNat, asNat, Int.toNat_natCast, Int.natCast_nonneg, List.length_map, endP_ret, endP_ite, Int.reduceToNat, iscells, ibnd, islice, capOf, Option.isSome_none, Bool.false_and, Bool.and_false, Bool.or_false, Bool.false_or, bne_self_eq_false, Nat.not_lt_zero, Nat.mul_one, Nat.one_mul, Nat.zero_mul, Nat.mul_zero, onJoin_out, beq_self_eq_true, Nat.sub_zero, Nat.reduceSub, List.length_set, false_implies, implies_true, forall_const, Int.natCast_zero, Int.lt_irrefl, gt_iff_lt, shufL]
 | succ i ih =>
  intro s ys hl hi
  obtain ⟨hr0, hr1⟩ := below_rng s ((i : Int) + 2) (by omega) (by omega)
  have hn : IntKind.u32.wrap (IntKind.i64.wrap (((i + 1 : Nat) : Int) + 1)) = (i : Int) + 2 := by
   rw [wrap_i64 (by omega) (by omega), wrap_u32 (by omega) (by omega)]; omega
  have hw2 : IntKind.i64.wrap (((i + 1 : Nat) : Int) - 1) = (i : Int) := by rw [wrap_i64 (by omega) (by omega)]; omega
  refine iter_step (shuffle_step t n i s (below s ((i : Int) + 2)) ys hl hi hr0 (by omega) (by omega) (by omega) (by omega) (by omega) (Below_ok s _) hn hw2 (by omega)) ?_
  rw [shufL]
  exact ih _ _ (by simpa using hl) (by omega)
theorem fits4 {n : Nat} (h : n ≤ 1000000) : fits n 4 = true := by
 simp only [fits, Bool.and_eq_true, decide_eq_true_eq]
 omega
theorem Clone32_ok (f : Bool) (xs : List Int) (hne : xs ≠ []) (hb : xs.length ≤ 1000000) (J : JH) :
  ic BI F_slices_Clone_Lint32_int32 [.lst 1 f (xs.map (IV.int .i32))] J = some (.sl J.size 0 0 xs.length (UNK + 1) 1, J.push (IB.cells 0 (xs.map (IV.int .i32)) false)) := by
 have hn : ¬ xs.length = 0 := fun h => hne (List.eq_nil_of_length_eq_zero h)
 refine ic_run fn_slices_Clone_Lint32_int32 rfl (vs := [.sl J.size 0 0 xs.length (UNK + 1) 1]) ?_
 unfold l_slices_Clone_Lint32_int32
 simp -implicitDefEqProofs only [dn_o, dn_om, dn_oc, dn_ite, dn_ret, dn_join, dn_goto, iexec, evI_0, evI_succ, evI_int, evI_bool, evI_nilsl, evI_nilp, List.cons_append, List.nil_append, scal2_sc, abin, aun, ilift_some, thenI_some, onIf_bool, onJoin_goto, onJoin_ret, onJoin_ite, thenI_ite, Option.map_some, Option.map_none, decide_eq_true_eq, List.map_cons, List.map_nil, reduceIte, if_true, if_false, Bool.false_eq_true, inew, iload, istore, iwr, ird, icells, ione, one, List.getElem?_toArray, List.getElem?_cons_zero, List.getElem?_cons_succ, List.push_toArray, List.size_toArray, List.length_cons, List.length_nil, List.setIfInBounds_toArray, List.set_cons_zero, List.set_cons_succ, isplice_cons, List.drop_succ_cons, List.drop_zero, List.take_succ_cons, List.take_zero, List.drop_nil, List.take_nil, List.append_nil, List.all_cons, List.all_nil, Bool.and_true, Bool.true_and, Bool.and_self, Nat.zero_add, Nat.add_zero, Nat.reduceAdd, Nat.reduceLeDiff, Nat.reduceMul, Nat.le_refl, true_and, and_true, and_self, List.getElem?_nil, BI_zc, BI_zv, BI_co, zcT, zvT, coT, not_true_eq_false, not_false_eq_true, Bool.not_true, Bool.not_false, stepI', wantsI, ifill, rawB, allC1, ievs, Nat.reduceEqDiff, itup, Nat.le_add_left, Nat.le_add_right, iaggEq, List.foldl, iminI, iminF, imin2, min2, iisNil, isNil, ilen, Option.isNone_none, Option.isNone_some, Nat.zero_le, decide_true, decide_false, ireps, List.replicate, List.flatten_cons, List.flatten_nil, ichk, itouch, ctouch, ilooks, isame, untouched, Option.isSome_some, Bool.or_true, Bool.true_or, List.contains_nil, Int.reduceLT, Int.reduceLE, blkOf, IntKind.bits, iasNat, asNat, Int.toNat_natCast, Int.natCast_nonneg, List.length_map, endP_ret, endP_ite, Int.reduceToNat, iscells, ibnd, islice, capOf, Option.isSome_none, Bool.false_and, Bool.and_false, Bool.or_false, Bool.false_or, bne_self_eq_false, Nat.not_lt_zero, Nat.mul_one, Nat.one_mul, Nat.zero_mul, Nat.mul_zero, onJoin_out, beq_self_eq_true, Nat.sub_zero, Nat.reduceSub, List.length_set, false_implies, implies_true, forall_const, iappend, ints_cells, hn, fits4 hb, ints_ione, List.flatMap_nil, ipureL, grp, Nat.lt_irrefl, Nat.zero_lt_one, UNK_pos]
theorem Shuffle_ok (f : Bool) (s : Int) (xs : List Int) (hne : xs ≠ []) (hb : xs.length ≤ 1000000) :
  pc BI F_dice_Dice_Shuffle [dice s, .lst 1 f (xs.map (IV.int .i32))] = some (.tup [.lst 1 false ((shufL s (xs.length - 1) xs).1.map (IV.int .i32)), dice (shufL s (xs.length - 1) xs).2]) := by
 have hpos : 0 < xs.length := List.length_pos_iff.2 hne
 have hw : IntKind.i64.wrap ((xs.length : Int) - 1) = ((xs.length - 1 : Nat) : Int) := by rw [wrap_i64 (by omega) (by omega)]; omega
 refine pc_run fn_dice_Dice_Shuffle rfl ?_
 have hc := fun J => dcr (Clone32_ok f xs hne hb J)
 have hl := shuffle_loop 0 xs.length hb (xs.length - 1) s xs rfl (by omega)
 unfold shH at hl
 unfold l_dice_Dice_Shuffle dice
 simp -implicitDefEqProofs only [dn_o, dn_om, dn_oc, dn_ite, dn_ret, dn_join, dn_goto, iexec, evI_0, evI_succ, evI_int, evI_bool, evI_nilsl, evI_nilp, List.cons_append, List.nil_append, scal2_sc, abin, aun, ilift_some, thenI_some, onIf_bool, onJoin_goto, onJoin_ret, onJoin_ite, thenI_ite, Option.map_some, Option.map_none, decide_eq_true_eq, List.map_cons, List.map_nil, reduceIte, if_true, if_false, Bool.false_eq_true, inew, iload, istore, iwr, ird, icells, ione, one, List.getElem?_toArray, List.getElem?_cons_zero, List.getElem?_cons_succ, List.push_toArray, List.size_toArray, List.length_cons, List.length_nil, List.setIfInBounds_toArray, List.set_cons_zero, List.set_cons_succ, isplice_cons, List.drop_succ_cons, List.drop_zero, List.take_succ_cons, List.take_zero, List.drop_nil, List.take_nil, List.append_nil, List.all_cons, List.all_nil, Bool.and_true, Bool.true_and, Bool.and_self, Nat.zero_add, Nat.add_zero, Nat.reduceAdd, Nat.reduceLeDiff, Nat.reduceMul, Nat.le_refl, true_and, and_true, and_self, List.getElem?_nil, BI_zc, BI_zv, BI_co, zcT, zvT, coT, not_true_eq_false, not_false_eq_true, Bool.not_true, Bool.not_false, stepI', wantsI, ifill, rawB, allC1, ievs, Nat.reduceEqDiff, itup, Nat.le_add_left, Nat.le_add_right, iaggEq, List.foldl, iminI, iminF, imin2, min2, iisNil, isNil, ilen, Option.isNone_none, Option.isNone_some, Nat.zero_le, decide_true, decide_false, ireps, List.replicate, List.flatten_cons, List.flatten_nil, ichk, itouch, ctouch, ilooks, isame, untouched, Option.isSome_some, Bool.or_true, Bool.true_or, List.contains_nil, Int.reduceLT, Int.reduceLE, blkOf, IntKind.bits, iasNat, asNat, Int.toNat_natCast, Int.natCast_nonneg, List.length_map, endP_ret, endP_ite, Int.reduceToNat, iscells, ibnd, islice, capOf, Option.isSome_none, Bool.false_and, Bool.and_false, Bool.or_false, Bool.false_or, bne_self_eq_false, Nat.not_lt_zero, Nat.mul_one, Nat.one_mul, Nat.zero_mul, Nat.mul_zero, onJoin_out, beq_self_eq_true, Nat.sub_zero, Nat.reduceSub, List.length_set, false_implies, implies_true, forall_const, hc, dn_loop, hw, hl]
 have hlen : ∀ (i : Nat) (s : Int) (ys : List Int), (shufL s i ys).1.length = ys.length := by
  intro i
  induction i with
  | zero => intro s ys; rfl
  | succ i ih => intro s ys; rw [shufL, ih]; simp
 have hl2 := hlen (xs.length - 1) s xs
 generalize shufL s (xs.length - 1) xs = r at *
 unfold l_dice_Dice_Shuffle_k1
 simp -implicitDefEqProofs only [dn_o, dn_om, dn_oc, dn_ite, dn_ret, dn_join, dn_goto, iexec, evI_0, evI_succ, evI_int, evI_bool, evI_nilsl, evI_nilp, List.cons_append, List.nil_append, scal2_sc, abin, aun, ilift_some, thenI_some, onIf_bool, onJoin_goto, onJoin_ret, onJoin_ite, thenI_ite, Option.map_some, Option.map_none, decide_eq_true_eq, List.map_cons, List.map_nil, reduceIte, if_true, if_false, Bool.false_eq_true, inew, iload, istore, iwr, ird, icells, ione, one, List.getElem?_toArray, List.getElem?_cons_zero, List.getElem?_cons_succ, List.push_toArray, List.size_toArray, List.length_cons, List.length_nil, List.setIfInBounds_toArray, List.set_cons_zero, List.set_cons_succ, isplice_cons, List.drop_succ_cons, List.drop_zero, List.take_succ_cons, List.take_zero, List.drop_nil, List.take_nil, List.append_nil, List.all_cons, List.all_nil, Bool.and_true, Bool.true_and, Bool.and_self, Nat.zero_add, Nat.add_zero, Nat.reduceAdd, Nat.reduceLeDiff, Nat.reduceMul, Nat.le_refl, true_and, and_true, and_self, List.getElem?_nil, BI_zc, BI_zv, BI_co, zcT, zvT, coT, not_true_eq_false, not_false_eq_true, Bool.not_true, Bool.not_false, stepI', wantsI, ifill, rawB, allC1, ievs, Nat.reduceEqDiff, itup, Nat.le_add_left, Nat.le_add_right, iaggEq, List.foldl, iminI, iminF, imin2, min2, iisNil, isNil, ilen, Option.isNone_none, Option.isNone_some, Nat.zero_le, decide_true, decide_false, ireps, List.replicate, List.flatten_cons, List.flatten_nil, ichk, itouch, ctouch, ilooks, isame, untouched, Option.isSome_some, Bool.or_true, Bool.true_or, List.contains_nil, Int.reduceLT, Int.reduceLE, blkOf, IntKind.bits, iasNat, asNat, Int.toNat_natCast, Int.natCast_nonneg, List.length_map, endP_ret, endP_ite, Int.reduceToNat, iscells, ibnd, islice, capOf, Option.isSome_none, Bool.false_and, Bool.and_false, Bool.or_false, Bool.false_or, bne_self_eq_false, Nat.not_lt_zero, Nat.mul_one, Nat.one_mul, Nat.zero_mul, Nat.mul_zero, onJoin_out, beq_self_eq_true, Nat.sub_zero, Nat.reduceSub, List.length_set, false_implies, implies_true, forall_const]
 rw [frz12, frz_tup (by simp [ipureL, ipure])]
 rw [← hl2]
 simp only [List.mapM_cons, List.mapM_nil]
 rw [frz_sl (by omega) (cs := r.1.map (IV.int .i32)) (by simp [ird]; exact List.take_of_length_le (by simp)) ints_pure ints_ione, frz_pure _ _ (by simp [ipure, ipureL])]
 have hg := grp1 (r.1.map (IV.int .i32))
 rw [List.length_map] at hg
 rw [hg]
 simp [UNK]
variable {E : Me} {J : JH} {b : Nat} {sh : IV} {m : Mc}
theorem MAt.app (h : MAt E J b sh m) {J' : JH} {s' : IV} {cs : List IV} (k1 : Grow J' s' 3 cs) (k2 : Fr J J' (blk sh)) (k3 : ∀ c ∈ blk s', c ∈ blk sh ∨ J.size ≤ c) (m' : Mc) (hm : cs = (m'.shows.map Sh.c).flatten) :
  MOut E b J sh (J'.setIfInBounds b (.cells 0 (mc E m' s') false)) m' := by
 have hlt := lt_get h.1
 have hlt' : b < J'.size := Nat.lt_of_lt_of_le hlt k2.1
 have hn : b ∉ blk s' := fun hb => by
  rcases k3 b hb with hb | hb
  ·exact h.2.1 hb
  ·omega
 subst hm
 refine ⟨s', ⟨set_get J' hlt', hn, k1.fr (Fr.set J' _ (S := [b]) (by simp)) fun c hc hm => ?_⟩, Fr.trans (J1 := J') ⟨k2.1, fun d hd hm => k2.2 d hd (fun h => hm (by simp [h]))⟩ (Fr.set J' _ (S := [b]) (by simp)) (fun d _ hd => ?_), k3⟩
 ·rw [List.mem_singleton] at hm; exact hn (hm ▸ hc)
 ·rw [List.mem_singleton] at hd; simp [hd]
def Sh.one (m : Mc) (x : Cd) (all : BitVec 32) (i : Int) : BitVec 32 := x.mask &&& all &&& ~~~(m.bd.at i).s
def revealF (E : Me) (m : Mc) (x : Cd) : Mc :=
 if (named E m x).2.1 = false then { m with err := (named E m x).2.2 } else
 { m with
  err := (named E m x).2.2
  bd := m.bd.show (named E m x).1 (Sh.one m x E.all (named E m x).1)
  touched := m.touched ||| bit (named E m x).1
  shows := m.shows ++ if Sh.one m x E.all (named E m x).1 = 0#32 then [] else [⟨(named E m x).1, Sh.one m x E.all (named E m x).1, (m.bd.at (named E m x).1).v⟩] }
theorem named_ok {x : Cd} (hn : (named E m x).2.1 = true) : m.bd.there (named E m x).1 = true ∧ (named E m x).2.2 = 0 := by
 simp only [named] at hn ⊢
 split at hn
 ·simp at hn
 ·split at hn
  ·simp at hn
  ·rename_i h1 h2
   rw [if_neg h1, if_neg h2]
   simp only [Bd.there, decide_eq_true_eq, and_true]
   omega
theorem fits16 {n : Nat} (h : n ≤ 1000000) : fits n 16 = true := by
 simp only [fits, Bool.and_eq_true, decide_eq_true_eq]
 omega
theorem reveal_ok (h : MAt E J b sh m) (x : Cd) (hx : x.wf) (hxb : x.b < 8) (hr : m.r.ok) (h0 : m.err = 0) (hs : m.shows.length ≤ 1000) : RP (ic BI F_vm_machine_reveal [.ptr b 0 0, x.e] J) fun v J' => MOut E b J sh J' (revealF E m x) := by
 refine RP_run fn_vm_machine_reveal rfl fun K hK => ?_
 have hb := h.1
 have hin := inb hb
 unfold l_vm_machine_reveal Cd.e Cd.cs
 simp -implicitDefEqProofs only [go_sem, dnW_ite, go_sem_proc, Array.getElem?_push, hin]
 refine WP_call (index_ok (h.push _) x hx hxb hr h0) fun v J1 hv => ?_
 obtain ⟨rfl, sh1, h1, u1⟩ := hv
 have hl1 := u1.1.1
 cases hn : (named E m x).2.1 with
 | false =>
  simp -implicitDefEqProofs only [go_sem, dnW_ite, go_sem_proc]
  refine hK _ _ (MOut.trans (.push _) ⟨sh1, ?_, u1⟩)
  simp only [revealF, hn, if_true]; exact h1
 | true =>
  obtain ⟨ht, he⟩ := named_ok hn
  have hb1 := h1.1
  have hin1 := inb hb1
  have hbx := u1.keep (push_get J _) (by have := lt_get hb; omega) (fun hm => by have := (h.2.2.low _ hm); omega)
  have hin2 := inb hbx
  have hat := At_ok m.bd (named E m x).1
  rw [ht] at hat
  simp only [if_true, Cl.c] at hat
  have hmeet := fun f => Meet_ok x.mask (.lst 1 f [m32 E.all]) [E.all] .lst (by simp)
  simp only [List.foldl] at hmeet
  have hshow := Show_ok m.bd (named E m x).1 (Sh.one m x E.all (named E m x).1)
  rw [ht] at hshow
  simp only [Bool.true_and, if_true] at hshow
  have hless : pc BI F_mask_Mask_Less [m32 (x.mask &&& E.all), m32 (m.bd.at (named E m x).1).s] = some (m32 (Sh.one m x E.all (named E m x).1)) := Less_ok _ _
  have hbl := m.bd.h
  have ht2 := ht
  simp only [Bd.there, decide_eq_true_eq] at ht2
  simp -implicitDefEqProofs only [go_sem, dnW_ite, go_sem_proc, hb1, Array.getElem?_push, hin1, hin2, hbx, dcp hat (by simp [ipureL, ipure, bdc_pure]), ipureL, ipure, grp, mkE, List.headD, dcp (hmeet _) rfl, dcp hless rfl, dcp hshow (by simp [ipureL, ipure, bdc_pure]), show ¬ (named E m x).1 < 0 by omega, show min (named E m x).1.toNat 64 = (named E m x).1.toNat by omega]
  by_cases hz : Sh.one m x E.all (named E m x).1 = 0#32
  ·have hz' : (Sh.one m x E.all (named E m x).1 != 0#32) = false := by simp [hz]
   simp -implicitDefEqProofs only [go_sem, dnW_ite, go_sem_proc, hz']
   refine hK _ _ (MOut.trans (.push _) (MOut.trans u1 (MOut.trans (.push (IB.cells 0 [.int .i32 (m.bd.at (named E m x).1).v, m32 (m.bd.at (named E m x).1).s] false)) ?_)))
   have := MOut.set (h1.push (IB.cells 0 [.int .i32 (m.bd.at (named E m x).1).v, m32 (m.bd.at (named E m x).1).s] false)) (revealF E m x) (by simp [revealF, hn, hz])
   simp only [revealF, hn, hz, if_true, List.append_nil, Bool.true_eq_false, if_false] at this ⊢
   exact this
  ·have hz' : (Sh.one m x E.all (named E m x).1 != 0#32) = true := by simp [hz]
   have hM := (h1.push (IB.cells 0 [.int .i32 (m.bd.at (named E m x).1).v, m32 (m.bd.at (named E m x).1).s] false)).set { m with err := (named E m x).2.2, bd := m.bd.show (named E m x).1 (Sh.one m x E.all (named E m x).1), touched := m.touched ||| bit (named E m x).1 } rfl
   simp -implicitDefEqProofs only [go_sem, dnW_ite, go_sem_proc, hz', Array.getElem?_push, Array.getElem?_setIfInBounds, hin1, hin2]
   have hgl : (m.shows.map Sh.c).flatten.length = m.shows.length * 3 := by
    rw [flat_len (sz := 3)]
    ·simp
    ·intro e he
     obtain ⟨y, _, rfl⟩ := List.mem_map.1 he
     rfl
   refine WP_bind (hM.2.2.app (m := 1) (ds := Sh.c ⟨(named E m x).1, Sh.one m x E.all (named E m x).1, (m.bd.at (named E m x).1).v⟩) (by omega) rfl rfl rfl rfl (fits16 (by rw [hgl]; omega))) fun s' J' hs => ?_
   obtain ⟨k1, k2, k3⟩ := hs
   have hb' := hM.1
   rw [← k2.2 b (lt_get hM.1) h1.2.1] at hb'
   have ki := k1.icells
   have ko := k1.one
   simp -implicitDefEqProofs only [go_sem, dnW_ite, go_sem_proc, hb', ↓ko, ↓ki]
   have := hM.app k1 k2 k3 (revealF E m x) (by simp [revealF, hn, hz])
   have t := MOut.trans (.push _) (MOut.trans u1 (MOut.trans (.push _) (MOut.trans (.set _) this)))
   simp only [revealF, hn, hz, if_false, Bool.true_eq_false] at t hK
   exact hK _ _ t
end Go.Proofs.Ytccbcbnglnloiaa.G
namespace Go.Proofs.Ytccbcbnglnloiaa.G
open Go
variable {E : Me} {J : JH} {b : Nat} {sh : IV} {m : Mc}
theorem MAt.fr {J' : JH} {S : List Nat} (h : MAt E J b sh m) (hf : Fr J J' S) (hb : b ∉ S) (hs : ∀ c ∈ blk sh, c ∉ S) : MAt E J' b sh m :=
 ⟨by rw [hf.2 b (lt_get h.1) hb]; exact h.1, h.2.1, h.2.2.fr hf hs⟩
def fillN (m : Mc) (start : Nat) (out : List Int) : Nat → Mc
 | 0 => m
 | k + 1 => { fillN m start out k with bd := (fillN m start out k).bd.put ((start + k : Nat) : Int) ⟨out.getD k 0, 0#32⟩, touched := (fillN m start out k).touched ||| bit ((start + k : Nat) : Int) }
theorem put_len (b : Bd) (i : Int) (c : Cl) : (b.put i c).l.length = b.l.length := by
 unfold Bd.put; split
 ·simp [Bd.set]
 ·rfl
theorem fillN_len (m : Mc) (start : Nat) (out : List Int) : ∀ k, (fillN m start out k).bd.l.length = m.bd.l.length
 | 0 => rfl
 | k + 1 => by rw [fillN]; simp only [put_len, fillN_len m start out k]
def rowV (m : Mc) (start many : Nat) : List Int := (List.range many).map fun k => (m.bd.at ((start + k : Nat) : Int)).v
theorem rowV_len (m : Mc) (start many : Nat) : (rowV m start many).length = many := by simp [rowV]
def shuffleF (m : Mc) (start many : Nat) : Mc :=
 fillN { m with dice := (shufL m.dice (many - 1) (rowV m start many)).2 } start (shufL m.dice (many - 1) (rowV m start many)).1 many
theorem shufL_len : ∀ (i : Nat) (s : Int) (ys : List Int), (shufL s i ys).1.length = ys.length := by
 intro i
 induction i with
 | zero => intro s ys; rfl
 | succ i ih => intro s ys; rw [shufL, ih]; simp
theorem shuffle_fill (h : MAt E J b sh m) (start many : Nat) (out : List Int) (f : Bool) (ho : out.length = many) (hl : start + many ≤ m.bd.l.length) (K : Out IV → JH → Prop)
  (hK : ∀ J', MOut E b J sh J' (fillN m start out many) → K (.ret []) J') :
  WP (iter (dn BI l_vm_machine_shuffle_k1) 1 [.ptr b 0 0, nI start, .lst 1 f (out.map (IV.int .i32)), nI many, nI 0] J) K := by
 have hbl := m.bd.h
 refine WP_rangeT many (fun i vs J' => vs = [.ptr b 0 0, nI start, .lst 1 f (out.map (IV.int .i32)), nI many, nI i] ∧ MOut E b J sh J' (fillN m start out i)) ?_ ⟨rfl, .refl h⟩
 rintro i vs J1 ⟨rfl, sh1, h1, u1⟩ hi K1 g1 g2 g3
 unfold l_vm_machine_shuffle_k1
 by_cases hlt : i < many
 ·have hat := fun J => (Ls.lst (sz := 1) (f := f) (xs := out.map (IV.int .i32))).at (i := i) (by simp; omega) (J := J)
  simp only [List.getElem_map] at hat
  have hw : IntKind.i64.wrap ((start : Int) + (i : Int)) = ((start + i : Nat) : Int) := by rw [wrap_i64 (by omega) (by omega)]; omega
  have hth : (fillN m start out i).bd.there ((start + i : Nat) : Int) = true := by
   simp only [Bd.there, fillN_len, decide_eq_true_eq]; omega
  simp -implicitDefEqProofs only [go_sem, dnW_ite, go_sem_proc, show ((i : Int) < (many : Int)) by omega, hat, hw]
  refine WP_call (store_ok h1 ((start + i : Nat) : Int) ⟨out[i]'(by omega), 0#32⟩ hth) fun v J2 hv => ?_
  simp -implicitDefEqProofs only [go_sem, dnW_ite, go_sem_proc, wrapS hlt (show many ≤ 9223372036854775807 by omega)]
  refine g1 hlt _ _ ⟨rfl, MOut.trans u1 ?_⟩
  simp only [fillN, show out.getD i 0 = out[i]'(by omega) by simp [show i < out.length by omega]]
  exact hv
 ·simp -implicitDefEqProofs only [go_sem, dnW_ite, go_sem_proc, show ¬ ((i : Int) < (many : Int)) by omega]
  obtain rfl : i = many := by omega
  exact g3 _ _ (hK _ ⟨sh1, h1, u1⟩)
theorem shuffle_ok (h : MAt E J b sh m) (start many : Nat) (hm0 : 1 ≤ many) (hl : start + many ≤ m.bd.l.length) :
  RP (ic BI F_vm_machine_shuffle [.ptr b 0 0, nI start, nI many] J) fun v J' => MOut E b J sh J' (shuffleF m start many) := by
 refine RP_run fn_vm_machine_shuffle rfl fun K hK => ?_
 have hb := h.1
 have hbl := m.bd.h
 unfold l_vm_machine_shuffle
 simp -implicitDefEqProofs only [go_sem, dnW_ite, go_sem_proc, dn_loop]
 refine WP_range (by decide) many (fun i vs J' => ∃ ls, vs = [.ptr b 0 0, nI start, nI many, ls, nI (start + i)] ∧ Fr J J' [] ∧ (∀ c ∈ blk ls, J.size ≤ c) ∧ Grow J' ls 1 ((rowV m start i).map (IV.int .i32))) ?_ ⟨_, rfl, .refl _ _, by simp [blk, blkOf], .nil⟩
 rintro i vs J1 ⟨ls, rfl, hf, hbk, hg⟩ hi K1 g1 g2 g3
 have h1 := h.fr hf (by simp) (by simp)
 have hb1 := h1.1
 have hin1 := inb hb1
 have hws : IntKind.i64.wrap ((start : Int) + (many : Int)) = ((start + many : Nat) : Int) := by rw [wrap_i64 (by omega) (by omega)]; omega
 unfold l_vm_machine_shuffle_k0
 by_cases hlt : i < many
 ·have hth : m.bd.there ((start + i : Nat) : Int) = true := by
   simp only [Bd.there, decide_eq_true_eq]; omega
  have hat := At_ok m.bd ((start + i : Nat) : Int)
  rw [hth] at hat
  simp only [if_true, Cl.c] at hat
  simp -implicitDefEqProofs only [go_sem, dnW_ite, go_sem_proc, hws, show (((start + i : Nat) : Int) < ((start + many : Nat) : Int)) by omega, hb1, hin1, Array.getElem?_push, dcp hat (by simp [ipureL, ipure, bdc_pure]), ipureL, ipure, grp, mkE, List.headD]
  refine WP_bind ((hg.fr0 (.push _ _ _)).app (m := 1) (ds := [IV.int .i32 (m.bd.at ((start + i : Nat) : Int)).v]) (by omega) rfl rfl rfl rfl (fits4 (by simp [rowV]; omega))) fun ls' J2 hs => ?_
  obtain ⟨k1, k2, k3⟩ := hs
  have hw1 : IntKind.i64.wrap (((start + i : Nat) : Int) + 1) = ((start + (i + 1) : Nat) : Int) := by rw [wrap_i64 (by omega) (by omega)]; omega
  simp -implicitDefEqProofs only [go_sem, dnW_ite, go_sem_proc, hw1]
  refine g1 hlt _ _ ⟨ls', rfl, ?_, fun c hc => ?_, ?_⟩
  ·refine hf.trans (Fr.trans (Fr.push _ _ (blk ls)) k2 (fun _ _ h => h)) fun d hd hm => ?_
   have := hbk d hm; omega
  ·rcases k3 c hc with hc | hc
   ·exact hbk c hc
   ·have := hf.1; simp at hc; omega
  ·have e : rowV m start (i + 1) = rowV m start i ++ [(m.bd.at ((start + i : Nat) : Int)).v] := by simp [rowV, List.range_succ]
   rw [e, List.map_append]; exact k1
 ·simp -implicitDefEqProofs only [go_sem, dnW_ite, go_sem_proc, hws, show ¬ (((start + i : Nat) : Int) < ((start + many : Nat) : Int)) by omega]
  obtain rfl : i = many := by omega
  refine g2 _ _ ?_
  unfold l_vm_machine_shuffle_k2
  simp -implicitDefEqProofs only [go_sem, dnW_ite, go_sem_proc, hb1]
  obtain ⟨u, hu, hul⟩ := hg.frz1 ints_pure ints_ione
  obtain ⟨f, rfl⟩ := hul.ne (by intro hh; have := congrArg List.length hh; simp [rowV] at this; omega)
  have hsok := Shuffle_ok f m.dice (rowV m start i) (by intro hh; have := congrArg List.length hh; simp [rowV] at this; omega) (by rw [rowV_len]; omega)
  rw [rowV_len] at hsok
  refine WP_callF (blk ls) (as := [dice m.dice, .lst 1 f ((rowV m start i).map (IV.int .i32))]) ?_ hsok ?_ fun J2 hf2 hsz2 => ?_
  ·simp only [List.mapM_cons, List.mapM_nil, hu, frzP (show ipure (IV.agg [IV.int .u64 m.dice]) = true from rfl)]; rfl
  ·simp only [List.flatMap_cons, List.flatMap_nil, shows_pure J1 DEP (show ipure (IV.agg [IV.int .u64 m.dice]) = true from rfl), List.nil_append, List.append_nil]
   exact hg.shows ints_pure
  have h2 := h1.fr hf2 (fun hm => by have := hbk _ hm; have := lt_get hb; omega) (fun c hc hm => by have := hbk _ hm; have := h.2.2.low _ hc; omega)
  have hb2 := h2.1
  have hso := shufL_len (i - 1) m.dice (rowV m start i)
  rw [rowV_len] at hso
  simp -implicitDefEqProofs only [go_sem, dnW_ite, go_sem_proc, hb2, dice, dn_loop, List.length_map, hso]
  refine shuffle_fill (h2.set { m with dice := (shufL m.dice (i - 1) (rowV m start i)).2 } rfl) start i _ false hso hl K fun J3 h3 => hK _ _ ?_
  obtain ⟨sh3, h3, u3⟩ := h3
  have hff : Fr J J2 [] := hf.trans hf2 fun d hd hm => by have := hbk d hm; omega
  exact ⟨sh3, h3, Upd.trans (J1 := J2) (s1 := sh) ⟨⟨hff.1, fun d hd _ => hff.2 d hd (by simp)⟩, fun c hc => .inl hc⟩ (Upd.trans (.set _) u3)⟩
end Go.Proofs.Ytccbcbnglnloiaa.G
namespace Go.Proofs.Ytccbcbnglnloiaa.G
open Go
def w32 (z : Int) : Int := IntKind.i32.wrap z
def b32 (z : Int) : BitVec 32 := BitVec.ofInt 32 z
def sh5 (y : Int) : Nat := (b32 y &&& 31#32).toNat
def computeF (op : Nat) (x y : Int) : Int := match op with
 | 6 => w32 (x + y)
 | 7 => w32 (x - y)
 | 8 => w32 (x * y)
 | 9 => if y = 0 then 0 else w32 (x.tdiv y)
 | 10 => if y = 0 then 0 else x.tmod y
 | 11 => w32 (b32 x &&& b32 y).toNat
 | 12 => w32 (b32 x ||| b32 y).toNat
 | 13 => w32 (b32 x ^^^ b32 y).toNat
 | 14 => w32 (x * 2 ^ sh5 y)
 | 15 => x.fdiv (2 ^ sh5 y)
 | 16 => if x < y then 1 else 0
 | 17 => if x = y then 1 else 0
 | _ => 0
theorem divided_ok (x y : Int) (left : Bool) : pc BI F_vm_divided [.int .i32 x, .int .i32 y, .bool left] = some (.int .i32 (if y = 0 then 0 else if left then x.tmod y else w32 (x.tdiv y))) := by
 refine pcE fn_vm_divided rfl fun K hK => ?_
 unfold l_vm_divided
 by_cases h : y = 0
 ·subst h
  simp -implicitDefEqProofs only [go_sem, dnW_ite, go_sem_proc]
  exact hK _ _ (frzE rfl rfl)
 ·have h1 : (y == 0) = false := by simpa using h
  cases left with
  | true => simp -implicitDefEqProofs only [go_sem, dnW_ite, go_sem_proc, h1, h]; exact hK _ _ (frzE rfl (by simp [itup, h]))
  | false => simp -implicitDefEqProofs only [go_sem, dnW_ite, go_sem_proc, h1, h]; exact hK _ _ (frzE rfl (by simp [itup, h, w32]))
theorem one_ok' (c : Bool) : pc BI F_vm_one [.bool c] = some (.int .i32 (if c then 1 else 0)) := by
 refine pcE fn_vm_one rfl fun K hK => ?_
 unfold l_vm_one
 cases c with
 | true => simp -implicitDefEqProofs only [go_sem, dnW_ite, go_sem_proc]; exact hK _ _ (frzE rfl rfl)
 | false => simp -implicitDefEqProofs only [go_sem, dnW_ite, go_sem_proc]; exact hK _ _ (frzE rfl rfl)
theorem sh5_lt (y : Int) : sh5 y < 32 := by
 unfold sh5
 rw [BitVec.toNat_and]
 exact Nat.lt_of_le_of_lt Nat.and_le_right (by decide)
theorem convI32' (v : Int) : IntKind.u32.wrap v = ((BitVec.ofInt 32 v).toNat : Int) := by
 simp only [IntKind.wrap, IntKind.bits, IntKind.signed, BitVec.toNat_ofInt]; simp; omega
theorem castN (n : Nat) : ((no_index (@OfNat.ofNat Nat n (instOfNatNat n)) : Nat) : Int) = @OfNat.ofNat Int n instOfNat := rfl
theorem Compute_ok (op : Nat) (hop : op < 256) (x y : Int) : pc BI F_vm_Compute [.int .u8 (op : Int), .int .i32 x, .int .i32 y] = some (.int .i32 (computeF op x y)) := by
 refine pcE fn_vm_Compute rfl fun K hK => ?_
 unfold l_vm_Compute
 by_cases h6 : op = 6
 ·subst h6
  simp -implicitDefEqProofs only [go_sem, dnW_ite, go_sem_proc]
  exact hK _ _ (frzE rfl rfl)
 have g6 : (op == 6) = false := by simpa using h6
 by_cases h7 : op = 7
 ·subst h7
  simp -implicitDefEqProofs only [go_sem, dnW_ite, go_sem_proc]
  exact hK _ _ (frzE rfl rfl)
 have g7 : (op == 7) = false := by simpa using h7
 by_cases h8 : op = 8
 ·subst h8
  simp -implicitDefEqProofs only [go_sem, dnW_ite, go_sem_proc]
  exact hK _ _ (frzE rfl rfl)
 have g8 : (op == 8) = false := by simpa using h8
 by_cases h9 : op = 9
 ·subst h9
  unfold l_vm_Compute_k0
  simp -implicitDefEqProofs only [go_sem, dnW_ite, go_sem_proc, dcp (divided_ok x y false) rfl, castN]
  exact hK _ _ (frzE rfl rfl)
 have g9 : (op == 9) = false := by simpa using h9
 by_cases h10 : op = 10
 ·subst h10
  unfold l_vm_Compute_k0
  simp -implicitDefEqProofs only [go_sem, dnW_ite, go_sem_proc, dcp (divided_ok x y true) rfl, castN]
  exact hK _ _ (frzE rfl rfl)
 have g10 : (op == 10) = false := by simpa using h10
 by_cases h11 : op = 11
 ·subst h11
  unfold l_vm_Compute_k0
  simp -implicitDefEqProofs only [go_sem, dnW_ite, go_sem_proc]
  exact hK _ _ (frzE rfl rfl)
 have g11 : (op == 11) = false := by simpa using h11
 by_cases h12 : op = 12
 ·subst h12
  unfold l_vm_Compute_k0
  simp -implicitDefEqProofs only [go_sem, dnW_ite, go_sem_proc]
  exact hK _ _ (frzE rfl rfl)
 have g12 : (op == 12) = false := by simpa using h12
 by_cases h13 : op = 13
 ·subst h13
  unfold l_vm_Compute_k0
  simp -implicitDefEqProofs only [go_sem, dnW_ite, go_sem_proc]
  exact hK _ _ (frzE rfl rfl)
 have g13 : (op == 13) = false := by simpa using h13
 by_cases h14 : op = 14
 ·subst h14
  unfold l_vm_Compute_k0
  have e0 := sh5_lt y
  have e1 : min (sh5 y) 32 = sh5 y := by omega
  unfold sh5 b32 at e1 e0
  simp -implicitDefEqProofs only [go_sem, dnW_ite, go_sem_proc, convI32', e1, show ¬ (((BitVec.ofInt 32 y &&& 31#32).toNat : Int) < 0) by omega]
  exact hK _ _ (frzE rfl rfl)
 have g14 : (op == 14) = false := by simpa using h14
 by_cases h15 : op = 15
 ·subst h15
  unfold l_vm_Compute_k0
  have e0 := sh5_lt y
  have e1 : min (sh5 y) 32 = sh5 y := by omega
  unfold sh5 b32 at e1 e0
  simp -implicitDefEqProofs only [go_sem, dnW_ite, go_sem_proc, convI32', e1, show ¬ (((BitVec.ofInt 32 y &&& 31#32).toNat : Int) < 0) by omega]
  exact hK _ _ (frzE rfl rfl)
 have g15 : (op == 15) = false := by simpa using h15
 by_cases h16 : op = 16
 ·subst h16
  unfold l_vm_Compute_k0
  simp -implicitDefEqProofs only [go_sem, dnW_ite, go_sem_proc, dcp (one_ok' (decide (x < y))) rfl]
  exact hK _ _ (frzE rfl (by simp [itup, computeF]))
 have g16 : (op == 16) = false := by simpa using h16
 by_cases h17 : op = 17
 ·subst h17
  unfold l_vm_Compute_k0
  simp -implicitDefEqProofs only [go_sem, dnW_ite, go_sem_proc, dcp (one_ok' (x == y)) rfl]
  exact hK _ _ (frzE rfl (by simp [itup, computeF]))
 have g17 : (op == 17) = false := by simpa using h17
 unfold l_vm_Compute_k0
 simp -implicitDefEqProofs only [go_sem, dnW_ite, go_sem_proc, natBeqc, g6, g7, g8, g9, g10, g11, g12, g13, g14, g15, g16, g17]
 refine hK _ _ (frzE rfl ?_)
 have : computeF op x y = 0 := by unfold computeF; split <;> first | rfl | contradiction
 rw [this]; rfl
variable {E : Me} {J : JH} {b : Nat} {sh : IV} {m : Mc}
structure Me.ok (E : Me) : Prop where
 mv : Ls 1 E.mv (E.moves.map (IV.int .i32))
 rng : ∀ v ∈ E.moves, -2147483648 ≤ v ∧ v < 2147483648
 len : E.moves.length ≤ 1000000
def reachF (E : Me) (m : Mc) (x : Cd) : Mc :=
 match x.op with
 | 4 => if (named E m x).2.1 then { m with r := m.r.set x.a (m.bd.at (named E m x).1) } else { m with err := (named E m x).2.2 }
 | 5 => if (named E m x).2.1 then { m with bd := m.bd.put (named E m x).1 (m.r.at x.a), touched := m.touched ||| bit (named E m x).1 } else { m with err := (named E m x).2.2 }
 | 22 => revealF E m x
 | 24 => shuffleF m x.n.toNat x.c
 | _ => m
theorem right_ab {x : Cd} {size cells players : Nat} (h : x.right size cells players = true) : x.op ≤ 25 ∧ x.a < 8 ∧ x.b < 8 := by
 unfold Cd.right at h
 split at h
 ·simp at h
 ·refine ⟨by omega, ?_⟩
  split at h
  ·simp at h; omega
  ·simp [regOk] at h; omega
theorem reach_ok (h : MAt E J b sh m) (x : Cd) (hx : x.wf) (size : Nat) (hr : x.right size m.bd.l.length E.moves.length = true) (hok : m.r.ok) (h0 : m.err = 0) (hs : m.shows.length ≤ 1000) (hop : x.op = 4 ∨ x.op = 5 ∨ x.op = 22 ∨ x.op = 24) :
  RP (ic BI F_vm_machine_reach [.ptr b 0 0, x.e] J) fun v J' => MOut E b J sh J' (reachF E m x) := by
 refine RP_run fn_vm_machine_reach rfl fun K hK => ?_
 have hb := h.1
 have hin := inb hb
 obtain ⟨_, ha8, hb8⟩ := right_ab hr
 unfold l_vm_machine_reach Cd.e Cd.cs
 have hcs : x.cs = [.int .u8 (x.op : Int), .int .u8 (x.a : Int), .int .u8 (x.b : Int), .int .u8 (x.c : Int), .int .i32 x.n, m32 x.mask] := rfl
 have e0 : ({ m with err := 0 } : Mc) = m := by cases m; simp_all
 rcases hop with hop | hop | hop | hop
 ·have q4 : (x.op == 4) = true := by simp [hop]
  have hR : reachF E m x = if (named E m x).2.1 then { m with r := m.r.set x.a (m.bd.at (named E m x).1) } else { m with err := (named E m x).2.2 } := by simp [reachF, hop]
  rw [hR] at hK
  simp -implicitDefEqProofs only [go_sem, dnW_ite, go_sem_proc, natBeqc, q4, Array.getElem?_push, hin]
  refine WP_call (index_ok (h.push (IB.cells 0 x.cs false)) x hx hb8 hok h0) fun v J1 hv => ?_
  obtain ⟨rfl, sh1, h1, u1⟩ := hv
  have hbx := u1.keep (push_get J _) (by have := lt_get hb; omega) (fun hm => by have := (h.2.2.low _ hm); omega)
  simp only [hcs] at hbx
  cases hn : (named E m x).2.1 with
  | false =>
   simp -implicitDefEqProofs only [go_sem, dnW_ite, go_sem_proc, hn]
   rw [hn] at hK
   exact hK _ _ (MOut.trans (.push _) ⟨sh1, h1, u1⟩)
  | true =>
   obtain ⟨ht, he⟩ := named_ok hn
   rw [he, e0] at h1
   simp -implicitDefEqProofs only [go_sem, dnW_ite, go_sem_proc, hn, hbx]
   refine WP_call (load_ok h1 x.a ha8 _ ht) fun v J2 hv => ?_
   simp -implicitDefEqProofs only [go_sem, dnW_ite, go_sem_proc]
   rw [hn] at hK
   exact hK _ _ (MOut.trans (.push _) (MOut.trans u1 hv))
 ·have q4 : (x.op == 4) = false := by simp [hop]
  have q5 : (x.op == 5) = true := by simp [hop]
  have hR : reachF E m x = if (named E m x).2.1 then { m with bd := m.bd.put (named E m x).1 (m.r.at x.a), touched := m.touched ||| bit (named E m x).1 } else { m with err := (named E m x).2.2 } := by simp [reachF, hop]
  rw [hR] at hK
  simp -implicitDefEqProofs only [go_sem, dnW_ite, go_sem_proc, natBeqc, q4, q5, Array.getElem?_push, hin]
  refine WP_call (index_ok (h.push (IB.cells 0 x.cs false)) x hx hb8 hok h0) fun v J1 hv => ?_
  obtain ⟨rfl, sh1, h1, u1⟩ := hv
  have hbx := u1.keep (push_get J _) (by have := lt_get hb; omega) (fun hm => by have := (h.2.2.low _ hm); omega)
  simp only [hcs] at hbx
  cases hn : (named E m x).2.1 with
  | false =>
   simp -implicitDefEqProofs only [go_sem, dnW_ite, go_sem_proc, hn]
   rw [hn] at hK
   exact hK _ _ (MOut.trans (.push _) ⟨sh1, h1, u1⟩)
  | true =>
   obtain ⟨ht, he⟩ := named_ok hn
   rw [he, e0] at h1
   have hb1 := h1.1
   simp -implicitDefEqProofs only [go_sem, dnW_ite, go_sem_proc, hn, hbx, hb1, b8 ha8, ld_r E m sh1 ha8]
   refine WP_call (store_ok h1 _ (m.r.at x.a) ht) fun v J2 hv => ?_
   simp -implicitDefEqProofs only [go_sem, dnW_ite, go_sem_proc]
   rw [hn] at hK
   exact hK _ _ (MOut.trans (.push _) (MOut.trans u1 hv))
 ·have q4 : (x.op == 4) = false := by simp [hop]
  have q5 : (x.op == 5) = false := by simp [hop]
  have q22 : (x.op == 22) = true := by simp [hop]
  have hR : reachF E m x = revealF E m x := by simp [reachF, hop]
  rw [hR] at hK
  simp -implicitDefEqProofs only [go_sem, dnW_ite, go_sem_proc, natBeqc, q4, q5, q22, Array.getElem?_push, hin]
  refine WP_call (reveal_ok (h.push (IB.cells 0 x.cs false)) x hx hb8 hok h0 hs) fun v J1 hv => ?_
  simp -implicitDefEqProofs only [go_sem, dnW_ite, go_sem_proc]
  exact hK _ _ (MOut.trans (.push _) hv)
 ·have q4 : (x.op == 4) = false := by simp [hop]
  have q5 : (x.op == 5) = false := by simp [hop]
  have q22 : (x.op == 22) = false := by simp [hop]
  have q24 : (x.op == 24) = true := by simp [hop]
  have hR : reachF E m x = shuffleF m x.n.toNat x.c := by simp [reachF, hop]
  rw [hR] at hK
  simp [Cd.right, hop, useOf] at hr
  obtain ⟨⟨⟨⟨_, hr1⟩, hr2⟩, hr3⟩, hr4⟩ := hr
  obtain ⟨w1, w2, w3, w4, w5, w6⟩ := hx
  have e1 : IntKind.i64.wrap x.n = (x.n.toNat : Int) := by rw [wrap_i64 (by omega) (by omega)]; omega
  have e2 : IntKind.i64.wrap (x.c : Int) = x.c := wrap_i64 (by omega) (by omega)
  simp -implicitDefEqProofs only [go_sem, dnW_ite, go_sem_proc, natBeqc, q4, q5, q22, q24, Array.getElem?_push, hin, e1, e2]
  refine WP_call (shuffle_ok (h.push (IB.cells 0 x.cs false)) x.n.toNat x.c hr1.1 (by omega)) fun v J1 hv => ?_
  simp -implicitDefEqProofs only [go_sem, dnW_ite, go_sem_proc]
  exact hK _ _ (MOut.trans (.push _) hv)
end Go.Proofs.Ytccbcbnglnloiaa.G
namespace Go.Proofs.Ytccbcbnglnloiaa.G
open Go
variable {E : Me} {J : JH} {b : Nat} {sh : IV} {m : Mc}
theorem pre_use {l : L} {ρ : List IV} {K : Out IV → JH → Prop} {C A B Y Z1 Z2 Z3 : IB} {m1 : Mc} (h : MAt E J b sh m) (hs : m1.shows = m.shows)
  (hk : ∀ J1, MAt E J1 b sh m1 → Upd b J sh J1 sh → J1[J.size]? = some C → J1[J.size + 1]? = some A → J1[J.size + 2]? = some B → J1[J.size + 3]? = some Y → WP (dn BI l ρ J1) K) :
  WP (dn BI l ρ (((((((((J.push C).setIfInBounds b (IB.cells 0 (mc E m1 sh) false)).push Z1).push Z2).push Z3).setIfInBounds (J.size + 1) A).setIfInBounds (J.size + 2) B).setIfInBounds (J.size + 3) Y))) K := by
 have hlt := lt_get h.1
 have hg : ∀ d, d < J.size → d ≠ b → ((((((((J.push C).setIfInBounds b (IB.cells 0 (mc E m1 sh) false)).push Z1).push Z2).push Z3).setIfInBounds (J.size + 1) A).setIfInBounds (J.size + 2) B).setIfInBounds (J.size + 3) Y)[d]? = J[d]? := by
  intro d hd hne
  simp only [Array.getElem?_setIfInBounds, Array.getElem?_push, Array.size_push, Array.size_setIfInBounds]
  rw [if_neg (by omega), if_neg (by omega), if_neg (by omega), if_neg (by omega), if_neg (by omega), if_neg (by omega), if_neg (fun e => hne e.symm), if_neg (by omega)]
 have hf : Fr J ((((((((J.push C).setIfInBounds b (IB.cells 0 (mc E m1 sh) false)).push Z1).push Z2).push Z3).setIfInBounds (J.size + 1) A).setIfInBounds (J.size + 2) B).setIfInBounds (J.size + 3) Y) [b] :=
  ⟨by simp; omega, fun d hd hn => hg d hd (by simpa using hn)⟩
 refine hk _ ⟨?_, h.2.1, ?_⟩ ⟨⟨hf.1, fun d hd hn => hf.2 d hd (by simp at hn ⊢; exact hn.1)⟩, fun c hc => .inl hc⟩ ?_ ?_ ?_ ?_
 ·simp only [Array.getElem?_setIfInBounds, Array.getElem?_push, Array.size_push, Array.size_setIfInBounds]
  rw [if_neg (by omega), if_neg (by omega), if_neg (by omega), if_neg (by omega), if_neg (by omega), if_neg (by omega), if_true, if_pos (by omega)]
 ·rw [hs]
  exact h.2.2.fr hf fun c hc hm => by simp at hm; exact h.2.1 (hm ▸ hc)
 ·simp only [Array.getElem?_setIfInBounds, Array.getElem?_push, Array.size_push, Array.size_setIfInBounds]
  rw [if_neg (by omega), if_neg (by omega), if_neg (by omega), if_neg (by omega), if_neg (by omega), if_neg (by omega), if_neg (by omega), if_true]
 ·simp [Array.size_push, Array.size_setIfInBounds]
 ·simp [Array.size_push, Array.size_setIfInBounds]
 ·simp [Array.size_push, Array.size_setIfInBounds]
def Mc.go (m : Mc) : Mc := { m with pc := m.pc + 1 }
def followF (E : Me) (m0 : Mc) (x : Cd) : Mc :=
 let m := m0.go
 match x.op with
 | 1 => { m with r := m.r.set x.a ⟨x.n, E.all⟩ }
 | 2 => { m with r := m.r.set x.a (m.bd.at x.n) }
 | 3 => { m with bd := m.bd.put x.n (m.r.at x.a), touched := m.touched ||| bit x.n }
 | 18 => { m with r := m.r.set x.a ⟨if (m.r.at x.a).v = 0 then (m.r.at (x.c % 8)).v else (m.r.at x.b).v, (m.r.at x.a).s &&& (m.r.at x.b).s &&& (m.r.at (x.c % 8)).s⟩ }
 | 19 => if within E.all (m.r.at x.a).s then (if (m.r.at x.a).v = 0 then { m with pc := x.n.toNat } else m) else { m with err := 8 }
 | 20 => { m with pc := x.n.toNat }
 | 21 => { m with r := m.r.set x.a ⟨E.moves.getD x.n.toNat 0, oneM x.n⟩ }
 | 23 => { m with dice := sn m.dice, r := m.r.set x.a ⟨below m.dice x.n, 0#32⟩ }
 | 25 => { m with r := m.r.set x.a ⟨w32 E.tick, E.all⟩ }
 | 4 | 5 | 22 | 24 => reachF E m x
 | op => { m with r := m.r.set x.a ⟨computeF op (m.r.at x.b).v (m.r.at (x.c % 8)).v, (m.r.at x.b).s &&& (m.r.at (x.c % 8)).s⟩ }
theorem MAt.setO {d : Nat} (h : MAt E J b sh m) (hb : d ≠ b) (hs : d ∉ blk sh) (X : IB) : MAt E (J.setIfInBounds d X) b sh m :=
 h.fr (Fr.set J X (S := [d]) (by simp)) (by simpa using fun e => hb e.symm) (fun c hc hm => by simp at hm; exact hs (hm ▸ hc))
theorem Upd.setO {d : Nat} {J1 : JH} {s s1 : IV} (h : Upd b J s J1 s1) (hd : J.size ≤ d) (X : IB) : Upd b J s (J1.setIfInBounds d X) s1 :=
 ⟨⟨by rw [Array.size_setIfInBounds]; exact h.1.1, fun c hc hn => by rw [Array.getElem?_setIfInBounds, if_neg (by omega)]; exact h.1.2 c hc hn⟩, h.2⟩
def dropO : Nat → L → L
 | 0, l => l
 | n + 1, .op _ k => dropO n k
 | _, l => l
theorem dropO_o (n : Nat) (p : SOp) (k : L) : dropO (n + 1) (o p k) = dropO n k := rfl
theorem dropO_om (n : Nat) (md : Md) (p : SOp) (k : L) : dropO (n + 1) (om md p k) = dropO n k := rfl
theorem dropO_oc (n : Nat) (g : Option (Operand × Bool)) (p : SOp) (md : Md) (chk : List (Option (Operand × Bool) × SOp)) (k : L) : dropO (n + 1) (oc g p md chk k) = dropO n k := rfl
theorem dropO_0 (l : L) : dropO 0 l = l := by cases l <;> rfl
def folRho (b k : Nat) (m : Mc) (x : Cd) : List IV := [IV.ptr b 0 0, x.e, IV.ptr k 0 0, IV.ptr b 0 0, IV.ptr b 0 118, nI m.pc, IV.sc (Value.int IntKind.i64 ((m.pc + 1 : Nat) : Int)),
    IV.ptr b 0 0, IV.ptr b 0 118, IV.tup [], IV.ptr k 0 1, IV.int IntKind.u8 (x.a : Int), IV.ptr b 0 0,
    IV.ptr b 0 102, IV.ptr b 0 (102 + x.a * 2), IV.agg [IV.int IntKind.i32 (m.r.at x.a).v, m32 (m.r.at x.a).s],
    IV.ptr k 0 2, IV.int IntKind.u8 (x.b : Int), IV.ptr b 0 0, IV.ptr b 0 102, IV.ptr b 0 (102 + x.b * 2),
    IV.agg [IV.int IntKind.i32 (m.r.at x.b).v, m32 (m.r.at x.b).s], IV.ptr k 0 3,
    IV.int IntKind.u8 (x.c : Int), IV.sc (Value.int IntKind.u8 ((x.c % 8 : Nat) : Int)), IV.ptr b 0 0, IV.ptr b 0 102,
    IV.ptr b 0 (102 + x.c % 8 * 2), IV.agg [IV.int IntKind.i32 (m.r.at (x.c % 8)).v, m32 (m.r.at (x.c % 8)).s],
    IV.ptr (k + 1) 0 0, IV.ptr (k + 2) 0 0, IV.ptr (k + 3) 0 0, IV.tup [],
    IV.tup [], IV.tup [], IV.ptr k 0 0, IV.int IntKind.u8 (x.op : Int),
    IV.sc (Value.bool (decide (x.op = 1)))]
structure Fol (E : Me) (b : Nat) (J : JH) (sh : IV) (m : Mc) (x : Cd) (J1 : JH) : Prop where
 at' : MAt E J1 b sh m.go
 upd : Upd b J sh J1 sh
 C : J1[J.size]? = some (IB.cells 0 x.cs false)
 A : J1[J.size + 1]? = some (IB.cells 0 [IV.int .i32 (m.r.at x.a).v, m32 (m.r.at x.a).s] false)
 B : J1[J.size + 2]? = some (IB.cells 0 [IV.int .i32 (m.r.at x.b).v, m32 (m.r.at x.b).s] false)
 Y : J1[J.size + 3]? = some (IB.cells 0 [IV.int .i32 (m.r.at (x.c % 8)).v, m32 (m.r.at (x.c % 8)).s] false)
theorem follow_pre (h : MAt E J b sh m) (x : Cd) (size : Nat) (hr : x.right size m.bd.l.length E.moves.length = true) (hpc : m.pc ≤ 1000) (K : Out IV → JH → Prop)
  (hk : ∀ J1, Fol E b J sh m x J1 → WP (dn BI (dropO 36 l_vm_machine_follow.body) (folRho b J.size m x) J1) K) : WP (dn BI l_vm_machine_follow.body [.ptr b 0 0, x.e] J) K := by
 have hb := h.1
 have hin := inb hb
 obtain ⟨hop25, ha8, hb8⟩ := right_ab hr
 have hc8 : x.c % 8 < 8 := by omega
 have hrem : Int.tmod (x.c : Int) 8 = ((x.c % 8 : Nat) : Int) := rfl
 unfold folRho at hk
 simp only [l_vm_machine_follow, dropO_o, dropO_om, dropO_oc, dropO_0] at hk
 unfold l_vm_machine_follow
 unfold Cd.e Cd.cs at *
 simp -implicitDefEqProofs only [go_sem, go_sem_proc, natBeqc, hb, Array.getElem?_push, Array.getElem?_setIfInBounds, hin, b8 ha8, b8 hb8, b8 hc8, ld_r E { m with pc := m.pc + 1 } sh ha8, ld_r E { m with pc := m.pc + 1 } sh hb8, ld_r E { m with pc := m.pc + 1 } sh hc8, hrem, wrapS (show m.pc < 1001 by omega) (by omega), natBeqD]
 refine pre_use (m1 := m.go) h rfl fun J1 h1 u1 hC hA hB hY => ?_
 exact hk J1 ⟨h1, u1, hC, hA, hB, hY⟩
end Go.Proofs.Ytccbcbnglnloiaa.G
namespace Go.Proofs.Ytccbcbnglnloiaa.G
open Go
variable {E : Me} {J : JH} {b : Nat} {sh : IV} {m : Mc}
theorem fol_1 (h : MAt E J b sh m) (x : Cd) (hx : x.wf) (size : Nat) (hr : x.right size m.bd.l.length E.moves.length = true) (hop : x.op = 1) {J1 : JH} (f : Fol E b J sh m x J1) (K : Out IV → JH → Prop)
  (hK : ∀ J', MOut E b J sh J' (followF E m x) → K (.ret []) J') : WP (dn BI (dropO 36 l_vm_machine_follow.body) (folRho b J.size m x) J1) K := by
 have hb := h.1
 have hin := inb hb
 obtain ⟨hop25, ha8, hb8⟩ := right_ab hr
 have hc8 : x.c % 8 < 8 := by omega
 have w := hx
 obtain ⟨w1, w2, w3, w4, w5, w6⟩ := hx
 obtain ⟨h1, u1, hC, hA, hB, hY⟩ := f
 have hb1 := h1.1
 have hin1 := inb hb1
 have iC := inb hC
 have iA := inb hA
 have iB := inb hB
 have iY := inb hY
 have tt : ∀ j, (x.op = j) = (1 = j) := fun j => by rw [hop]
 simp only [followF, hop] at hK
 simp only [Cd.right, hop, useOf, nOk] at hr
 simp at hr
 unfold folRho
 simp only [l_vm_machine_follow, dropO_o, dropO_om, dropO_oc, dropO_0]
 unfold Cd.e
 unfold Cd.cs at *
 simp -implicitDefEqProofs only [go_sem, dnW_ite, go_sem_proc, natBeqc, natBeqD, tt, hb1, hC, hA, hB, hY, Array.getElem?_setIfInBounds, Array.getElem?_push, hin, hin1, iC, iA, iB, iY, b8 ha8, st_r E m.go sh ha8]
 exact hK _ (MOut.trans u1 (MOut.set h1 _ rfl))
theorem fol_25 (h : MAt E J b sh m) (x : Cd) (hx : x.wf) (size : Nat) (hr : x.right size m.bd.l.length E.moves.length = true) (hop : x.op = 25) {J1 : JH} (f : Fol E b J sh m x J1) (K : Out IV → JH → Prop)
  (hK : ∀ J', MOut E b J sh J' (followF E m x) → K (.ret []) J') : WP (dn BI (dropO 36 l_vm_machine_follow.body) (folRho b J.size m x) J1) K := by
 have hb := h.1
 have hin := inb hb
 obtain ⟨hop25, ha8, hb8⟩ := right_ab hr
 have hc8 : x.c % 8 < 8 := by omega
 have w := hx
 obtain ⟨w1, w2, w3, w4, w5, w6⟩ := hx
 obtain ⟨h1, u1, hC, hA, hB, hY⟩ := f
 have hb1 := h1.1
 have hin1 := inb hb1
 have iC := inb hC
 have iA := inb hA
 have iB := inb hB
 have iY := inb hY
 have tt : ∀ j, (x.op = j) = (25 = j) := fun j => by rw [hop]
 simp only [followF, hop] at hK
 simp only [Cd.right, hop, useOf, nOk] at hr
 simp at hr
 unfold folRho
 simp only [l_vm_machine_follow, dropO_o, dropO_om, dropO_oc, dropO_0]
 unfold Cd.e
 unfold Cd.cs at *
 simp -implicitDefEqProofs only [go_sem, dnW_ite, go_sem_proc, natBeqc, natBeqD, tt, hb1, hC, hA, hB, hY, Array.getElem?_setIfInBounds, Array.getElem?_push, hin, hin1, iC, iA, iB, iY, b8 ha8, st_r E m.go sh ha8]
 exact hK _ (MOut.trans u1 (MOut.set h1 _ rfl))
theorem fol_2 (h : MAt E J b sh m) (x : Cd) (hx : x.wf) (size : Nat) (hr : x.right size m.bd.l.length E.moves.length = true) (hop : x.op = 2) {J1 : JH} (f : Fol E b J sh m x J1) (K : Out IV → JH → Prop)
  (hK : ∀ J', MOut E b J sh J' (followF E m x) → K (.ret []) J') : WP (dn BI (dropO 36 l_vm_machine_follow.body) (folRho b J.size m x) J1) K := by
 have hb := h.1
 have hin := inb hb
 obtain ⟨hop25, ha8, hb8⟩ := right_ab hr
 have hc8 : x.c % 8 < 8 := by omega
 have w := hx
 obtain ⟨w1, w2, w3, w4, w5, w6⟩ := hx
 obtain ⟨h1, u1, hC, hA, hB, hY⟩ := f
 have hb1 := h1.1
 have hin1 := inb hb1
 have iC := inb hC
 have iA := inb hA
 have iB := inb hB
 have iY := inb hY
 have tt : ∀ j, (x.op = j) = (2 = j) := fun j => by rw [hop]
 simp only [followF, hop] at hK
 simp only [Cd.right, hop, useOf, nOk] at hr
 simp at hr
 unfold folRho
 simp only [l_vm_machine_follow, dropO_o, dropO_om, dropO_oc, dropO_0]
 unfold Cd.e
 unfold Cd.cs at *
 have e1 : IntKind.i64.wrap x.n = x.n := wrap_i64 (by omega) (by omega)
 have hth : m.go.bd.there x.n = true := decide_eq_true hr.1.1.1.1
 simp -implicitDefEqProofs only [go_sem, dnW_ite, go_sem_proc, natBeqc, natBeqD, tt, hb1, hC, hA, hB, hY, Array.getElem?_setIfInBounds, Array.getElem?_push, hin, hin1, iC, iA, iB, iY, e1]
 refine WP_call (load_ok h1 x.a ha8 x.n hth) fun v J2 hv => ?_
 simp -implicitDefEqProofs only [go_sem, dnW_ite, go_sem_proc]
 exact hK _ (MOut.trans u1 hv)
theorem fol_3 (h : MAt E J b sh m) (x : Cd) (hx : x.wf) (size : Nat) (hr : x.right size m.bd.l.length E.moves.length = true) (hop : x.op = 3) {J1 : JH} (f : Fol E b J sh m x J1) (K : Out IV → JH → Prop)
  (hK : ∀ J', MOut E b J sh J' (followF E m x) → K (.ret []) J') : WP (dn BI (dropO 36 l_vm_machine_follow.body) (folRho b J.size m x) J1) K := by
 have hb := h.1
 have hin := inb hb
 obtain ⟨hop25, ha8, hb8⟩ := right_ab hr
 have hc8 : x.c % 8 < 8 := by omega
 have w := hx
 obtain ⟨w1, w2, w3, w4, w5, w6⟩ := hx
 obtain ⟨h1, u1, hC, hA, hB, hY⟩ := f
 have hb1 := h1.1
 have hin1 := inb hb1
 have iC := inb hC
 have iA := inb hA
 have iB := inb hB
 have iY := inb hY
 have tt : ∀ j, (x.op = j) = (3 = j) := fun j => by rw [hop]
 simp only [followF, hop] at hK
 simp only [Cd.right, hop, useOf, nOk] at hr
 simp at hr
 unfold folRho
 simp only [l_vm_machine_follow, dropO_o, dropO_om, dropO_oc, dropO_0]
 unfold Cd.e
 unfold Cd.cs at *
 have e1 : IntKind.i64.wrap x.n = x.n := wrap_i64 (by omega) (by omega)
 have hth : m.go.bd.there x.n = true := decide_eq_true hr.1.1.1.1
 simp -implicitDefEqProofs only [go_sem, dnW_ite, go_sem_proc, natBeqc, natBeqD, tt, hb1, hC, hA, hB, hY, Array.getElem?_setIfInBounds, Array.getElem?_push, hin, hin1, iC, iA, iB, iY, e1]
 refine WP_call (store_ok h1 x.n (m.r.at x.a) hth) fun v J2 hv => ?_
 simp -implicitDefEqProofs only [go_sem, dnW_ite, go_sem_proc]
 exact hK _ (MOut.trans u1 hv)
end Go.Proofs.Ytccbcbnglnloiaa.G
namespace Go.Proofs.Ytccbcbnglnloiaa.G
open Go
variable {E : Me} {J : JH} {b : Nat} {sh : IV} {m : Mc}
theorem fol_18 (h : MAt E J b sh m) (x : Cd) (hx : x.wf) (size : Nat) (hr : x.right size m.bd.l.length E.moves.length = true) (hop : x.op = 18) {J1 : JH} (f : Fol E b J sh m x J1) (K : Out IV → JH → Prop)
  (hK : ∀ J', MOut E b J sh J' (followF E m x) → K (.ret []) J') : WP (dn BI (dropO 36 l_vm_machine_follow.body) (folRho b J.size m x) J1) K := by
 have hb := h.1
 have hin := inb hb
 obtain ⟨hop25, ha8, hb8⟩ := right_ab hr
 have hc8 : x.c % 8 < 8 := by omega
 have w := hx
 obtain ⟨w1, w2, w3, w4, w5, w6⟩ := hx
 obtain ⟨h1, u1, hC, hA, hB, hY⟩ := f
 have hb1 := h1.1
 have hin1 := inb hb1
 have iC := inb hC
 have iA := inb hA
 have iB := inb hB
 have iY := inb hY
 have tt : ∀ j, (x.op = j) = (18 = j) := fun j => by rw [hop]
 simp only [followF, hop] at hK
 simp only [Cd.right, hop, useOf, nOk] at hr
 simp at hr
 unfold folRho
 simp only [l_vm_machine_follow, dropO_o, dropO_om, dropO_oc, dropO_0]
 unfold Cd.e
 unfold Cd.cs at *
 have hmeet := fun f s => Meet_ok (m.r.at x.a).s (.lst 1 f [m32 s, m32 (m.r.at (x.c % 8)).s]) [s, (m.r.at (x.c % 8)).s] .lst (by simp)
 simp only [List.foldl] at hmeet
 have e : m.go.r.at x.a = m.r.at x.a := rfl
 by_cases hz : (m.r.at x.a).v = 0
 ·have hz' : ((m.r.at x.a).v == 0) = true := by simp [hz]
  simp -implicitDefEqProofs only [go_sem, dnW_ite, go_sem_proc, natBeqc, natBeqD, tt, hb1, hC, hA, hB, hY, Array.getElem?_setIfInBounds, Array.getElem?_push, hin, hin1, iC, iA, iB, iY, hz', l_vm_machine_follow_k0, ipureL, ipure, grp, mkE, List.headD, b8 ha8, st_r E m.go sh ha8, dcp (hmeet _ _) rfl]
  rw [e, if_pos hz] at hK
  exact hK _ (MOut.trans (u1.setO (by omega) _) (MOut.set (h1.setO (d := J.size + 2) (by have := lt_get hb; omega) (fun hm => by have := h.2.2.low _ hm; omega) _) _ rfl))
 ·have hz' : ((m.r.at x.a).v == 0) = false := by simp [hz]
  simp -implicitDefEqProofs only [go_sem, dnW_ite, go_sem_proc, natBeqc, natBeqD, tt, hb1, hC, hA, hB, hY, Array.getElem?_setIfInBounds, Array.getElem?_push, hin, hin1, iC, iA, iB, iY, hz', l_vm_machine_follow_k0, ipureL, ipure, grp, mkE, List.headD, b8 ha8, st_r E m.go sh ha8, dcp (hmeet _ _) rfl]
  rw [e, if_neg hz] at hK
  exact hK _ (MOut.trans u1 (MOut.set h1 _ rfl))
theorem fol_19 (h : MAt E J b sh m) (x : Cd) (hx : x.wf) (size : Nat) (hr : x.right size m.bd.l.length E.moves.length = true) (he0 : m.err = 0) (hop : x.op = 19) {J1 : JH} (f : Fol E b J sh m x J1) (K : Out IV → JH → Prop)
  (hK : ∀ J', MOut E b J sh J' (followF E m x) → K (.ret []) J') : WP (dn BI (dropO 36 l_vm_machine_follow.body) (folRho b J.size m x) J1) K := by
 have hb := h.1
 have hin := inb hb
 obtain ⟨hop25, ha8, hb8⟩ := right_ab hr
 have hc8 : x.c % 8 < 8 := by omega
 have w := hx
 obtain ⟨w1, w2, w3, w4, w5, w6⟩ := hx
 obtain ⟨h1, u1, hC, hA, hB, hY⟩ := f
 have hb1 := h1.1
 have hin1 := inb hb1
 have iC := inb hC
 have iA := inb hA
 have iB := inb hB
 have iY := inb hY
 have tt : ∀ j, (x.op = j) = (19 = j) := fun j => by rw [hop]
 simp only [followF, hop] at hK
 simp only [Cd.right, hop, useOf, nOk] at hr
 simp at hr
 unfold folRho
 simp only [l_vm_machine_follow, dropO_o, dropO_om, dropO_oc, dropO_0]
 unfold Cd.e
 unfold Cd.cs at *
 have e1 : IntKind.i64.wrap x.n = (x.n.toNat : Int) := by rw [wrap_i64 (by omega) (by omega)]; omega
 simp -implicitDefEqProofs only [go_sem, dnW_ite, go_sem_proc, natBeqc, natBeqD, tt, hb1, hC, hA, hB, hY, Array.getElem?_setIfInBounds, Array.getElem?_push, hin, hin1, iC, iA, iB, iY]
 refine WP_call (open_ok h1 x.a ha8) fun v J2 hv => ?_
 obtain ⟨rfl, rfl⟩ := hv
 cases hw : within E.all (m.go.r.at x.a).s with
 | false =>
  rw [hw] at hK
  simp -implicitDefEqProofs only [go_sem, dnW_ite, go_sem_proc]
  refine WP_call (fail_ok h1 8) fun v J2 hv => ?_
  simp -implicitDefEqProofs only [go_sem, dnW_ite, go_sem_proc]
  rw [if_pos (show m.go.err = 0 from he0)] at hv
  exact hK _ (MOut.trans u1 hv)
 | true =>
  rw [hw] at hK
  have e : m.go.r.at x.a = m.r.at x.a := rfl
  by_cases hz : (m.r.at x.a).v = 0
  ·have hz' : ((m.r.at x.a).v == 0) = true := by simp [hz]
   rw [e, if_pos hz] at hK
   simp -implicitDefEqProofs only [go_sem, dnW_ite, go_sem_proc, natBeqc, natBeqD, tt, hb1, hC, hA, hB, hY, Array.getElem?_setIfInBounds, Array.getElem?_push, hin, hin1, iC, iA, iB, iY, hz', e1]
   exact hK _ (MOut.trans u1 (MOut.set h1 _ rfl))
  ·have hz' : ((m.r.at x.a).v == 0) = false := by simp [hz]
   rw [e, if_neg hz] at hK
   simp -implicitDefEqProofs only [go_sem, dnW_ite, go_sem_proc, natBeqc, natBeqD, tt, hb1, hC, hA, hB, hY, Array.getElem?_setIfInBounds, Array.getElem?_push, hin, hin1, iC, iA, iB, iY, hz']
   exact hK _ (MOut.trans u1 (MOut.refl h1))
theorem fol_20 (h : MAt E J b sh m) (x : Cd) (hx : x.wf) (size : Nat) (hr : x.right size m.bd.l.length E.moves.length = true) (hop : x.op = 20) {J1 : JH} (f : Fol E b J sh m x J1) (K : Out IV → JH → Prop)
  (hK : ∀ J', MOut E b J sh J' (followF E m x) → K (.ret []) J') : WP (dn BI (dropO 36 l_vm_machine_follow.body) (folRho b J.size m x) J1) K := by
 have hb := h.1
 have hin := inb hb
 obtain ⟨hop25, ha8, hb8⟩ := right_ab hr
 have hc8 : x.c % 8 < 8 := by omega
 have w := hx
 obtain ⟨w1, w2, w3, w4, w5, w6⟩ := hx
 obtain ⟨h1, u1, hC, hA, hB, hY⟩ := f
 have hb1 := h1.1
 have hin1 := inb hb1
 have iC := inb hC
 have iA := inb hA
 have iB := inb hB
 have iY := inb hY
 have tt : ∀ j, (x.op = j) = (20 = j) := fun j => by rw [hop]
 simp only [followF, hop] at hK
 simp only [Cd.right, hop, useOf, nOk] at hr
 simp at hr
 unfold folRho
 simp only [l_vm_machine_follow, dropO_o, dropO_om, dropO_oc, dropO_0]
 unfold Cd.e
 unfold Cd.cs at *
 have e1 : IntKind.i64.wrap x.n = (x.n.toNat : Int) := by rw [wrap_i64 (by omega) (by omega)]; omega
 simp -implicitDefEqProofs only [go_sem, dnW_ite, go_sem_proc, natBeqc, natBeqD, tt, hb1, hC, hA, hB, hY, Array.getElem?_setIfInBounds, Array.getElem?_push, hin, hin1, iC, iA, iB, iY, e1]
 exact hK _ (MOut.trans u1 (MOut.set h1 _ rfl))
end Go.Proofs.Ytccbcbnglnloiaa.G
namespace Go.Proofs.Ytccbcbnglnloiaa.G
open Go
variable {E : Me} {J : JH} {b : Nat} {sh : IV} {m : Mc}
theorem roll_ex (s n : Int) (h0 : 0 < n) (h1 : n < 4294967296) : ∃ bv sv : Int, bv = below s n ∧ sv = sn s ∧ 0 ≤ bv ∧ bv < n := ⟨_, _, rfl, rfl, below_rng s n h0 h1⟩
theorem fol_21 (h : MAt E J b sh m) (x : Cd) (hx : x.wf) (size : Nat) (hr : x.right size m.bd.l.length E.moves.length = true) (hE : E.ok) (hop : x.op = 21) {J1 : JH} (f : Fol E b J sh m x J1) (K : Out IV → JH → Prop)
  (hK : ∀ J', MOut E b J sh J' (followF E m x) → K (.ret []) J') : WP (dn BI (dropO 36 l_vm_machine_follow.body) (folRho b J.size m x) J1) K := by
 have hb := h.1
 have hin := inb hb
 obtain ⟨hop25, ha8, hb8⟩ := right_ab hr
 have hc8 : x.c % 8 < 8 := by omega
 have w := hx
 obtain ⟨w1, w2, w3, w4, w5, w6⟩ := hx
 obtain ⟨h1, u1, hC, hA, hB, hY⟩ := f
 have hb1 := h1.1
 have hin1 := inb hb1
 have iC := inb hC
 have iA := inb hA
 have iB := inb hB
 have iY := inb hY
 have tt : ∀ j, (x.op = j) = (21 = j) := fun j => by rw [hop]
 simp only [followF, hop] at hK
 simp only [Cd.right, hop, useOf, nOk] at hr
 simp at hr
 unfold folRho
 simp only [l_vm_machine_follow, dropO_o, dropO_om, dropO_oc, dropO_0]
 unfold Cd.e
 unfold Cd.cs at *
 have e1 : IntKind.i64.wrap x.n = x.n := wrap_i64 (by omega) (by omega)
 have hmv : ∀ J, iaddrF 1 E.mv (.int .i32 x.n) J = some (.rptr (.int .i32 (E.moves.getD x.n.toNat 0)) 0, J) := fun J => by
  have hl : x.n.toNat < E.moves.length := by omega
  obtain ⟨f, hf⟩ := hE.mv.get (i := x.n.toNat) (by simpa using hl)
  rw [hf, iaddrF_lst]
  simp [iasNat, asNat, hr.1.1.1.1.1, hl]
 have hof := fun f => Of_ok (.lst 1 f [.int .i64 x.n]) [x.n] .lst (by simp)
 simp only [List.foldl, BitVec.zero_or] at hof
 simp -implicitDefEqProofs only [go_sem, dnW_ite, go_sem_proc, natBeqc, natBeqD, tt, hb1, hC, hA, hB, hY, Array.getElem?_setIfInBounds, Array.getElem?_push, hin, hin1, iC, iA, iB, iY, hmv, e1, ipureL, ipure, grp, mkE, List.headD, b8 ha8, st_r E m.go sh ha8, dcp (hof _) rfl]
 exact hK _ (MOut.trans u1 (MOut.set h1 _ rfl))
theorem fol_23 (h : MAt E J b sh m) (x : Cd) (hx : x.wf) (size : Nat) (hr : x.right size m.bd.l.length E.moves.length = true) (hop : x.op = 23) {J1 : JH} (f : Fol E b J sh m x J1) (K : Out IV → JH → Prop)
  (hK : ∀ J', MOut E b J sh J' (followF E m x) → K (.ret []) J') : WP (dn BI (dropO 36 l_vm_machine_follow.body) (folRho b J.size m x) J1) K := by
 have hb := h.1
 have hin := inb hb
 obtain ⟨hop25, ha8, hb8⟩ := right_ab hr
 have hc8 : x.c % 8 < 8 := by omega
 have w := hx
 obtain ⟨w1, w2, w3, w4, w5, w6⟩ := hx
 obtain ⟨h1, u1, hC, hA, hB, hY⟩ := f
 have hb1 := h1.1
 have hin1 := inb hb1
 have iC := inb hC
 have iA := inb hA
 have iB := inb hB
 have iY := inb hY
 have tt : ∀ j, (x.op = j) = (23 = j) := fun j => by rw [hop]
 simp only [followF, hop] at hK
 simp only [Cd.right, hop, useOf, nOk] at hr
 simp at hr
 unfold folRho
 simp only [l_vm_machine_follow, dropO_o, dropO_om, dropO_oc, dropO_0]
 unfold Cd.e
 unfold Cd.cs at *
 have e1 : IntKind.u32.wrap x.n = x.n := wrap_u32 (by omega) (by omega)
 have hbl := Below_ok m.dice x.n
 have hgd : m.go.dice = m.dice := rfl
 rw [hgd] at hK
 obtain ⟨bv, sv, hbv, hsv, hb0, hb2⟩ := roll_ex m.dice x.n (by omega) (by omega)
 rw [← hbv, ← hsv] at hbl hK
 clear hbv hsv
 unfold dice at hbl
 have e2 : IntKind.i32.wrap bv = bv := wrap_i32 (by omega) (by omega)
 simp -implicitDefEqProofs only [go_sem, dnW_ite, go_sem_proc, natBeqc, natBeqD, tt, hb1, hC, hA, hB, hY, Array.getElem?_setIfInBounds, Array.getElem?_push, hin, hin1, iC, iA, iB, iY, hgd, e1, e2, b8 ha8, dcp hbl rfl]
 have e3 : isplice (mc E { m.go with dice := sv } sh) (102 + x.a * 2) [IV.int .i32 bv, IV.sc (.int .u32 0)] = _ := st_r E { m.go with dice := sv } sh ha8 bv 0#32
 rw [e3]
 exact hK _ (MOut.trans u1 (MOut.set h1 _ rfl))
end Go.Proofs.Ytccbcbnglnloiaa.G
namespace Go.Proofs.Ytccbcbnglnloiaa.G
open Go
variable {E : Me} {J : JH} {b : Nat} {sh : IV} {m : Mc}
theorem fol_4 (h : MAt E J b sh m) (x : Cd) (hx : x.wf) (size : Nat) (hr : x.right size m.bd.l.length E.moves.length = true) (he0 : m.err = 0) (hok : m.r.ok) (hs : m.shows.length ≤ 1000) (hop : x.op = 4) {J1 : JH} (f : Fol E b J sh m x J1) (K : Out IV → JH → Prop)
  (hK : ∀ J', MOut E b J sh J' (followF E m x) → K (.ret []) J') : WP (dn BI (dropO 36 l_vm_machine_follow.body) (folRho b J.size m x) J1) K := by
 have hb := h.1
 have hin := inb hb
 obtain ⟨hop25, ha8, hb8⟩ := right_ab hr
 have hc8 : x.c % 8 < 8 := by omega
 have w := hx
 obtain ⟨w1, w2, w3, w4, w5, w6⟩ := hx
 obtain ⟨h1, u1, hC, hA, hB, hY⟩ := f
 have hb1 := h1.1
 have hin1 := inb hb1
 have iC := inb hC
 have iA := inb hA
 have iB := inb hB
 have iY := inb hY
 have tt : ∀ j, (x.op = j) = (4 = j) := fun j => by rw [hop]
 simp only [followF, hop] at hK
 have hr0 := hr
 simp only [Cd.right, hop, useOf, nOk] at hr
 simp at hr
 unfold folRho
 simp only [l_vm_machine_follow, dropO_o, dropO_om, dropO_oc, dropO_0]
 unfold Cd.e
 unfold Cd.cs at *
 simp -implicitDefEqProofs only [go_sem, dnW_ite, go_sem_proc, natBeqc, natBeqD, tt, hb1, hC, hA, hB, hY, Array.getElem?_setIfInBounds, Array.getElem?_push, hin, hin1, iC, iA, iB, iY, l_vm_machine_follow_k1]
 refine WP_call (reach_ok h1 x w size hr0 hok he0 hs (by omega)) fun v J2 hv => ?_
 simp -implicitDefEqProofs only [go_sem, dnW_ite, go_sem_proc]
 exact hK _ (MOut.trans u1 hv)
theorem fol_5 (h : MAt E J b sh m) (x : Cd) (hx : x.wf) (size : Nat) (hr : x.right size m.bd.l.length E.moves.length = true) (he0 : m.err = 0) (hok : m.r.ok) (hs : m.shows.length ≤ 1000) (hop : x.op = 5) {J1 : JH} (f : Fol E b J sh m x J1) (K : Out IV → JH → Prop)
  (hK : ∀ J', MOut E b J sh J' (followF E m x) → K (.ret []) J') : WP (dn BI (dropO 36 l_vm_machine_follow.body) (folRho b J.size m x) J1) K := by
 have hb := h.1
 have hin := inb hb
 obtain ⟨hop25, ha8, hb8⟩ := right_ab hr
 have hc8 : x.c % 8 < 8 := by omega
 have w := hx
 obtain ⟨w1, w2, w3, w4, w5, w6⟩ := hx
 obtain ⟨h1, u1, hC, hA, hB, hY⟩ := f
 have hb1 := h1.1
 have hin1 := inb hb1
 have iC := inb hC
 have iA := inb hA
 have iB := inb hB
 have iY := inb hY
 have tt : ∀ j, (x.op = j) = (5 = j) := fun j => by rw [hop]
 simp only [followF, hop] at hK
 have hr0 := hr
 simp only [Cd.right, hop, useOf, nOk] at hr
 simp at hr
 unfold folRho
 simp only [l_vm_machine_follow, dropO_o, dropO_om, dropO_oc, dropO_0]
 unfold Cd.e
 unfold Cd.cs at *
 simp -implicitDefEqProofs only [go_sem, dnW_ite, go_sem_proc, natBeqc, natBeqD, tt, hb1, hC, hA, hB, hY, Array.getElem?_setIfInBounds, Array.getElem?_push, hin, hin1, iC, iA, iB, iY, l_vm_machine_follow_k1]
 refine WP_call (reach_ok h1 x w size hr0 hok he0 hs (by omega)) fun v J2 hv => ?_
 simp -implicitDefEqProofs only [go_sem, dnW_ite, go_sem_proc]
 exact hK _ (MOut.trans u1 hv)
theorem fol_22 (h : MAt E J b sh m) (x : Cd) (hx : x.wf) (size : Nat) (hr : x.right size m.bd.l.length E.moves.length = true) (he0 : m.err = 0) (hok : m.r.ok) (hs : m.shows.length ≤ 1000) (hop : x.op = 22) {J1 : JH} (f : Fol E b J sh m x J1) (K : Out IV → JH → Prop)
  (hK : ∀ J', MOut E b J sh J' (followF E m x) → K (.ret []) J') : WP (dn BI (dropO 36 l_vm_machine_follow.body) (folRho b J.size m x) J1) K := by
 have hb := h.1
 have hin := inb hb
 obtain ⟨hop25, ha8, hb8⟩ := right_ab hr
 have hc8 : x.c % 8 < 8 := by omega
 have w := hx
 obtain ⟨w1, w2, w3, w4, w5, w6⟩ := hx
 obtain ⟨h1, u1, hC, hA, hB, hY⟩ := f
 have hb1 := h1.1
 have hin1 := inb hb1
 have iC := inb hC
 have iA := inb hA
 have iB := inb hB
 have iY := inb hY
 have tt : ∀ j, (x.op = j) = (22 = j) := fun j => by rw [hop]
 simp only [followF, hop] at hK
 have hr0 := hr
 simp only [Cd.right, hop, useOf, nOk] at hr
 simp at hr
 unfold folRho
 simp only [l_vm_machine_follow, dropO_o, dropO_om, dropO_oc, dropO_0]
 unfold Cd.e
 unfold Cd.cs at *
 simp -implicitDefEqProofs only [go_sem, dnW_ite, go_sem_proc, natBeqc, natBeqD, tt, hb1, hC, hA, hB, hY, Array.getElem?_setIfInBounds, Array.getElem?_push, hin, hin1, iC, iA, iB, iY, l_vm_machine_follow_k1]
 refine WP_call (reach_ok h1 x w size hr0 hok he0 hs (by omega)) fun v J2 hv => ?_
 simp -implicitDefEqProofs only [go_sem, dnW_ite, go_sem_proc]
 exact hK _ (MOut.trans u1 hv)
theorem fol_24 (h : MAt E J b sh m) (x : Cd) (hx : x.wf) (size : Nat) (hr : x.right size m.bd.l.length E.moves.length = true) (he0 : m.err = 0) (hok : m.r.ok) (hs : m.shows.length ≤ 1000) (hop : x.op = 24) {J1 : JH} (f : Fol E b J sh m x J1) (K : Out IV → JH → Prop)
  (hK : ∀ J', MOut E b J sh J' (followF E m x) → K (.ret []) J') : WP (dn BI (dropO 36 l_vm_machine_follow.body) (folRho b J.size m x) J1) K := by
 have hb := h.1
 have hin := inb hb
 obtain ⟨hop25, ha8, hb8⟩ := right_ab hr
 have hc8 : x.c % 8 < 8 := by omega
 have w := hx
 obtain ⟨w1, w2, w3, w4, w5, w6⟩ := hx
 obtain ⟨h1, u1, hC, hA, hB, hY⟩ := f
 have hb1 := h1.1
 have hin1 := inb hb1
 have iC := inb hC
 have iA := inb hA
 have iB := inb hB
 have iY := inb hY
 have tt : ∀ j, (x.op = j) = (24 = j) := fun j => by rw [hop]
 simp only [followF, hop] at hK
 have hr0 := hr
 simp only [Cd.right, hop, useOf, nOk] at hr
 simp at hr
 unfold folRho
 simp only [l_vm_machine_follow, dropO_o, dropO_om, dropO_oc, dropO_0]
 unfold Cd.e
 unfold Cd.cs at *
 simp -implicitDefEqProofs only [go_sem, dnW_ite, go_sem_proc, natBeqc, natBeqD, tt, hb1, hC, hA, hB, hY, Array.getElem?_setIfInBounds, Array.getElem?_push, hin, hin1, iC, iA, iB, iY, l_vm_machine_follow_k1]
 refine WP_call (reach_ok h1 x w size hr0 hok he0 hs (by omega)) fun v J2 hv => ?_
 simp -implicitDefEqProofs only [go_sem, dnW_ite, go_sem_proc]
 exact hK _ (MOut.trans u1 hv)
end Go.Proofs.Ytccbcbnglnloiaa.G
namespace Go.Proofs.Ytccbcbnglnloiaa.G
open Go
variable {E : Me} {J : JH} {b : Nat} {sh : IV} {m : Mc}
theorem fol_c (h : MAt E J b sh m) (x : Cd) (hx : x.wf) (size : Nat) (hr : x.right size m.bd.l.length E.moves.length = true) (hop : 6 ≤ x.op ∧ x.op ≤ 17) {J1 : JH} (f : Fol E b J sh m x J1) (K : Out IV → JH → Prop)
  (hK : ∀ J', MOut E b J sh J' (followF E m x) → K (.ret []) J') : WP (dn BI (dropO 36 l_vm_machine_follow.body) (folRho b J.size m x) J1) K := by
 have hb := h.1
 have hin := inb hb
 obtain ⟨hop25, ha8, hb8⟩ := right_ab hr
 have hc8 : x.c % 8 < 8 := by omega
 obtain ⟨w1, w2, w3, w4, w5, w6⟩ := hx
 obtain ⟨h1, u1, hC, hA, hB, hY⟩ := f
 have hb1 := h1.1
 have hin1 := inb hb1
 have iC := inb hC
 have iA := inb hA
 have iB := inb hB
 have iY := inb hY
 have hF : followF E m x = { m.go with r := m.go.r.set x.a ⟨computeF x.op (m.r.at x.b).v (m.r.at (x.c % 8)).v, (m.r.at x.b).s &&& (m.r.at (x.c % 8)).s⟩ } := by
  obtain ⟨o1, o2⟩ := hop
  unfold followF
  generalize hq : x.op = q at *
  clear hop25 w1
  split <;> first | (exfalso; omega) | rfl
 rw [hF] at hK
 have tt : ∀ j, (j < 6 ∨ 17 < j) → (x.op = j) = False := fun j hj => by simp; omega
 have t := fun j hj => tt j (by simpa using hj)
 unfold folRho
 simp only [l_vm_machine_follow, dropO_o, dropO_om, dropO_oc, dropO_0]
 unfold Cd.e
 unfold Cd.cs at *
 have hcm := Compute_ok x.op (by omega) (m.r.at x.b).v (m.r.at (x.c % 8)).v
 have hmd : BI.md F_vm_Compute = .pure := rfl
 have hmeet := fun f => Meet_ok (m.r.at x.b).s (.lst 1 f [m32 (m.r.at (x.c % 8)).s]) [(m.r.at (x.c % 8)).s] .lst (by simp)
 simp only [List.foldl] at hmeet
 have tl := And.intro (tt 1 (by omega)) (And.intro (tt 25 (by omega)) (And.intro (tt 2 (by omega)) (And.intro (tt 3 (by omega)) (And.intro (tt 18 (by omega)) (And.intro (tt 19 (by omega)) (And.intro (tt 20 (by omega)) (And.intro (tt 21 (by omega)) (And.intro (tt 23 (by omega)) (And.intro (tt 4 (by omega)) (And.intro (tt 5 (by omega)) (And.intro (tt 22 (by omega)) (tt 24 (by omega)))))))))))))
 simp -implicitDefEqProofs only [go_sem, dnW_ite, go_sem_proc, natBeqc, natBeqD, tl, hb1, hC, hA, hB, hY, Array.getElem?_setIfInBounds, Array.getElem?_push, hin, hin1, iC, iA, iB, iY, l_vm_machine_follow_k1, ipureL, ipure, grp, mkE, List.headD, b8 ha8, st_r E m.go sh ha8, hmd, dcp hcm rfl, dcp (hmeet _) rfl]
 exact hK _ (MOut.trans u1 (MOut.set h1 _ rfl))
end Go.Proofs.Ytccbcbnglnloiaa.G
