/- Joined: Q5 to V3. -/
import Derived.Test.YticfcmaigffhmaaGreatXE
import Derived.KernelRfl
set_option linter.unusedVariables false
set_option linter.unusedSimpArgs false
set_option maxRecDepth 20000
set_option maxHeartbeats 2000000
namespace Go.Proofs.YticfcmaigffhmaaGreat.G
open Go
theorem evI_int {ρ : List IV} {k : IntKind} {n : Int} : evI ρ (.const (.int k n)) = .int k n := rfl
theorem evI_bool {ρ : List IV} {b : Bool} : evI ρ (.const (.bool b)) = .bool b := rfl
theorem evI_nilsl {ρ : List IV} : evI ρ (.const (.slice none 0 0)) = .sc (.slice none 0 0) := rfl
theorem evI_nilp {ρ : List IV} : evI ρ (.const (.pointer none)) = .sc (.pointer none) := rfl
theorem BI_zc (t : TypeId) : BI.zc t = zcT t := rfl
theorem BI_zv (t : TypeId) : BI.zv t = zvT t := rfl
theorem BI_co (t : TypeId) : BI.co t = coT t := rfl
theorem dcp {f : FuncId} {args : List IV} {u : IV} {J : JH} (hp : pc BI f args = some u) (h : ipureL args = true) : doCall (ic BI) .pure f args J = some (u, J) := doCall_pure h hp
theorem dcr {f : FuncId} {args : List IV} {r : IV × JH} {J : JH} (hp : ic BI f args J = some r) : doCall (ic BI) .raw f args J = some r := hp
theorem agg_pure {cs : List IV} : ipure (.agg cs) = ipureL cs := by simp only [ipure]
def endP (r : Option (Out IV × JH)) : Option IV := match r with | some (.ret vs, J) => frz J DEP (itup vs) | _ => none
theorem endP_ret {vs : List IV} {J : JH} : endP (some (.ret vs, J)) = frz J DEP (itup vs) := rfl
theorem endP_ite {c : Prop} [Decidable c] {a b : Option (Out IV × JH)} : endP (if c then a else b) = if c then endP a else endP b := by split <;> rfl
theorem pc_run {f : FuncId} {l : LFn} {args : List IV} {u : IV} (hf : BI.fn f = some l) (hl : args.length = l.np) (h : endP (dn BI l.body args #[]) = some u) : pc BI f args = some u := by
 unfold endP at h
 split at h
 ·rename_i vs J hd
  exact pc_intro (gv_none hf) hf hl hd h
 ·simp at h
theorem ic_run {f : FuncId} {l : LFn} {args : List IV} {vs : List IV} {J J' : JH} (hf : BI.fn f = some l) (hl : args.length = l.np) (h : dn BI l.body args J = some (.ret vs, J')) : ic BI f args J = some (itup vs, J') := ic_intro (gv_none hf) hf hl h
theorem frzP {J : JH} {v : IV} (h : ipure v = true) : frz J DEP v = some v := frz_pure J DEP h
theorem onJoin_out {l j : Nat} {vs : List IV} {J : JH} {k : List IV → JH → Option (Out IV × JH)} : onJoin l (some (.goto j vs, J)) k = if j = l then k vs J else some (.goto j vs, J) := rfl
theorem isplice_cons (a : IV) (cs : List IV) (off : Nat) (vs : List IV) : isplice (a :: cs) off vs = (a :: cs).take off ++ vs ++ (a :: cs).drop (off + vs.length) := rfl
theorem isplice_set {cs : List IV} {i : Nat} {v : IV} (h : i < cs.length) : isplice cs i [v] = cs.set i v := by
 unfold isplice
 rw [List.set_eq_take_append_cons_drop, if_pos h]
 simp
theorem isplice_ints {κ : IntKind} {ys : List Int} {i : Nat} {x : Int} (h : i < ys.length) : isplice (ys.map (IV.int κ)) i [IV.int κ x] = (ys.set i x).map (IV.int κ) := by
 rw [isplice_set (by simpa using h), List.map_set]
theorem take1 {α : Type} {l : List α} {i : Nat} (h : i < l.length) : (l.drop i).take 1 = [l[i]] := by
 rw [List.drop_eq_getElem_cons h]; rfl
theorem take1_ints {κ : IntKind} {ys : List Int} {i : Nat} (h : i < ys.length) : ((ys.map (IV.int κ)).drop i).take 1 = [IV.int κ (ys.getD i 0)] := by
 rw [take1 (by simpa using h)]; simp [h]
theorem ints_ione {κ : IntKind} {ys : List Int} : (ys.map (IV.int κ)).all ione = true := by simp [ione, one]
theorem ints_pure {κ : IntKind} {ys : List Int} : ipureL (ys.map (IV.int κ)) = true := ipureL_iff.2 fun x hx => by
 obtain ⟨y, _, rfl⟩ := List.mem_map.1 hx; rfl
theorem ints_cells {κ : IntKind} (ys : List Int) : (ys.map (IV.int κ)).flatMap icells = ys.map (IV.int κ) := by
 induction ys with
 | nil => rfl
 | cons y ys ih => simp only [List.map_cons, List.flatMap_cons, icells, ih]; rfl
theorem grp1 : ∀ (l : List IV), grp 1 l.length l = l
 | [] => rfl
 | x :: l => by simp [grp, mkE, grp1 l]
theorem wrap_i64 {x : Int} (h0 : -9223372036854775808 ≤ x) (h1 : x ≤ 9223372036854775807) : IntKind.i64.wrap x = x := by
 simp only [IntKind.wrap, IntKind.bits, IntKind.signed, if_true]
 simp
 omega
theorem wrap_i32 {x : Int} (h0 : -2147483648 ≤ x) (h1 : x ≤ 2147483647) : IntKind.i32.wrap x = x := by
 simp only [IntKind.wrap, IntKind.bits, IntKind.signed, if_true]
 simp
 omega
theorem wrap_u32 {x : Int} (h0 : 0 ≤ x) (h1 : x < 4294967296) : IntKind.u32.wrap x = x := by
 simp only [IntKind.wrap, IntKind.bits, IntKind.signed]
 simp
 omega
theorem wrap_u64 {x : Int} (h0 : 0 ≤ x) (h1 : x < 18446744073709551616) : IntKind.u64.wrap x = x := by
 simp only [IntKind.wrap, IntKind.bits, IntKind.signed]
 simp
 omega
theorem u32_rng (x : Int) : 0 ≤ IntKind.u32.wrap x ∧ IntKind.u32.wrap x < 4294967296 := by
 simp only [IntKind.wrap, IntKind.bits, IntKind.signed]
 simp
 omega
theorem UNK_pos : (0 < UNK) = True := by simp [UNK]
theorem one_lt_UNK : (1 < UNK) = True := by simp [UNK]
theorem lt_UNK {n : Nat} (h : n ≤ 1000000) : (n < UNK) = True := by simp [UNK]; omega
theorem not_UNK_le {n : Nat} (h : n ≤ 1000000) : (UNK ≤ n) = False := by simp [UNK]; omega
theorem frz12 : DEP = 11 + 1 := rfl
theorem frz_sl {J : JH} {k b v off n cap sz : Nat} {cs : List IV} (hsz : 0 < sz) (h : ird J b v off (n * sz) = some cs) (hp : ipureL cs = true) (ho : cs.all ione = true) : frz J (k + 1) (.sl b v off n cap sz) = some (.lst sz (n == cap && decide (cap < UNK)) (grp sz n cs)) := by
 simp only [frz, ipure, Bool.false_eq_true, if_false]
 rw [if_neg (by omega), h]
 simp only [frzL_pure J k hp, ho, if_true]
theorem frz_tup {J : JH} {k : Nat} {vs : List IV} (h : ipureL vs = false) : frz J (k + 1) (.tup vs) = (vs.mapM (frz J k)).map .tup := by
 simp only [frz, ipure, h, Bool.false_eq_true, if_false]
theorem frz_agg {J : JH} {k : Nat} {vs : List IV} (h : ipureL vs = false) : frz J (k + 1) (.agg vs) = (vs.mapM (frz J k)).map .agg := by
 simp only [frz, ipure, h, Bool.false_eq_true, if_false]
theorem dcf {f : FuncId} {args as : List IV} {u : IV} {J : JH} (ha : args.mapM (frz J DEP) = some as) (hp : pc BI f as = some u) : doCall (ic BI) .pure f args J = some (u, if iscal u then J else markA J (args.flatMap (shows J DEP))) := by
 unfold pc at hp
 simp only [doCall, ha]
 split at hp
 ·rename_i v J1 hc
  simp only [hc, hp]
 ·simp at hp
theorem shows_sl {J : JH} {k b v off n cap sz : Nat} {cs : List IV} (h : ird J b v off (n * sz) = some cs) (hp : ipureL cs = true) : shows J (k + 1) (.sl b v off n cap sz) = [b] := by
 simp only [shows, ipure, Bool.false_eq_true, if_false, h, showsL_pure J k hp]
def WP (r : Option (Out IV × JH)) (P : Out IV → JH → Prop) : Prop := match r with | some (o, J) => P o J | none => False
def RP (r : Option (IV × JH)) (P : IV → JH → Prop) : Prop := match r with | some (v, J) => P v J | none => False
def byOut (G : Nat → List IV → JH → Prop) (R : List IV → JH → Prop) (o : Out IV) (J : JH) : Prop := match o with | .goto j vs => G j vs J | .ret vs => R vs J
theorem byOut_goto {G R j vs J} : byOut G R (.goto j vs) J = G j vs J := rfl
theorem byOut_ret {G R vs J} : byOut G R (.ret vs) J = R vs J := rfl
theorem WP_some {o : Out IV} {J : JH} {P} : WP (some (o, J)) P = P o J := rfl
theorem RP_some {v : IV} {J : JH} {P} : RP (some (v, J)) P = P v J := rfl
theorem WP_ite {c : Prop} [Decidable c] {a b : Option (Out IV × JH)} {P} : WP (if c then a else b) P = if c then WP a P else WP b P := by split <;> rfl
theorem WP_of {r : Option (Out IV × JH)} {P} (h : WP r P) : ∃ o J, r = some (o, J) ∧ P o J := by
 cases r with
 | none => exact h.elim
 | some q => exact ⟨q.1, q.2, rfl, h⟩
theorem RP_of {r : Option (IV × JH)} {P} (h : RP r P) : ∃ v J, r = some (v, J) ∧ P v J := by
 cases r with
 | none => exact h.elim
 | some q => exact ⟨q.1, q.2, rfl, h⟩
theorem RP_mono {r : Option (IV × JH)} {P Q : IV → JH → Prop} (h : RP r P) (hq : ∀ o J, P o J → Q o J) : RP r Q := by
 cases r with
 | none => exact h.elim
 | some q => exact hq _ _ h
noncomputable def thenD (r : Option (IV × JH)) (k : L) (ρ : List IV) : Option (Out IV × JH) := thenI r fun v J' => dn BI k (ρ ++ [v]) J'
noncomputable def onJoinD (l : Nat) (r : Option (Out IV × JH)) (b : L) : Option (Out IV × JH) := onJoin l r fun vs J => dn BI b vs J
noncomputable def onIfD (v : IV) (a b : L) (ρ : List IV) (J : JH) : Option (Out IV × JH) := onIf v (dn BI a ρ J) (dn BI b ρ J)
section
variable {ρ : List IV} {J : JH} {p : SOp} {k : L} {md : Md}
theorem dnW_o : dn BI (o p k) ρ J = thenD (iexec BI (ic BI) .raw ρ p J) k ρ := dn_o
theorem dnW_om : dn BI (om md p k) ρ J = thenD (iexec BI (ic BI) md ρ p J) k ρ := dn_om
theorem dnW_oc {g : Option (Operand × Bool)} {chk} : dn BI (oc g p md chk k) ρ J = thenD (stepI' BI (ic BI) ρ ⟨g, p, md, chk⟩ J) k ρ := dn_oc
theorem dnW_ite {c : Operand} {a b : L} : dn BI (.ite c a b) ρ J = onIfD (evI ρ c) a b ρ J := dn_ite
theorem dnW_join {l : Nat} {a b : L} : dn BI (.join l a b) ρ J = onJoinD l (dn BI a ρ J) b := dn_join
theorem thenD_some {v : IV} : thenD (some (v, J)) k ρ = dn BI k (ρ ++ [v]) J := rfl
theorem thenD_ite {c : Prop} [Decidable c] {a b : Option (IV × JH)} : thenD (if c then a else b) k ρ = if c then thenD a k ρ else thenD b k ρ := by split <;> rfl
theorem onIfD_bool {t : Bool} {a b : L} : onIfD (.sc (.bool t)) a b ρ J = if t = true then dn BI a ρ J else dn BI b ρ J := rfl
theorem onJoinD_out {l j : Nat} {vs : List IV} {b : L} : onJoinD l (some (.goto j vs, J)) b = if j = l then dn BI b vs J else some (.goto j vs, J) := rfl
theorem onJoinD_ret {l : Nat} {vs : List IV} {b : L} : onJoinD l (some (.ret vs, J)) b = some (.ret vs, J) := rfl
theorem onJoinD_ite {l : Nat} {c : Prop} [Decidable c] {a a' : Option (Out IV × JH)} {b : L} : onJoinD l (if c then a else a') b = if c then onJoinD l a b else onJoinD l a' b := by split <;> rfl
end
theorem WP_join {l : Nat} {r : Option (Out IV × JH)} {b : L} {K : Out IV → JH → Prop}
  (h : ∀ K' : Out IV → JH → Prop, (∀ vs J, WP (dn BI b vs J) K → K' (.goto l vs) J) → (∀ j vs J, j ≠ l → K (.goto j vs) J → K' (.goto j vs) J) → (∀ vs J, K (.ret vs) J → K' (.ret vs) J) → WP r K') : WP (onJoinD l r b) K := by
 have h1 := h (fun o J => byOut (fun j vs J => if j = l then WP (dn BI b vs J) K else K (.goto j vs) J) (fun vs J => K (.ret vs) J) o J) (fun vs J h => by simpa [byOut] using h) (fun j vs J hj h => by simpa [byOut, hj] using h) (fun vs J h => h)
 cases r with
 | none => exact h1.elim
 | some q =>
  obtain ⟨o, J⟩ := q
  cases o with
  | goto j vs =>
   simp only [WP_some, byOut_goto] at h1
   simp only [onJoinD, onJoin]
   split at h1
   ·rename_i hj; rw [if_pos hj]; exact h1
   ·rename_i hj; rw [if_neg hj]; exact h1
  | ret vs => exact h1
theorem WP_iter {f : List IV → JH → Option (Out IV × JH)} {l : Nat} {K : Out IV → JH → Prop} (I : Nat → List IV → JH → Prop)
  (hs : ∀ n vs J, I n vs J → ∀ K' : Out IV → JH → Prop, (∀ ws m J', m < n → I m ws J' → K' (.goto l ws) J') → (∀ j ws J', j ≠ l → K (.goto j ws) J' → K' (.goto j ws) J') → (∀ ws J', K (.ret ws) J' → K' (.ret ws) J') → WP (f vs J) K') :
  ∀ n vs J, I n vs J → WP (iter f l vs J) K := by
 intro n
 induction n using Nat.strongRecOn with
 | ind n ih =>
  intro vs J hI
  have h := hs n vs J hI (fun o J' => byOut (fun j ws J' => if j = l then ∃ m, m < n ∧ I m ws J' else K (.goto j ws) J') (fun ws J' => K (.ret ws) J') o J') (fun ws m J' hm hi => by simp only [byOut, if_true]; exact ⟨m, hm, hi⟩) (fun j ws J' hj hk => by simp only [byOut, if_neg hj]; exact hk) (fun ws J' h => h)
  obtain ⟨o, J', hf, hp⟩ := WP_of h
  cases o with
  | goto j ws =>
   simp only [byOut_goto] at hp
   split at hp
   ·rename_i hj
    subst hj
    obtain ⟨m, hm, hi⟩ := hp
    obtain ⟨o2, J2, h2, p2⟩ := WP_of (ih m hm ws J' hi)
    rw [iter_step hf h2]
    exact p2
   ·rename_i hj
    rw [iter_out hf hj]
    exact hp
  | ret ws =>
   rw [iter_ret hf]
   exact hp
theorem WP_loop {f : List IV → JH → Option (Out IV × JH)} {l0 l1 : Nat} {b : L} {K : Out IV → JH → Prop} (hne : l0 ≠ l1) (I : Nat → List IV → JH → Prop)
  (hs : ∀ n vs J, I n vs J → ∀ K' : Out IV → JH → Prop, (∀ ws m J', m < n → I m ws J' → K' (.goto l1 ws) J') → (∀ ws J', WP (dn BI b ws J') K → K' (.goto l0 ws) J') → (∀ ws J', K (.ret ws) J' → K' (.ret ws) J') → WP (f vs J) K') :
  ∀ n vs J, I n vs J → WP (onJoinD l0 (iter f l1 vs J) b) K := fun n vs J hI =>
 WP_join fun K1 g1 _ g3 => WP_iter I (fun n vs J hI K' k1 k2 k3 => hs n vs J hI K' k1 (fun ws J' h => k2 l0 ws J' hne (g1 ws J' h)) (fun ws J' h => k3 ws J' (g3 ws J' h))) n vs J hI
theorem RP_run {f : FuncId} {l : LFn} {args : List IV} {J : JH} {P} (hf : BI.fn f = some l) (hl : args.length = l.np) (h : ∀ K : Out IV → JH → Prop, (∀ vs J', P (itup vs) J' → K (.ret vs) J') → WP (dn BI l.body args J) K) : RP (ic BI f args J) P := by
 obtain ⟨o, J', hd, hp⟩ := WP_of (h (fun o J' => byOut (fun _ _ _ => False) (fun vs J' => P (itup vs) J') o J') (fun vs J' h => h))
 cases o with
 | goto j ws => exact hp.elim
 | ret vs => rw [ic_run hf hl hd]; exact hp
theorem WP_bind {r : Option (IV × JH)} {k : L} {ρ : List IV} {P Q} (h : RP r Q) (hk : ∀ v J', Q v J' → WP (dn BI k (ρ ++ [v]) J') P) : WP (thenD r k ρ) P := by
 obtain ⟨v, J', hc, hq⟩ := RP_of h
 rw [hc]
 exact hk v J' hq
theorem WP_call {f : FuncId} {args : List IV} {J : JH} {k : L} {ρ : List IV} {P Q} (h : RP (ic BI f args J) Q) (hk : ∀ v J', Q v J' → WP (dn BI k (ρ ++ [v]) J') P) : WP (thenD (doCall (ic BI) .raw f args J) k ρ) P := WP_bind h hk
theorem pcW {f : FuncId} {l : LFn} {args : List IV} {P : IV → Prop} (hf : BI.fn f = some l) (hl : args.length = l.np) (h : ∀ K : Out IV → JH → Prop, (∀ vs J' u, frz J' DEP (itup vs) = some u → P u → K (.ret vs) J') → WP (dn BI l.body args #[]) K) : ∃ u, pc BI f args = some u ∧ P u := by
 obtain ⟨o, J', hd, hp⟩ := WP_of (h (fun o J' => byOut (fun _ _ _ => False) (fun vs J' => ∃ u, frz J' DEP (itup vs) = some u ∧ P u) o J') (fun vs J' u h1 h2 => ⟨u, h1, h2⟩))
 cases o with
 | goto j ws => exact hp.elim
 | ret vs =>
  obtain ⟨u, hu, hp⟩ := hp
  exact ⟨u, pc_intro (gv_none hf) hf hl hd hu, hp⟩
theorem pcE {f : FuncId} {l : LFn} {args : List IV} {r : IV} (hf : BI.fn f = some l) (hl : args.length = l.np) (h : ∀ K : Out IV → JH → Prop, (∀ vs J', frz J' DEP (itup vs) = some r → K (.ret vs) J') → WP (dn BI l.body args #[]) K) : pc BI f args = some r := by
 obtain ⟨u, hu, rfl⟩ := pcW (P := fun u => u = r) hf hl (fun K hK => h K fun vs J' h1 => hK vs J' r h1 rfl)
 exact hu
theorem frzE {J : JH} {v w : IV} (h : ipure v = true) (e : v = w) : frz J DEP v = some w := by rw [← e]; exact frzP h
theorem lt_get {α : Type} {J : Array α} {b : Nat} {X : α} (h : J[b]? = some X) : b < J.size := by
 rcases Nat.lt_or_ge b J.size with h1 | h1
 ·exact h1
 ·rw [Array.getElem?_eq_none h1] at h; cases h
theorem inb {α : Type} {J : Array α} {b : Nat} {X : α} (h : J[b]? = some X) : (b < J.size) = True ∧ (b = J.size) = False ∧ (J.size = b) = False ∧ (∀ k, (b < J.size + k) = True) ∧ (∀ k, (b = J.size + k) = False) ∧ (∀ k, (J.size + k = b) = False) := by
 have := lt_get h
 refine ⟨by simp [this], by simp; omega, by simp; omega, fun k => by simp; omega, fun k => by simp; omega, fun k => by simp; omega⟩
def Fr (J J' : JH) (S : List Nat) : Prop := J.size ≤ J'.size ∧ ∀ d, d < J.size → d ∉ S → J'[d]? = J[d]?
theorem Fr.refl (J : JH) (S : List Nat) : Fr J J S := ⟨Nat.le_refl _, fun _ _ _ => rfl⟩
theorem Fr.trans {J J1 J2 : JH} {S T : List Nat} (h : Fr J J1 S) (k : Fr J1 J2 T) (hT : ∀ d, d < J.size → d ∈ T → d ∈ S) : Fr J J2 S :=
 ⟨Nat.le_trans h.1 k.1, fun d hd hn => by rw [k.2 d (Nat.lt_of_lt_of_le hd h.1) (fun ht => hn (hT d hd ht)), h.2 d hd hn]⟩
theorem Fr.push (J : JH) (X : IB) (S : List Nat) : Fr J (J.push X) S := ⟨by simp, fun d hd _ => by rw [Array.getElem?_push, if_neg (Nat.ne_of_lt hd)]⟩
theorem Fr.set (J : JH) {b : Nat} (X : IB) {S : List Nat} (hb : b ∈ S) : Fr J (J.setIfInBounds b X) S := ⟨by simp, fun d hd hn => by
 rw [Array.getElem?_setIfInBounds, if_neg]
 rintro rfl
 exact hn hb⟩
theorem evI_fn {ρ : List IV} {f : FuncId} : evI ρ (.func f) = .fn f [] [] := rfl
def storeF (sz : Nat) (p v : IV) (J : JH) : Option (IV × JH) := istore sz p v J
theorem iexec_store {B : IBook} {C : ICall} {md : Md} {ρ : List IV} {sz : Nat} {x v : Operand} {J : JH} : iexec B C md ρ (.store sz x v) J = storeF sz (evI ρ x) (evI ρ v) J := rfl
theorem storeF_ptr {sz b w off : Nat} {v : IV} {J : JH} : storeF sz (.ptr b w off) v J = if (icells v).length = sz then (match iwr J b w off (icells v) with | some J' => some ((.tup []), J') | none => none) else none := rfl
def lenF (str : Bool) (x : IV) (J : JH) : Option (IV × JH) := match x with
  | .sc (.string s) => if str then ilift (some (.int .i64 s.size)) J else ilift none J
  | v => if str then ilift none J else ilift ((ilen v).map fun n => .int .i64 (n : Nat)) J
theorem iexec_len {B : IBook} {C : ICall} {md : Md} {ρ : List IV} {str : Bool} {x : Operand} {J : JH} : iexec B C md ρ (.len str x) J = lenF str (evI ρ x) J := rfl
theorem lenF_nil {J : JH} : lenF false (.sc (.slice none 0 0)) J = some (.int .i64 0, J) := rfl
theorem lenF_lst {J : JH} {sz : Nat} {f : Bool} {xs : List IV} : lenF false (.lst sz f xs) J = some (.int .i64 (xs.length : Nat), J) := rfl
theorem lenF_sl {J : JH} {b v o n c z : Nat} : lenF false (.sl b v o n c z) J = some (.int .i64 (n : Nat), J) := rfl
theorem lenF_str {J : JH} {s : ByteArray} : lenF true (.sc (.string s)) J = some (.int .i64 s.size, J) := rfl
def iaddrF (sz : Nat) (x i : IV) (J : JH) : Option (IV × JH) := match x, iasNat i with
  | .sl b v o n _ z, some j => if j < n ∧ z = sz then ilift (some (.ptr b v (o + j * sz))) J else ilift none J
  | .lst z _ xs, some j => (match xs[j]? with | some e => if z = sz then ilift (some (.rptr e 0)) J else ilift none J | none => ilift none J)
  | _, _ => ilift none J
theorem iexec_iaddr {B : IBook} {C : ICall} {md : Md} {ρ : List IV} {sz : Nat} {x i : Operand} {J : JH} : iexec B C md ρ (.iaddr sz x i) J = iaddrF sz (evI ρ x) (evI ρ i) J := rfl
theorem iaddrF_lst {sz : Nat} {f : Bool} {xs : List IV} {κ : IntKind} {i : Int} {J : JH} : iaddrF sz (.lst sz f xs) (.int κ i) J = (match iasNat (.int κ i) with | some j => (match xs[j]? with | some e => some (.rptr e 0, J) | none => none) | none => none) := by
 simp only [iaddrF]
 cases iasNat (.int κ i) with
 | none => rfl
 | some j => simp only; cases xs[j]? <;> simp [ilift]
theorem iaddrF_sl {sz : Nat} {b v o n c : Nat} {κ : IntKind} {i : Int} {J : JH} : iaddrF sz (.sl b v o n c sz) (.int κ i) J = (match iasNat (.int κ i) with | some j => if j < n then some (.ptr b v (o + j * sz), J) else none | none => none) := by
 simp only [iaddrF]
 cases iasNat (.int κ i) with
 | none => rfl
 | some j => simp only [and_true]; split <;> rfl
def Ls (sz : Nat) (x : IV) (xs : List IV) : Prop := (x = .sc (.slice none 0 0) ∧ xs = []) ∨ ∃ f, x = .lst sz f xs
def Bs (x : IV) (l : List Int) : Prop := Ls 1 x (l.map (IV.int .u8))
theorem Ls.nil {sz : Nat} : Ls sz (.sc (.slice none 0 0)) [] := .inl ⟨rfl, rfl⟩
theorem Ls.lst {sz : Nat} {f : Bool} {xs : List IV} : Ls sz (.lst sz f xs) xs := .inr ⟨f, rfl⟩
theorem Ls.ilen {sz : Nat} {x : IV} {xs : List IV} (h : Ls sz x xs) : ilen x = some xs.length := by
 rcases h with ⟨rfl, rfl⟩ | ⟨f, rfl⟩ <;> rfl
theorem Ls.cells {sz : Nat} {x : IV} {xs : List IV} (h : Ls sz x xs) (J : JH) : iscells J sz x = some (xs.flatMap icells) := by
 rcases h with ⟨rfl, rfl⟩ | ⟨f, rfl⟩ <;> simp [iscells]
theorem Ls.pure {sz : Nat} {x : IV} {xs : List IV} (h : Ls sz x xs) : ipure x = true := by
 rcases h with ⟨rfl, rfl⟩ | ⟨f, rfl⟩ <;> simp [ipure]
theorem Ls.one {sz : Nat} {x : IV} {xs : List IV} (h : Ls sz x xs) : ione x = true := by
 rcases h with ⟨rfl, rfl⟩ | ⟨f, rfl⟩ <;> simp [ione, Go.Proofs.YticfcmaigffhmaaGreat.G.one]
theorem Ls.icells {sz : Nat} {x : IV} {xs : List IV} (h : Ls sz x xs) : icells x = [x] := by
 rcases h with ⟨rfl, rfl⟩ | ⟨f, rfl⟩ <;> simp [Go.Proofs.YticfcmaigffhmaaGreat.G.icells]
theorem Ls.ne {sz : Nat} {x : IV} {xs : List IV} (h : Ls sz x xs) (hn : xs ≠ []) : ∃ f, x = .lst sz f xs := by
 rcases h with ⟨rfl, rfl⟩ | h
 ·exact absurd rfl hn
 ·exact h
theorem Ls.get {sz : Nat} {x : IV} {xs : List IV} (h : Ls sz x xs) {i : Nat} (hi : i < xs.length) : ∃ f, x = .lst sz f xs := h.ne fun h => by rw [h] at hi; simp at hi
theorem Ls.lenF {sz : Nat} {x : IV} {xs : List IV} (h : Ls sz x xs) {J : JH} : lenF false x J = some (.int .i64 (xs.length : Nat), J) := by
 rcases h with ⟨rfl, rfl⟩ | ⟨f, rfl⟩ <;> rfl
theorem Ls.at {sz : Nat} {x : IV} {xs : List IV} (h : Ls sz x xs) {i : Nat} (hi : i < xs.length) {J : JH} : iaddrF sz x (.int .i64 (i : Int)) J = some (.rptr xs[i] 0, J) := by
 obtain ⟨f, rfl⟩ := h.get hi
 rw [iaddrF_lst]
 simp [iasNat, asNat, hi]
theorem Bs.lenF {x : IV} {l : List Int} (h : Bs x l) {J : JH} : Go.Proofs.YticfcmaigffhmaaGreat.G.lenF false x J = some (.int .i64 (l.length : Nat), J) := by rw [Ls.lenF h]; simp
theorem Bs.at {x : IV} {l : List Int} (h : Bs x l) {i : Nat} (hi : i < l.length) {J : JH} : iaddrF 1 x (.int .i64 (i : Int)) J = some (.rptr (.int .u8 l[i]) 0, J) := by
 rw [Ls.at h (by simpa using hi)]; simp
theorem Bs.len {x : IV} {l : List Int} (h : Bs x l) : Go.Proofs.YticfcmaigffhmaaGreat.G.ilen x = some l.length := by rw [Ls.ilen h]; simp
def appF (sz bytes : Nat) (s x : IV) (J : JH) : Option (IV × JH) := if 0 < sz then iappend sz bytes s x J else none
theorem iexec_append {B : IBook} {C : ICall} {md : Md} {ρ : List IV} {sz by' : Nat} {s x : Operand} {J : JH} : iexec B C md ρ (.append sz by' s x) J = appF sz by' (evI ρ s) (evI ρ x) J := by
 simp only [iexec, appF, ilift]
def blk (x : IV) : List Nat := (blkOf x).getD []
def Grow (J : JH) (x : IV) (sz : Nat) (cs : List IV) : Prop := (x = .sc (.slice none 0 0) ∧ cs = []) ∨ ∃ b v n full, x = .sl b v 0 n (UNK + sz) sz ∧ J[b]? = some (.cells v full false) ∧ n * sz ≤ full.length ∧ full.take (n * sz) = cs ∧ irefsL (full.drop (n * sz)) = []
theorem Grow.nil {J : JH} {sz : Nat} : Grow J (.sc (.slice none 0 0)) sz [] := .inl ⟨rfl, rfl⟩
theorem Grow.low {J : JH} {x : IV} {sz : Nat} {cs : List IV} (h : Grow J x sz cs) : ∀ b ∈ blk x, b < J.size := by
 rcases h with ⟨rfl, rfl⟩ | ⟨b, v, n, full, rfl, h1, h2, h3, h4⟩
 ·simp [blk, blkOf]
 ·simp only [blk, blkOf, Option.getD_some, List.mem_singleton, forall_eq]
  exact lt_get h1
theorem Grow.fr {J J' : JH} {x : IV} {sz : Nat} {cs : List IV} {S : List Nat} (h : Grow J x sz cs) (hf : Fr J J' S) (hS : ∀ b ∈ blk x, b ∉ S) : Grow J' x sz cs := by
 rcases h with ⟨rfl, rfl⟩ | ⟨b, v, n, full, rfl, h1, h2, h3, h4⟩
 ·exact .nil
 ·refine .inr ⟨b, v, n, full, rfl, ?_, h2, h3, h4⟩
  rw [hf.2 b (lt_get h1) (hS b (by simp [blk, blkOf]))]
  exact h1
theorem Grow.app {J : JH} {s y : IV} {sz by' m : Nat} {cs ds : List IV} (h : Grow J s sz cs) (hsz : 0 < sz) (hy : iscells J sz y = some ds) (hm : Go.Proofs.YticfcmaigffhmaaGreat.G.ilen y = some m) (hd : ds.length = m * sz) (ho : ds.all ione = true) (hf : fits (cs.length + m) by' = true) :
  RP (appF sz by' s y J) fun s' J' => Grow J' s' sz (cs ++ ds) ∧ Fr J J' (blk s) ∧ (∀ b ∈ blk s', b ∈ blk s ∨ J.size ≤ b) := by
 have hfm : ∀ k, k ≤ cs.length + m → fits k by' = true := fun k hk => by
  simp only [fits, Bool.and_eq_true, decide_eq_true_eq] at hf ⊢
  refine ⟨by omega, Nat.le_trans (Nat.mul_le_mul_right by' hk) hf.2⟩
 unfold appF
 rw [if_pos hsz]
 unfold iappend
 simp only [hy, hm]
 rcases h with ⟨rfl, rfl⟩ | ⟨b, v, n, full, rfl, h1, h2, h3, h4⟩
 ·by_cases h0 : m = 0
  ·subst h0
   have : ds = [] := List.eq_nil_of_length_eq_zero (by simpa using hd)
   subst this
   simp only [if_true, RP_some]
   exact ⟨.nil, .refl _ _, fun b hb => .inl hb⟩
  ·simp only [if_neg h0, hfm m (by omega), ho, Bool.and_self, if_true, RP_some]
   refine ⟨.inr ⟨J.size, 0, m, ds, rfl, by simp, by omega, ?_, by rw [List.drop_of_length_le (by omega)]; rfl⟩, Fr.push _ _ _, ?_⟩
   ·rw [List.nil_append, List.take_of_length_le (by omega)]
   ·simp [blk, blkOf]
 ·by_cases h0 : m = 0
  ·subst h0
   have : ds = [] := List.eq_nil_of_length_eq_zero (by simpa using hd)
   subst this
   simp only [if_true, RP_some, List.append_nil]
   exact ⟨.inr ⟨b, v, n, full, rfl, h1, h2, h3, h4⟩, .refl _ _, fun b hb => .inl hb⟩
  ·have hcl : cs.length = n * sz := by rw [← h3, List.length_take]; omega
   have hn : n ≤ cs.length := by rw [hcl]; exact Nat.le_mul_of_pos_right n hsz
   simp only [if_neg h0, hfm (n + m) (by omega), ho, Bool.and_self, and_self, if_true, h1, Nat.zero_add, h2, RP_some, Nat.le_add_right, List.drop_zero, h3]
   refine ⟨.inr ⟨b, v + 1, n + m, cs ++ ds, rfl, ?_, ?_, ?_, by rw [List.drop_of_length_le (by rw [List.length_append, hcl, hd, Nat.add_mul]; exact Nat.le_refl _)]; rfl⟩, Fr.set _ _ (by simp [blk, blkOf]), fun b hb => .inl (by simpa [blk, blkOf] using hb)⟩
   ·simp [lt_get h1]
   ·rw [List.length_append, hcl, hd, Nat.add_mul]; exact Nat.le_refl _
   ·rw [List.take_of_length_le]
    rw [List.length_append, hcl, hd, Nat.add_mul]; exact Nat.le_refl _
theorem Grow.one {J : JH} {s : IV} {sz : Nat} {cs : List IV} (h : Grow J s sz cs) : ione s = true := by
 rcases h with ⟨rfl, rfl⟩ | ⟨b, v, n, full, rfl, h1, h2, h3, h4⟩ <;> simp [ione, Go.Proofs.YticfcmaigffhmaaGreat.G.one]
theorem Grow.icells {J : JH} {s : IV} {sz : Nat} {cs : List IV} (h : Grow J s sz cs) : icells s = [s] := by
 rcases h with ⟨rfl, rfl⟩ | ⟨b, v, n, full, rfl, h1, h2, h3, h4⟩ <;> simp [Go.Proofs.YticfcmaigffhmaaGreat.G.icells]
theorem grp1' {n : Nat} {l : List IV} (h : n = l.length) : grp 1 n l = l := by subst h; exact grp1 l
theorem Grow.frz1 {J : JH} {s : IV} {cs : List IV} (h : Grow J s 1 cs) (hp : ipureL cs = true) (ho : cs.all ione = true) : ∃ u, frz J DEP s = some u ∧ Ls 1 u cs := by
 rcases h with ⟨rfl, rfl⟩ | ⟨b, v, n, full, rfl, h1, h2, h3, h4⟩
 ·exact ⟨_, frzP rfl, .nil⟩
 ·have hcl : cs.length = n := by rw [← h3, List.length_take]; omega
  refine ⟨_, by rw [frz12, frz_sl (by omega) (cs := cs) (by simp only [ird, h1, true_and, Nat.zero_add, if_pos h2, List.drop_zero, h3]) hp ho, grp1' hcl.symm], .lst⟩
theorem Grow.cells {J : JH} {s : IV} {sz : Nat} {cs : List IV} (h : Grow J s sz cs) : iscells J sz s = some cs := by
 rcases h with ⟨rfl, rfl⟩ | ⟨b, v, n, full, rfl, h1, h2, h3, h4⟩
 ·rfl
 ·simp [iscells, ird, h1, h2, h3]
theorem Grow.lenF {J J' : JH} {s : IV} {sz n : Nat} {cs : List IV} (h : Grow J s sz cs) (hn : cs.length = n * sz) (hsz : 0 < sz) : Go.Proofs.YticfcmaigffhmaaGreat.G.lenF false s J' = some (.int .i64 (n : Nat), J') := by
 rcases h with ⟨rfl, rfl⟩ | ⟨b, v, k, full, rfl, h1, h2, h3, h4⟩
 ·have : n = 0 := by
   rcases Nat.eq_zero_or_pos n with h | h
   ·exact h
   ·have := Nat.mul_pos h hsz; simp at hn; omega
  subst this; rfl
 ·have hcl : cs.length = k * sz := by rw [← h3, List.length_take]; omega
  rw [hn] at hcl
  rw [lenF_sl, Nat.eq_of_mul_eq_mul_right hsz hcl]
def LsR {α : Type} (sz : Nat) (R : IV → α → Prop) (x : IV) (as : List α) : Prop := ∃ xs, Ls sz x xs ∧ xs.length = as.length ∧ ∀ i (h : i < xs.length) (h' : i < as.length), R xs[i] as[i]
theorem LsR.lenF {α : Type} {sz : Nat} {R : IV → α → Prop} {x : IV} {as : List α} (h : LsR sz R x as) {J : JH} : Go.Proofs.YticfcmaigffhmaaGreat.G.lenF false x J = some (.int .i64 (as.length : Nat), J) := by
 obtain ⟨xs, h1, h2, _⟩ := h
 rw [← h2]; exact h1.lenF
theorem LsR.at {α : Type} {sz : Nat} {R : IV → α → Prop} {x : IV} {as : List α} (h : LsR sz R x as) {i : Nat} (hi : i < as.length) : ∃ e, R e as[i] ∧ ∀ J, iaddrF sz x (.int .i64 (i : Int)) J = some (.rptr e 0, J) := by
 obtain ⟨xs, h1, h2, h3⟩ := h
 exact ⟨xs[i]'(by omega), h3 i (by omega) hi, fun J => h1.at (by omega)⟩
theorem LsR.pure {α : Type} {sz : Nat} {R : IV → α → Prop} {x : IV} {as : List α} (h : LsR sz R x as) : ipure x = true := h.choose_spec.1.pure
theorem LsR.nil {α : Type} {sz : Nat} {R : IV → α → Prop} : LsR sz R (.sc (.slice none 0 0)) [] := ⟨[], .nil, rfl, fun i h => by simp at h⟩
noncomputable def thenC (r : Option (IV × JH)) (J : JH) (chk : List (Option (Operand × Bool) × SOp)) (t : Option (List Nat)) (ρ : List IV) (k : L) : Option (Out IV × JH) := match r with
 | some (v, J') => if chk.all (ichk J J' t ρ) then dn BI k (ρ ++ [v]) J' else none
 | none => none
theorem step_chk {ρ : List IV} {J : JH} {p : SOp} {md : Md} {chk} : stepI' BI (ic BI) ρ ⟨none, p, md, chk⟩ J = (match iexec BI (ic BI) md ρ p J with | some (v, J') => if chk.all (ichk J J' (itouch BI md ρ p J) ρ) then some (v, J') else none | none => none) := rfl
def blkF (x : IV) : Option (List Nat) := Go.Proofs.YticfcmaigffhmaaGreat.G.blkOf x
theorem dnW_oca {ρ : List IV} {J : JH} {sz by' : Nat} {s x : Operand} {md : Md} {chk} {k : L} : dn BI (oc none (.append sz by' s x) md chk k) ρ J = thenC (appF sz by' (evI ρ s) (evI ρ x) J) J chk (blkF (evI ρ s)) ρ k := by
 rw [dnW_oc, step_chk, iexec_append]
 have ht : itouch BI md ρ (.append sz by' s x) J = blkOf (evI ρ s) := rfl
 rw [ht]
 unfold thenC blkF
 generalize appF sz by' (evI ρ s) (evI ρ x) J = r
 cases r with
 | none => rfl
 | some q =>
  by_cases hh : chk.all (ichk J q.2 (blkOf (evI ρ s)) ρ) = true
  ·simp only [hh, if_true]; rfl
  ·simp only [hh]; rfl
theorem WP_bindC {r : Option (IV × JH)} {J : JH} {chk} {t : Option (List Nat)} {k : L} {ρ : List IV} {P Q} (h : RP r Q) (hk : ∀ v J', Q v J' → chk.all (ichk J J' t ρ) = true ∧ WP (dn BI k (ρ ++ [v]) J') P) : WP (thenC r J chk t ρ k) P := by
 obtain ⟨v, J', hc, hq⟩ := RP_of h
 obtain ⟨h1, h2⟩ := hk v J' hq
 rw [hc]
 simp only [thenC, h1, if_true]
 exact h2
theorem Grow.blkF {J : JH} {s : IV} {sz : Nat} {cs : List IV} (h : Grow J s sz cs) : blkF s = some (blk s) := by
 rcases h with ⟨rfl, rfl⟩ | ⟨b, v, n, full, rfl, h1, h2, h3, h4⟩ <;> rfl
end Go.Proofs.YticfcmaigffhmaaGreat.G
namespace Go.Proofs.YticfcmaigffhmaaGreat.G
open Go
attribute [go_sem ↓] dnW_oca iexec_len iexec_iaddr iexec_append iexec_store
attribute [go_sem] rawB allC1 dn_ret dn_goto iexec evI_0 evI_succ evI_int evI_bool evI_nilsl evI_nilp List.cons_append List.nil_append scal2_sc abin aun ilift_some Option.map_some Option.map_none decide_eq_true_eq List.map_cons List.map_nil if_true if_false Bool.false_eq_true inew iload istore iwr ird icells ione one List.getElem?_toArray List.getElem?_cons_zero List.getElem?_cons_succ List.push_toArray List.size_toArray List.length_cons List.length_nil List.setIfInBounds_toArray List.set_cons_zero List.set_cons_succ isplice_cons List.drop_succ_cons List.drop_zero List.take_succ_cons List.take_zero List.drop_nil List.take_nil List.append_nil List.all_cons List.all_nil Bool.and_true Bool.true_and Bool.and_self Nat.zero_add Nat.add_zero Nat.le_refl true_and and_true and_self List.getElem?_nil BI_zc BI_zv BI_co zcT zvT coT not_true_eq_false not_false_eq_true Bool.not_true Bool.not_false stepI' wantsI ifill ievs itup Nat.le_add_left Nat.le_add_right iaggEq List.foldl iminI iminF imin2 min2 iisNil isNil ilen Option.isNone_none Option.isNone_some Nat.zero_le decide_true decide_false ireps List.replicate List.flatten_cons List.flatten_nil ichk itouch ctouch ilooks isame untouched Option.isSome_some Bool.or_true Bool.true_or List.contains_nil blkOf IntKind.bits iasNat asNat Int.toNat_natCast Int.natCast_nonneg List.length_map iscells ibnd islice capOf Option.isSome_none Bool.false_and Bool.and_false Bool.or_false Bool.false_or bne_self_eq_false Nat.not_lt_zero Nat.mul_one Nat.one_mul Nat.zero_mul Nat.mul_zero beq_self_eq_true Nat.sub_zero List.length_set false_implies implies_true forall_const evI_fn Nat.zero_lt_one dnW_o dnW_om dnW_oc dnW_join thenD_some thenD_ite onIfD_bool onJoinD_out onJoinD_ret onJoinD_ite WP_some WP_ite byOut_goto byOut_ret storeF_ptr lenF_nil lenF_lst lenF_sl lenF_str iaddrF_sl iaddrF_lst
attribute [go_sem_proc] reduceIte Nat.reduceAdd Nat.reduceLeDiff Nat.reduceMul Nat.reduceEqDiff Int.reduceLT Int.reduceLE Int.reduceToNat Nat.reduceSub Nat.reduceLT Int.reduceEq BitVec.reduceOfInt BitVec.reduceOfNat Int.reduceGT Int.reduceGE Int.reduceBEq Int.reduceBNe Nat.reduceGT Nat.reduceBEq Nat.reduceBNe Int.reduceAdd Int.reduceSub Int.reduceNeg
section
variable {α : Type} {sz : Nat}
theorem flat_len : ∀ {X : List (List α)}, (∀ x ∈ X, x.length = sz) → X.flatten.length = X.length * sz
 | [], _ => by simp
 | x :: X, h => by
  rw [List.flatten_cons, List.length_append, h x (by simp), flat_len fun y hy => h y (by simp [hy]), List.length_cons, Nat.succ_mul]
  omega
theorem flat_drop : ∀ {X : List (List α)} {rest : List α} {i : Nat}, (∀ x ∈ X, x.length = sz) → i ≤ X.length → (X.flatten ++ rest).drop (i * sz) = (X.drop i).flatten ++ rest
 | _, _, 0, _, _ => by simp
 | [], _, i + 1, _, h => by simp at h
 | x :: X, rest, i + 1, h, hi => by
  have hx := h x (by simp)
  rw [List.flatten_cons, List.append_assoc, Nat.succ_mul, Nat.add_comm, List.drop_append, hx, List.drop_of_length_le (by omega), List.nil_append, Nat.add_sub_cancel_left, List.drop_succ_cons]
  exact flat_drop (fun y hy => h y (by simp [hy])) (by simpa using hi)
theorem flat_at {X : List (List α)} {rest : List α} {i : Nat} (h : ∀ x ∈ X, x.length = sz) (hi : i < X.length) : ((X.flatten ++ rest).drop (i * sz)).take sz = X[i] := by
 rw [flat_drop h (by omega), List.drop_eq_getElem_cons hi, List.flatten_cons, List.append_assoc, List.take_append_of_le_length (by rw [h _ (List.getElem_mem hi)]; exact Nat.le_refl _), List.take_of_length_le (by rw [h _ (List.getElem_mem hi)]; exact Nat.le_refl _)]
theorem flat_at1 {X : List (List α)} {rest : List α} {i k : Nat} (h : ∀ x ∈ X, x.length = sz) (hi : i < X.length) (hk : k < X[i].length) : ((X.flatten ++ rest).drop (i * sz + k)).take 1 = [X[i][k]] := by
 have hx := h _ (List.getElem_mem hi)
 rw [← List.drop_drop, flat_drop h (by omega), List.drop_eq_getElem_cons hi, List.flatten_cons, List.append_assoc, List.drop_append_of_le_length (by omega), List.drop_eq_getElem_cons hk]
 rfl
theorem flat_take : ∀ {X : List (List α)} {rest : List α} {i : Nat}, (∀ x ∈ X, x.length = sz) → i ≤ X.length → (X.flatten ++ rest).take (i * sz) = (X.take i).flatten
 | _, _, 0, _, _ => by simp
 | [], _, i + 1, _, h => by simp at h
 | x :: X, rest, i + 1, h, hi => by
  have hx := h x (by simp)
  rw [List.flatten_cons, List.append_assoc, Nat.succ_mul, Nat.add_comm, List.take_append, hx, List.take_of_length_le (by omega), Nat.add_sub_cancel_left, List.take_succ_cons, List.flatten_cons]
  rw [flat_take (fun y hy => h y (by simp [hy])) (by simpa using hi)]
theorem flat_splice {X : List (List IV)} {rest vs : List IV} {i k : Nat} (h : ∀ x ∈ X, x.length = sz) (hi : i < X.length) (hk : k + vs.length ≤ sz) : isplice (X.flatten ++ rest) (i * sz + k) vs = (X.set i (isplice X[i] k vs)).flatten ++ rest := by
 have hx := h _ (List.getElem_mem hi)
 have e1 : (X.flatten ++ rest).take (i * sz + k) = (X.take i).flatten ++ X[i].take k := by
  rw [← List.take_append_drop (i * sz) (X.flatten ++ rest), flat_take h (by omega), flat_drop h (by omega)]
  have hl : (X.take i).flatten.length = i * sz := by rw [flat_len (sz := sz) (fun x hx => h x (List.mem_of_mem_take hx)), List.length_take, Nat.min_eq_left (by omega)]
  rw [List.take_append, hl, List.take_of_length_le (by omega), Nat.add_sub_cancel_left, List.drop_eq_getElem_cons hi, List.flatten_cons, List.append_assoc, List.take_append_of_le_length (by omega)]
 have e2 : (X.flatten ++ rest).drop (i * sz + k + vs.length) = X[i].drop (k + vs.length) ++ ((X.drop (i + 1)).flatten ++ rest) := by
  rw [Nat.add_assoc, ← List.drop_drop, flat_drop h (by omega), List.drop_eq_getElem_cons hi, List.flatten_cons, List.append_assoc, List.drop_append_of_le_length (by omega)]
 unfold isplice
 rw [e1, e2, List.set_eq_take_append_cons_drop, if_pos hi]
 simp [List.flatten_append]
end
def SlX (J : JH) (x : IV) (sz : Nat) (X : List (List IV)) : Prop := (∀ e ∈ X, e.length = sz) ∧ ((x = .sc (.slice none 0 0) ∧ X = []) ∨ ∃ b v rest, x = .sl b v 0 X.length (UNK + sz) sz ∧ J[b]? = some (.cells v (X.flatten ++ rest) false) ∧ irefsL rest = [])
theorem SlX.grow {J : JH} {x : IV} {sz : Nat} {X : List (List IV)} (h : SlX J x sz X) : Grow J x sz X.flatten := by
 obtain ⟨h1, ⟨rfl, rfl⟩ | ⟨b, v, rest, rfl, h2, h5⟩⟩ := h
 ·exact .nil
 ·refine .inr ⟨b, v, _, _, rfl, h2, ?_, ?_, by rw [flat_drop h1 (Nat.le_refl _), List.drop_length]; exact h5⟩
  ·rw [List.length_append, flat_len h1]; omega
  ·rw [flat_take h1 (Nat.le_refl _), List.take_length]
theorem Grow.slx {J : JH} {x : IV} {sz : Nat} {X : List (List IV)} (h : Grow J x sz X.flatten) (h1 : ∀ e ∈ X, e.length = sz) (hsz : 0 < sz) : SlX J x sz X := by
 refine ⟨h1, ?_⟩
 have hl := flat_len h1
 rcases h with ⟨rfl, h2⟩ | ⟨b, v, n, full, rfl, h2, h3, h4, h5⟩
 ·left
  rw [h2] at hl
  have : X.length = 0 := by
   rcases Nat.eq_zero_or_pos X.length with h | h
   ·exact h
   ·have := Nat.mul_pos h hsz; simp at hl; omega
  exact ⟨rfl, List.eq_nil_of_length_eq_zero this⟩
 ·right
  have hn : n = X.length := by
   have : (full.take (n * sz)).length = n * sz := by rw [List.length_take]; omega
   rw [h4, hl] at this
   exact (Nat.eq_of_mul_eq_mul_right hsz this).symm
  subst hn
  refine ⟨b, v, full.drop (X.length * sz), rfl, ?_, h5⟩
  rw [h2, ← h4, List.take_append_drop]
mutual
theorem irefs_pure : (v : IV) → ipure v = true → irefs v = []
 | .sc _, _ => by simp [irefs]
 | .agg cs, h => by
  simp only [ipure] at h
  simp only [irefs]
  exact irefsL_pure cs h
 | .tup cs, h => by
  simp only [ipure] at h
  simp only [irefs]
  exact irefsL_pure cs h
 | .fn _ a b, h => by
  simp only [ipure, Bool.and_eq_true] at h
  simp only [irefs, irefsL_pure a h.1, irefsL_pure b h.2, List.append_nil]
 | .lst _ _ _, _ => by simp [irefs]
 | .rptr _ _, _ => by simp [irefs]
 | .ptr _ _ _, h => by simp [ipure] at h
 | .map _, h => by simp [ipure] at h
 | .sl _ _ _ _ _ _, h => by simp [ipure] at h
theorem irefsL_pure : (l : List IV) → ipureL l = true → irefsL l = []
 | [], _ => by simp [irefsL]
 | v :: l, h => by
  simp only [ipureL, Bool.and_eq_true] at h
  simp only [irefsL, irefs_pure v h.1, irefsL_pure l h.2, List.append_nil]
end
theorem irefsL_append : ∀ (a b : List IV), irefsL (a ++ b) = irefsL a ++ irefsL b
 | [], b => by simp [irefsL]
 | v :: a, b => by simp [irefsL, irefsL_append a b]
end Go.Proofs.YticfcmaigffhmaaGreat.G
namespace Go.Proofs.YticfcmaigffhmaaGreat.G
open Go
theorem ofInt_nat {w : Nat} (x : BitVec w) : BitVec.ofInt w (x.toNat : Int) = x := by
 rw [BitVec.ofInt_natCast]; simp
theorem wrapB8 (x : BitVec 8) : IntKind.u8.wrap (x.toNat : Int) = x.toNat := by
 have := x.isLt
 simp only [IntKind.wrap, IntKind.bits, IntKind.signed]; simp; omega
theorem wrapB16 (x : BitVec 16) : IntKind.u16.wrap (x.toNat : Int) = x.toNat := by
 have := x.isLt
 simp only [IntKind.wrap, IntKind.bits, IntKind.signed]; simp; omega
theorem wrapB32 (x : BitVec 32) : IntKind.u32.wrap (x.toNat : Int) = x.toNat := by
 have := x.isLt
 simp only [IntKind.wrap, IntKind.bits, IntKind.signed]; simp; omega
theorem wrapB64 (x : BitVec 64) : IntKind.u64.wrap (x.toNat : Int) = x.toNat := by
 have := x.isLt
 simp only [IntKind.wrap, IntKind.bits, IntKind.signed]; simp; omega
theorem beqB {w : Nat} (x y : BitVec w) : ((x.toNat : Int) == (y.toNat : Int)) = (x == y) := by
 rw [Bool.eq_iff_iff]; simp only [beq_iff_eq]; exact ⟨fun h => BitVec.eq_of_toNat_eq (by omega), fun h => by rw [h]⟩
theorem bneB {w : Nat} (x y : BitVec w) : ((x.toNat : Int) != (y.toNat : Int)) = (x != y) := by
 simp only [bne, beqB]
theorem beqB0 {w : Nat} (x : BitVec w) : ((x.toNat : Int) == 0) = (x == 0#w) := by
 have := beqB x 0#w; simpa using this
theorem bneB0 {w : Nat} (x : BitVec w) : ((x.toNat : Int) != 0) = (x != 0#w) := by
 simp only [bne, beqB0]
theorem wrapS {i n : Nat} (h : i < n) (hn : n ≤ 9223372036854775807) : IntKind.i64.wrap ((i : Int) + 1) = ((i + 1 : Nat) : Int) := by
 rw [wrap_i64 (by omega) (by omega)]; omega
abbrev m32 (x : BitVec 32) : IV := .int .u32 (x.toNat : Int)
abbrev nI (n : Nat) : IV := .int .i64 (n : Int)
theorem WP_range {f : List IV → JH → Option (Out IV × JH)} {l0 l1 : Nat} {b : L} {K : Out IV → JH → Prop} (hne : l0 ≠ l1) (N : Nat) (S : Nat → List IV → JH → Prop)
  (hs : ∀ i vs J, S i vs J → i ≤ N → ∀ K' : Out IV → JH → Prop, (i < N → ∀ ws J', S (i + 1) ws J' → K' (.goto l1 ws) J') → (∀ ws J', WP (dn BI b ws J') K → K' (.goto l0 ws) J') → (∀ ws J', K (.ret ws) J' → K' (.ret ws) J') → WP (f vs J) K')
  {vs : List IV} {J : JH} (h0 : S 0 vs J) : WP (onJoinD l0 (iter f l1 vs J) b) K :=
 WP_loop hne (fun m vs J => ∃ i, i + m = N ∧ S i vs J) (by
  rintro m vs J ⟨i, hi, h⟩ K' g1 g2 g3
  exact hs i vs J h (by omega) K' (fun hl ws J' h' => g1 ws (m - 1) J' (by omega) ⟨i + 1, by omega, h'⟩) g2 g3) N vs J ⟨0, by omega, h0⟩
theorem WP_rangeT {f : List IV → JH → Option (Out IV × JH)} {l1 : Nat} {K : Out IV → JH → Prop} (N : Nat) (S : Nat → List IV → JH → Prop)
  (hs : ∀ i vs J, S i vs J → i ≤ N → ∀ K' : Out IV → JH → Prop, (i < N → ∀ ws J', S (i + 1) ws J' → K' (.goto l1 ws) J') → (∀ j ws J', j ≠ l1 → K (.goto j ws) J' → K' (.goto j ws) J') → (∀ ws J', K (.ret ws) J' → K' (.ret ws) J') → WP (f vs J) K')
  {vs : List IV} {J : JH} (h0 : S 0 vs J) : WP (iter f l1 vs J) K :=
 WP_iter (fun m vs J => ∃ i, i + m = N ∧ S i vs J) (by
  rintro m vs J ⟨i, hi, h⟩ K' g1 g2 g3
  exact hs i vs J h (by omega) K' (fun hl ws J' h' => g1 ws (m - 1) J' (by omega) ⟨i + 1, by omega, h'⟩) g2 g3) N vs J ⟨0, by omega, h0⟩
theorem pcN (n : Nat) {f : FuncId} {args : List IV} {v u : IV} {J : JH} (h : icall BI n f args #[] = some (v, J)) (hf : frz J DEP v = some u) : pc BI f args = some u := by unfold pc; rw [lim_ic h]; exact hf
theorem convB8 {w : Nat} (x : BitVec w) : IntKind.u8.wrap (x.toNat : Int) = ((x.setWidth 8).toNat : Int) := by
 simp only [IntKind.wrap, IntKind.bits, IntKind.signed, BitVec.toNat_setWidth]; simp
theorem convB16 {w : Nat} (x : BitVec w) : IntKind.u16.wrap (x.toNat : Int) = ((x.setWidth 16).toNat : Int) := by
 simp only [IntKind.wrap, IntKind.bits, IntKind.signed, BitVec.toNat_setWidth]; simp
theorem convB32 {w : Nat} (x : BitVec w) : IntKind.u32.wrap (x.toNat : Int) = ((x.setWidth 32).toNat : Int) := by
 simp only [IntKind.wrap, IntKind.bits, IntKind.signed, BitVec.toNat_setWidth]; simp
theorem convB64 {w : Nat} (x : BitVec w) : IntKind.u64.wrap (x.toNat : Int) = ((x.setWidth 64).toNat : Int) := by
 simp only [IntKind.wrap, IntKind.bits, IntKind.signed, BitVec.toNat_setWidth]; simp
theorem i64B8 (x : BitVec 8) : IntKind.i64.wrap (x.toNat : Int) = (x.toNat : Int) := by have := x.isLt; exact wrap_i64 (by omega) (by omega)
theorem i64B16 (x : BitVec 16) : IntKind.i64.wrap (x.toNat : Int) = (x.toNat : Int) := by have := x.isLt; exact wrap_i64 (by omega) (by omega)
theorem i64B32 (x : BitVec 32) : IntKind.i64.wrap (x.toNat : Int) = (x.toNat : Int) := by have := x.isLt; exact wrap_i64 (by omega) (by omega)
theorem fdivB {w : Nat} (x : BitVec w) (k : Nat) : (x.toNat : Int).fdiv (2 ^ k) = ((x >>> k).toNat : Int) := by
 rw [show ((2 : Int) ^ k) = ((2 ^ k : Nat) : Int) by simp, Int.fdiv_eq_ediv_of_nonneg _ (Int.natCast_nonneg _), BitVec.toNat_ushiftRight, Nat.shiftRight_eq_div_pow]
 simp
theorem addB32 (x y : BitVec 32) : IntKind.u32.wrap ((x.toNat : Int) + (y.toNat : Int)) = ((x + y).toNat : Int) := by
 simp only [IntKind.wrap, IntKind.bits, IntKind.signed, BitVec.toNat_add]; simp
theorem mulB32 (x y : BitVec 32) : IntKind.u32.wrap ((x.toNat : Int) * (y.toNat : Int)) = ((x * y).toNat : Int) := by
 simp only [IntKind.wrap, IntKind.bits, IntKind.signed, BitVec.toNat_mul]; simp
theorem addB32c (x : BitVec 32) (c : Nat) : IntKind.u32.wrap ((x.toNat : Int) + no_index (@OfNat.ofNat Int c instOfNat)) = ((x + BitVec.ofNat 32 c).toNat : Int) := by
 simp only [IntKind.wrap, IntKind.bits, IntKind.signed, BitVec.toNat_add, BitVec.toNat_ofNat]
 show ((x.toNat : Int) + (c : Int)) % _ = _
 simp
theorem mulB32c (x : BitVec 32) (c : Nat) : IntKind.u32.wrap ((x.toNat : Int) * no_index (@OfNat.ofNat Int c instOfNat)) = ((x * BitVec.ofNat 32 c).toNat : Int) := by
 simp only [IntKind.wrap, IntKind.bits, IntKind.signed, BitVec.toNat_mul, BitVec.toNat_ofNat]
 show ((x.toNat : Int) * (c : Int)) % _ = _
 simp [Int.mul_emod]
theorem shlB32 (x : BitVec 32) (k : Nat) : IntKind.u32.wrap ((x.toNat : Int) * 2 ^ k) = ((x <<< k).toNat : Int) := by
 simp only [IntKind.wrap, IntKind.bits, IntKind.signed, BitVec.toNat_shiftLeft, Nat.shiftLeft_eq]; simp
theorem shlB64 (x : BitVec 64) (k : Nat) : IntKind.u64.wrap ((x.toNat : Int) * 2 ^ k) = ((x <<< k).toNat : Int) := by
 simp only [IntKind.wrap, IntKind.bits, IntKind.signed, BitVec.toNat_shiftLeft, Nat.shiftLeft_eq]; simp
theorem shl1B32 (k : Nat) : IntKind.u32.wrap (1 * 2 ^ k) = ((1#32 <<< k).toNat : Int) := shlB32 1#32 k
theorem shl1B64 (k : Nat) : IntKind.u64.wrap (1 * 2 ^ k) = ((1#64 <<< k).toNat : Int) := shlB64 1#64 k
theorem notB32 (x : BitVec 32) : aun .xor (.int .u32 (x.toNat : Int)) = some (.int .u32 ((~~~x).toNat : Int)) := by
 have e : BitVec.ofInt 32 IntKind.u32.max = BitVec.allOnes 32 := by decide
 simp only [aun, IntKind.bits, IntKind.signed, Bool.false_eq_true, if_false, ofInt_nat]
 rw [e]
 have e2 : BitVec.allOnes 32 ^^^ x = ~~~x := BitVec.allOnes_xor
 have e3 := wrapB32 (~~~x)
 rw [← e2] at e3 ⊢
 exact congrArg (fun z => some (Value.int .u32 z)) e3
theorem band8 (x y : BitVec 8) : abin .and (.int .u8 (x.toNat : Int)) (.int .u8 (y.toNat : Int)) = some (.int .u8 ((x &&& y).toNat : Int)) := by
 show some (Value.int .u8 (IntKind.u8.wrap ((BitVec.ofInt 8 (x.toNat : Int) &&& BitVec.ofInt 8 (y.toNat : Int)).toNat : Int))) = _
 rw [ofInt_nat, ofInt_nat, wrapB8]
theorem band8c (x : BitVec 8) (c : Nat) : abin .and (.int .u8 (x.toNat : Int)) (.int .u8 (no_index (@OfNat.ofNat Int c instOfNat))) = some (.int .u8 ((x &&& BitVec.ofNat 8 c).toNat : Int)) := by
 show some (Value.int .u8 (IntKind.u8.wrap ((BitVec.ofInt 8 (x.toNat : Int) &&& BitVec.ofInt 8 ((c : Nat) : Int)).toNat : Int))) = _
 rw [ofInt_nat, BitVec.ofInt_natCast, wrapB8]
theorem bor8 (x y : BitVec 8) : abin .or (.int .u8 (x.toNat : Int)) (.int .u8 (y.toNat : Int)) = some (.int .u8 ((x ||| y).toNat : Int)) := by
 show some (Value.int .u8 (IntKind.u8.wrap ((BitVec.ofInt 8 (x.toNat : Int) ||| BitVec.ofInt 8 (y.toNat : Int)).toNat : Int))) = _
 rw [ofInt_nat, ofInt_nat, wrapB8]
theorem bor8c (x : BitVec 8) (c : Nat) : abin .or (.int .u8 (x.toNat : Int)) (.int .u8 (no_index (@OfNat.ofNat Int c instOfNat))) = some (.int .u8 ((x ||| BitVec.ofNat 8 c).toNat : Int)) := by
 show some (Value.int .u8 (IntKind.u8.wrap ((BitVec.ofInt 8 (x.toNat : Int) ||| BitVec.ofInt 8 ((c : Nat) : Int)).toNat : Int))) = _
 rw [ofInt_nat, BitVec.ofInt_natCast, wrapB8]
theorem bxor8 (x y : BitVec 8) : abin .xor (.int .u8 (x.toNat : Int)) (.int .u8 (y.toNat : Int)) = some (.int .u8 ((x ^^^ y).toNat : Int)) := by
 show some (Value.int .u8 (IntKind.u8.wrap ((BitVec.ofInt 8 (x.toNat : Int) ^^^ BitVec.ofInt 8 (y.toNat : Int)).toNat : Int))) = _
 rw [ofInt_nat, ofInt_nat, wrapB8]
theorem bxor8c (x : BitVec 8) (c : Nat) : abin .xor (.int .u8 (x.toNat : Int)) (.int .u8 (no_index (@OfNat.ofNat Int c instOfNat))) = some (.int .u8 ((x ^^^ BitVec.ofNat 8 c).toNat : Int)) := by
 show some (Value.int .u8 (IntKind.u8.wrap ((BitVec.ofInt 8 (x.toNat : Int) ^^^ BitVec.ofInt 8 ((c : Nat) : Int)).toNat : Int))) = _
 rw [ofInt_nat, BitVec.ofInt_natCast, wrapB8]
theorem bandNot8 (x y : BitVec 8) : abin .andNot (.int .u8 (x.toNat : Int)) (.int .u8 (y.toNat : Int)) = some (.int .u8 ((x &&& ~~~y).toNat : Int)) := by
 show some (Value.int .u8 (IntKind.u8.wrap ((BitVec.ofInt 8 (x.toNat : Int) &&& ~~~ BitVec.ofInt 8 (y.toNat : Int)).toNat : Int))) = _
 rw [ofInt_nat, ofInt_nat, wrapB8]
theorem band16 (x y : BitVec 16) : abin .and (.int .u16 (x.toNat : Int)) (.int .u16 (y.toNat : Int)) = some (.int .u16 ((x &&& y).toNat : Int)) := by
 show some (Value.int .u16 (IntKind.u16.wrap ((BitVec.ofInt 16 (x.toNat : Int) &&& BitVec.ofInt 16 (y.toNat : Int)).toNat : Int))) = _
 rw [ofInt_nat, ofInt_nat, wrapB16]
theorem band16c (x : BitVec 16) (c : Nat) : abin .and (.int .u16 (x.toNat : Int)) (.int .u16 (no_index (@OfNat.ofNat Int c instOfNat))) = some (.int .u16 ((x &&& BitVec.ofNat 16 c).toNat : Int)) := by
 show some (Value.int .u16 (IntKind.u16.wrap ((BitVec.ofInt 16 (x.toNat : Int) &&& BitVec.ofInt 16 ((c : Nat) : Int)).toNat : Int))) = _
 rw [ofInt_nat, BitVec.ofInt_natCast, wrapB16]
theorem bor16 (x y : BitVec 16) : abin .or (.int .u16 (x.toNat : Int)) (.int .u16 (y.toNat : Int)) = some (.int .u16 ((x ||| y).toNat : Int)) := by
 show some (Value.int .u16 (IntKind.u16.wrap ((BitVec.ofInt 16 (x.toNat : Int) ||| BitVec.ofInt 16 (y.toNat : Int)).toNat : Int))) = _
 rw [ofInt_nat, ofInt_nat, wrapB16]
theorem bor16c (x : BitVec 16) (c : Nat) : abin .or (.int .u16 (x.toNat : Int)) (.int .u16 (no_index (@OfNat.ofNat Int c instOfNat))) = some (.int .u16 ((x ||| BitVec.ofNat 16 c).toNat : Int)) := by
 show some (Value.int .u16 (IntKind.u16.wrap ((BitVec.ofInt 16 (x.toNat : Int) ||| BitVec.ofInt 16 ((c : Nat) : Int)).toNat : Int))) = _
 rw [ofInt_nat, BitVec.ofInt_natCast, wrapB16]
theorem bxor16 (x y : BitVec 16) : abin .xor (.int .u16 (x.toNat : Int)) (.int .u16 (y.toNat : Int)) = some (.int .u16 ((x ^^^ y).toNat : Int)) := by
 show some (Value.int .u16 (IntKind.u16.wrap ((BitVec.ofInt 16 (x.toNat : Int) ^^^ BitVec.ofInt 16 (y.toNat : Int)).toNat : Int))) = _
 rw [ofInt_nat, ofInt_nat, wrapB16]
theorem bxor16c (x : BitVec 16) (c : Nat) : abin .xor (.int .u16 (x.toNat : Int)) (.int .u16 (no_index (@OfNat.ofNat Int c instOfNat))) = some (.int .u16 ((x ^^^ BitVec.ofNat 16 c).toNat : Int)) := by
 show some (Value.int .u16 (IntKind.u16.wrap ((BitVec.ofInt 16 (x.toNat : Int) ^^^ BitVec.ofInt 16 ((c : Nat) : Int)).toNat : Int))) = _
 rw [ofInt_nat, BitVec.ofInt_natCast, wrapB16]
theorem bandNot16 (x y : BitVec 16) : abin .andNot (.int .u16 (x.toNat : Int)) (.int .u16 (y.toNat : Int)) = some (.int .u16 ((x &&& ~~~y).toNat : Int)) := by
 show some (Value.int .u16 (IntKind.u16.wrap ((BitVec.ofInt 16 (x.toNat : Int) &&& ~~~ BitVec.ofInt 16 (y.toNat : Int)).toNat : Int))) = _
 rw [ofInt_nat, ofInt_nat, wrapB16]
theorem band32 (x y : BitVec 32) : abin .and (.int .u32 (x.toNat : Int)) (.int .u32 (y.toNat : Int)) = some (.int .u32 ((x &&& y).toNat : Int)) := by
 show some (Value.int .u32 (IntKind.u32.wrap ((BitVec.ofInt 32 (x.toNat : Int) &&& BitVec.ofInt 32 (y.toNat : Int)).toNat : Int))) = _
 rw [ofInt_nat, ofInt_nat, wrapB32]
theorem band32c (x : BitVec 32) (c : Nat) : abin .and (.int .u32 (x.toNat : Int)) (.int .u32 (no_index (@OfNat.ofNat Int c instOfNat))) = some (.int .u32 ((x &&& BitVec.ofNat 32 c).toNat : Int)) := by
 show some (Value.int .u32 (IntKind.u32.wrap ((BitVec.ofInt 32 (x.toNat : Int) &&& BitVec.ofInt 32 ((c : Nat) : Int)).toNat : Int))) = _
 rw [ofInt_nat, BitVec.ofInt_natCast, wrapB32]
theorem bor32 (x y : BitVec 32) : abin .or (.int .u32 (x.toNat : Int)) (.int .u32 (y.toNat : Int)) = some (.int .u32 ((x ||| y).toNat : Int)) := by
 show some (Value.int .u32 (IntKind.u32.wrap ((BitVec.ofInt 32 (x.toNat : Int) ||| BitVec.ofInt 32 (y.toNat : Int)).toNat : Int))) = _
 rw [ofInt_nat, ofInt_nat, wrapB32]
theorem bor32c (x : BitVec 32) (c : Nat) : abin .or (.int .u32 (x.toNat : Int)) (.int .u32 (no_index (@OfNat.ofNat Int c instOfNat))) = some (.int .u32 ((x ||| BitVec.ofNat 32 c).toNat : Int)) := by
 show some (Value.int .u32 (IntKind.u32.wrap ((BitVec.ofInt 32 (x.toNat : Int) ||| BitVec.ofInt 32 ((c : Nat) : Int)).toNat : Int))) = _
 rw [ofInt_nat, BitVec.ofInt_natCast, wrapB32]
theorem bxor32 (x y : BitVec 32) : abin .xor (.int .u32 (x.toNat : Int)) (.int .u32 (y.toNat : Int)) = some (.int .u32 ((x ^^^ y).toNat : Int)) := by
 show some (Value.int .u32 (IntKind.u32.wrap ((BitVec.ofInt 32 (x.toNat : Int) ^^^ BitVec.ofInt 32 (y.toNat : Int)).toNat : Int))) = _
 rw [ofInt_nat, ofInt_nat, wrapB32]
theorem bxor32c (x : BitVec 32) (c : Nat) : abin .xor (.int .u32 (x.toNat : Int)) (.int .u32 (no_index (@OfNat.ofNat Int c instOfNat))) = some (.int .u32 ((x ^^^ BitVec.ofNat 32 c).toNat : Int)) := by
 show some (Value.int .u32 (IntKind.u32.wrap ((BitVec.ofInt 32 (x.toNat : Int) ^^^ BitVec.ofInt 32 ((c : Nat) : Int)).toNat : Int))) = _
 rw [ofInt_nat, BitVec.ofInt_natCast, wrapB32]
theorem bandNot32 (x y : BitVec 32) : abin .andNot (.int .u32 (x.toNat : Int)) (.int .u32 (y.toNat : Int)) = some (.int .u32 ((x &&& ~~~y).toNat : Int)) := by
 show some (Value.int .u32 (IntKind.u32.wrap ((BitVec.ofInt 32 (x.toNat : Int) &&& ~~~ BitVec.ofInt 32 (y.toNat : Int)).toNat : Int))) = _
 rw [ofInt_nat, ofInt_nat, wrapB32]
theorem band64 (x y : BitVec 64) : abin .and (.int .u64 (x.toNat : Int)) (.int .u64 (y.toNat : Int)) = some (.int .u64 ((x &&& y).toNat : Int)) := by
 show some (Value.int .u64 (IntKind.u64.wrap ((BitVec.ofInt 64 (x.toNat : Int) &&& BitVec.ofInt 64 (y.toNat : Int)).toNat : Int))) = _
 rw [ofInt_nat, ofInt_nat, wrapB64]
theorem band64c (x : BitVec 64) (c : Nat) : abin .and (.int .u64 (x.toNat : Int)) (.int .u64 (no_index (@OfNat.ofNat Int c instOfNat))) = some (.int .u64 ((x &&& BitVec.ofNat 64 c).toNat : Int)) := by
 show some (Value.int .u64 (IntKind.u64.wrap ((BitVec.ofInt 64 (x.toNat : Int) &&& BitVec.ofInt 64 ((c : Nat) : Int)).toNat : Int))) = _
 rw [ofInt_nat, BitVec.ofInt_natCast, wrapB64]
theorem bor64 (x y : BitVec 64) : abin .or (.int .u64 (x.toNat : Int)) (.int .u64 (y.toNat : Int)) = some (.int .u64 ((x ||| y).toNat : Int)) := by
 show some (Value.int .u64 (IntKind.u64.wrap ((BitVec.ofInt 64 (x.toNat : Int) ||| BitVec.ofInt 64 (y.toNat : Int)).toNat : Int))) = _
 rw [ofInt_nat, ofInt_nat, wrapB64]
theorem bor64c (x : BitVec 64) (c : Nat) : abin .or (.int .u64 (x.toNat : Int)) (.int .u64 (no_index (@OfNat.ofNat Int c instOfNat))) = some (.int .u64 ((x ||| BitVec.ofNat 64 c).toNat : Int)) := by
 show some (Value.int .u64 (IntKind.u64.wrap ((BitVec.ofInt 64 (x.toNat : Int) ||| BitVec.ofInt 64 ((c : Nat) : Int)).toNat : Int))) = _
 rw [ofInt_nat, BitVec.ofInt_natCast, wrapB64]
theorem bxor64 (x y : BitVec 64) : abin .xor (.int .u64 (x.toNat : Int)) (.int .u64 (y.toNat : Int)) = some (.int .u64 ((x ^^^ y).toNat : Int)) := by
 show some (Value.int .u64 (IntKind.u64.wrap ((BitVec.ofInt 64 (x.toNat : Int) ^^^ BitVec.ofInt 64 (y.toNat : Int)).toNat : Int))) = _
 rw [ofInt_nat, ofInt_nat, wrapB64]
theorem bxor64c (x : BitVec 64) (c : Nat) : abin .xor (.int .u64 (x.toNat : Int)) (.int .u64 (no_index (@OfNat.ofNat Int c instOfNat))) = some (.int .u64 ((x ^^^ BitVec.ofNat 64 c).toNat : Int)) := by
 show some (Value.int .u64 (IntKind.u64.wrap ((BitVec.ofInt 64 (x.toNat : Int) ^^^ BitVec.ofInt 64 ((c : Nat) : Int)).toNat : Int))) = _
 rw [ofInt_nat, BitVec.ofInt_natCast, wrapB64]
theorem bandNot64 (x y : BitVec 64) : abin .andNot (.int .u64 (x.toNat : Int)) (.int .u64 (y.toNat : Int)) = some (.int .u64 ((x &&& ~~~y).toNat : Int)) := by
 show some (Value.int .u64 (IntKind.u64.wrap ((BitVec.ofInt 64 (x.toNat : Int) &&& ~~~ BitVec.ofInt 64 (y.toNat : Int)).toNat : Int))) = _
 rw [ofInt_nat, ofInt_nat, wrapB64]
abbrev by8 (x : BitVec 8) : IV := .int .u8 (x.toNat : Int)
def copyF (sz : Nat) (d s : IV) (J : JH) : Option (IV × JH) := icopy sz d s J
theorem iexec_copy {B : IBook} {C : ICall} {md : Md} {ρ : List IV} {sz : Nat} {d s : Operand} {J : JH} : iexec B C md ρ (.copy sz d s) J = copyF sz (evI ρ d) (evI ρ s) J := rfl
theorem copyF_ls {sz b v off dl cap : Nat} {x : IV} {xs : List IV} {J : JH} (hx : Ls sz x xs) (h0 : min xs.length dl ≠ 0) : copyF sz (.sl b v off dl cap sz) x J = (match iwr J b v off ((xs.flatMap icells).take (min xs.length dl * sz)) with | some J' => some (.int .i64 (min xs.length dl : Nat), J') | none => none) := by
 unfold copyF icopy
 rw [hx.ilen, hx.cells]
 simp only [ilen, if_neg h0, if_true]
 rfl
theorem copyF_0 {sz b v off dl cap : Nat} {x : IV} {xs : List IV} {J : JH} (hx : Ls sz x xs) (h0 : min xs.length dl = 0) : copyF sz (.sl b v off dl cap sz) x J = some (.int .i64 0, J) := by
 unfold copyF icopy
 rw [hx.ilen]
 simp only [ilen, h0, if_true]
theorem push_set {α : Type} (J : Array α) (X Y : α) : (J.push X).setIfInBounds J.size Y = J.push Y := by
 rcases J with ⟨l⟩
 simp
theorem push_get {α : Type} (J : Array α) (X : α) : (J.push X)[J.size]? = some X := by simp
theorem set_get {α : Type} (J : Array α) {b : Nat} {X : α} (h : b < J.size) : (J.setIfInBounds b X)[b]? = some X := by simp [h]
theorem set_set {α : Type} (J : Array α) {b : Nat} {X Y : α} : (J.setIfInBounds b X).setIfInBounds b Y = J.setIfInBounds b Y := by
 rcases J with ⟨l⟩
 simp
theorem pcK (n : Nat) {f : FuncId} {args : List IV} {u : IV} (h : (match icall BI n f args #[] with | some (v, J) => frz J DEP v | none => none) = some u) : pc BI f args = some u := by
 split at h
 ·rename_i v J hc
  exact pcN n hc h
 ·simp at h
theorem natBeqD (a b : Nat) : (a == b) = decide (a = b) := by rw [Bool.eq_iff_iff]; simp
theorem s11 (n : Nat) : n + 1 + 1 = n + 2 := rfl
theorem s12 (n : Nat) : n + 1 + 2 = n + 3 := rfl
theorem s13 (n : Nat) : n + 1 + 3 = n + 4 := rfl
theorem s22 (n : Nat) : n + 2 + 2 = n + 4 := rfl
theorem s23 (n : Nat) : n + 2 + 3 = n + 5 := rfl
theorem s21 (n : Nat) : n + 2 + 1 = n + 3 := rfl
theorem s31 (n : Nat) : n + 3 + 1 = n + 4 := rfl
theorem s41 (n : Nat) : n + 4 + 1 = n + 5 := rfl
theorem s51 (n : Nat) : n + 5 + 1 = n + 6 := rfl
theorem ite_max {a b : Int} : (if b > a then b else a) = max a b := by split <;> omega
theorem ite_min {a b : Int} : (if b < a then b else a) = min a b := by split <;> omega
attribute [go_sem] push_set push_get Array.size_push Array.size_setIfInBounds set_set
attribute [go_sem] s11 s12 s13 s22 s23 s21 s31 s41 s51 Nat.left_eq_add Nat.add_eq_left List.contains_cons
attribute [go_sem ↓] iexec_copy notB32 band8 band8c bor8 bor8c bxor8 bxor8c bandNot8 band16 band16c bor16 bor16c bxor16 bxor16c bandNot16 band32 band32c bor32 bor32c bxor32 bxor32c bandNot32 band64 band64c bor64 bor64c bxor64 bxor64c bandNot64
attribute [go_sem] lt_UNK not_UNK_le UNK_pos one_lt_UNK Nat.min_eq_left Nat.min_eq_right convB8 convB16 convB32 convB64 i64B8 i64B16 i64B32 fdivB addB32 mulB32 addB32c mulB32c shlB32 shlB64 shl1B32 shl1B64 BitVec.setWidth_eq ite_max ite_min ofInt_nat wrapB8 wrapB16 wrapB32 wrapB64 beqB bneB beqB0 bneB0
def oneM (o : Int) : BitVec 32 := if 0 ≤ o ∧ o < 32 then 1#32 <<< o.toNat else 0#32
theorem one_ok (o : Int) : pc BI F_mask_one [.int .i64 o] = some (m32 (oneM o)) := by
 refine pcE fn_mask_one rfl fun K hK => ?_
 unfold l_mask_one
 by_cases h : o < 0
 ·simp -implicitDefEqProofs only [go_sem, dnW_ite, go_sem_proc, h]
  exact hK _ _ (frzE rfl (by simp [itup, oneM, m32, show ¬ (0 ≤ o) by omega]))
 by_cases h2 : o ≥ 32
 ·simp -implicitDefEqProofs only [go_sem, dnW_ite, go_sem_proc, h, h2]
  exact hK _ _ (frzE rfl (by simp [itup, oneM, m32, show ¬ (o < 32) by omega]))
 ·simp -implicitDefEqProofs only [go_sem, dnW_ite, go_sem_proc, h, h2]
  refine hK _ _ (frzE rfl ?_)
  have e : min o.toNat 32 = o.toNat := by omega
  simp only [e, shl1B32, itup, oneM, m32, show (0 ≤ o ∧ o < 32) from ⟨by omega, by omega⟩, and_self, if_true]
theorem Less_ok (m n : BitVec 32) : pc BI F_mask_Mask_Less [m32 m, m32 n] = some (m32 (m &&& ~~~n)) := by
 refine pcE fn_mask_Mask_Less rfl fun K hK => ?_
 unfold l_mask_Mask_Less
 simp -implicitDefEqProofs only [go_sem, dnW_ite, go_sem_proc]
 exact hK _ _ (frzE rfl rfl)
def within (m n : BitVec 32) : Bool := m &&& ~~~n == 0#32
theorem Within_ok (m n : BitVec 32) : pc BI F_mask_Mask_Within [m32 m, m32 n] = some (.bool (within m n)) := by
 refine pcE fn_mask_Mask_Within rfl fun K hK => ?_
 unfold l_mask_Mask_Within
 simp -implicitDefEqProofs only [go_sem, dnW_ite, go_sem_proc]
 exact hK _ _ (frzE rfl rfl)
def hasM (m : BitVec 32) (o : Int) : Bool := m &&& oneM o != 0#32
theorem Has_ok (m : BitVec 32) (o : Int) : pc BI F_mask_Mask_Has [m32 m, .int .i64 o] = some (.bool (hasM m o)) := by
 refine pcE fn_mask_Mask_Has rfl fun K hK => ?_
 unfold l_mask_Mask_Has
 simp -implicitDefEqProofs only [go_sem, dnW_ite, go_sem_proc, dcp (one_ok o) rfl]
 exact hK _ _ (frzE rfl rfl)
def allM (n : Int) : BitVec 32 := BitVec.ofNat 32 (2 ^ (min (max n 0) 32).toNat - 1)
theorem All_ok (n : Int) : pc BI F_mask_All [.int .i64 n] = some (m32 (allM n)) := by
 refine pcE fn_mask_All rfl fun K hK => ?_
 unfold l_mask_All
 simp -implicitDefEqProofs only [go_sem, dnW_ite, go_sem_proc, show ¬ (min (max n 0) 32 < 0) by omega]
 refine hK _ _ (frzE rfl ?_)
 obtain ⟨k, hk, hk2⟩ : ∃ k : Nat, min (max n 0) 32 = (k : Int) ∧ k ≤ 32 := ⟨(min (max n 0) 32).toNat, by omega, by omega⟩
 simp only [itup, allM, m32, hk, Int.toNat_natCast, BitVec.toNat_ofNat]
 have h1 : (2 : Nat) ^ k ≤ 2 ^ 32 := Nat.pow_le_pow_right (by omega) hk2
 have h2 : 0 < (2 : Nat) ^ k := Nat.pow_pos (by omega)
 have h3 : (1#64 <<< k).toNat = 2 ^ k := by
  rw [BitVec.toNat_shiftLeft, Nat.shiftLeft_eq]
  simp only [BitVec.toNat_ofNat]
  omega
 simp only [Nat.min_eq_left (show k ≤ 64 by omega), h3]
 generalize (2 : Nat) ^ k = p at *
 simp only [IntKind.wrap, IntKind.bits, IntKind.signed]
 simp
 omega
theorem Meet_ok (m : BitVec 32) (x : IV) (l : List (BitVec 32)) (hx : Ls 1 x (l.map m32)) (hb : l.length ≤ 9223372036854775807) : pc BI F_mask_Mask_Meet [m32 m, x] = some (m32 (l.foldl (· &&& ·) m)) := by
 refine pcE fn_mask_Mask_Meet rfl fun K hK => ?_
 unfold l_mask_Mask_Meet
 simp -implicitDefEqProofs only [go_sem, dnW_ite, go_sem_proc, hx.lenF, dn_loop, List.length_map]
 refine WP_range (by decide) l.length (fun i vs J => vs = [m32 ((l.take i).foldl (· &&& ·) m), x, nI l.length, nI i]) ?_ rfl
 rintro i vs J rfl hi K1 g1 g2 g3
 unfold l_mask_Mask_Meet_k0
 by_cases h : i < l.length
 ·have ha := hx.at (i := i) (by simpa using h) (J := J)
  simp only [List.getElem_map] at ha
  simp -implicitDefEqProofs only [go_sem, dnW_ite, go_sem_proc, show ((i : Int) < (l.length : Int)) by omega, ha, wrapS h hb]
  refine g1 h _ _ ?_
  rw [List.take_succ_eq_append_getElem h, List.foldl_append]; rfl
 ·simp -implicitDefEqProofs only [go_sem, dnW_ite, go_sem_proc, show ¬ ((i : Int) < (l.length : Int)) by omega]
  refine g2 _ _ ?_
  unfold l_mask_Mask_Meet_k1
  simp -implicitDefEqProofs only [go_sem, dnW_ite, go_sem_proc]
  refine hK _ _ (frzE rfl ?_)
  rw [List.take_of_length_le (by omega)]; rfl
theorem Join_ok (m : BitVec 32) (x : IV) (l : List (BitVec 32)) (hx : Ls 1 x (l.map m32)) (hb : l.length ≤ 9223372036854775807) : pc BI F_mask_Mask_Join [m32 m, x] = some (m32 (l.foldl (· ||| ·) m)) := by
 refine pcE fn_mask_Mask_Join rfl fun K hK => ?_
 unfold l_mask_Mask_Join
 simp -implicitDefEqProofs only [go_sem, dnW_ite, go_sem_proc, hx.lenF, dn_loop, List.length_map]
 refine WP_range (by decide) l.length (fun i vs J => vs = [m32 ((l.take i).foldl (· ||| ·) m), x, nI l.length, nI i]) ?_ rfl
 rintro i vs J rfl hi K1 g1 g2 g3
 unfold l_mask_Mask_Join_k0
 by_cases h : i < l.length
 ·have ha := hx.at (i := i) (by simpa using h) (J := J)
  simp only [List.getElem_map] at ha
  simp -implicitDefEqProofs only [go_sem, dnW_ite, go_sem_proc, show ((i : Int) < (l.length : Int)) by omega, ha, wrapS h hb]
  refine g1 h _ _ ?_
  rw [List.take_succ_eq_append_getElem h, List.foldl_append]; rfl
 ·simp -implicitDefEqProofs only [go_sem, dnW_ite, go_sem_proc, show ¬ ((i : Int) < (l.length : Int)) by omega]
  refine g2 _ _ ?_
  unfold l_mask_Mask_Join_k1
  simp -implicitDefEqProofs only [go_sem, dnW_ite, go_sem_proc]
  refine hK _ _ (frzE rfl ?_)
  rw [List.take_of_length_le (by omega)]; rfl
theorem With_ok (m : BitVec 32) (x : IV) (l : List Int) (hx : Ls 1 x (l.map (IV.int .i64))) (hb : l.length ≤ 9223372036854775807) : pc BI F_mask_Mask_With [m32 m, x] = some (m32 (l.foldl (fun m o => m ||| oneM o) m)) := by
 refine pcE fn_mask_Mask_With rfl fun K hK => ?_
 unfold l_mask_Mask_With
 simp -implicitDefEqProofs only [go_sem, dnW_ite, go_sem_proc, hx.lenF, dn_loop, List.length_map]
 refine WP_range (by decide) l.length (fun i vs J => vs = [m32 ((l.take i).foldl (fun m o => m ||| oneM o) m), x, nI l.length, nI i]) ?_ rfl
 rintro i vs J rfl hi K1 g1 g2 g3
 unfold l_mask_Mask_With_k0
 by_cases h : i < l.length
 ·have ha := hx.at (i := i) (by simpa using h) (J := J)
  simp only [List.getElem_map] at ha
  simp -implicitDefEqProofs only [go_sem, dnW_ite, go_sem_proc, show ((i : Int) < (l.length : Int)) by omega, ha, wrapS h hb, dcp (one_ok l[i]) rfl]
  refine g1 h _ _ ?_
  rw [List.take_succ_eq_append_getElem h, List.foldl_append]; rfl
 ·simp -implicitDefEqProofs only [go_sem, dnW_ite, go_sem_proc, show ¬ ((i : Int) < (l.length : Int)) by omega]
  refine g2 _ _ ?_
  unfold l_mask_Mask_With_k1
  simp -implicitDefEqProofs only [go_sem, dnW_ite, go_sem_proc]
  refine hK _ _ (frzE rfl ?_)
  rw [List.take_of_length_le (by omega)]; rfl
theorem Of_ok (x : IV) (l : List Int) (hx : Ls 1 x (l.map (IV.int .i64))) (hb : l.length ≤ 9223372036854775807) : pc BI F_mask_Of [x] = some (m32 (l.foldl (fun m o => m ||| oneM o) 0#32)) := by
 refine pcE fn_mask_Of rfl fun K hK => ?_
 unfold l_mask_Of
 have : pc BI F_mask_Mask_With [IV.int .u32 0, x] = _ := With_ok 0#32 x l hx hb
 simp -implicitDefEqProofs only [go_sem, dnW_ite, go_sem_proc, dcp this (by simp [ipureL, hx.pure, ipure])]
 exact hK _ _ (frzE rfl rfl)
theorem fits1 {n : Nat} (h : n ≤ 1000000) : fits n 1 = true := by
 simp only [fits, Bool.and_eq_true, decide_eq_true_eq]
 omega
theorem bClone_nil (J : JH) : ic BI F_bytes_Clone [.sc (.slice none 0 0)] J = some (.sc (.slice none 0 0), J) := by
 refine ic_run fn_bytes_Clone rfl (vs := [.sc (.slice none 0 0)]) ?_
 unfold l_bytes_Clone
 simp -implicitDefEqProofs only [go_sem, dnW_ite, go_sem_proc, appF]
theorem bClone_0 (f : Bool) (J : JH) : ic BI F_bytes_Clone [.lst 1 f []] J = some (.lst 1 true [], J) := by
 refine ic_run fn_bytes_Clone rfl (vs := [.lst 1 true []]) ?_
 unfold l_bytes_Clone
 simp -implicitDefEqProofs only [go_sem, dnW_ite, go_sem_proc, appF, iappend, List.flatMap_nil, ipureL, grp, Nat.lt_irrefl, Nat.zero_lt_one, UNK_pos]
theorem bClone_ok (f : Bool) (xs : List Int) (hne : xs ≠ []) (hb : xs.length ≤ 1000000) (J : JH) :
  ic BI F_bytes_Clone [.lst 1 f (xs.map (IV.int .u8))] J = some (.sl J.size 0 0 xs.length (UNK + 1) 1, J.push (IB.cells 0 (xs.map (IV.int .u8)) false)) := by
 have hn : ¬ xs.length = 0 := fun h => hne (List.eq_nil_of_length_eq_zero h)
 refine ic_run fn_bytes_Clone rfl (vs := [.sl J.size 0 0 xs.length (UNK + 1) 1]) ?_
 unfold l_bytes_Clone
 simp -implicitDefEqProofs only [go_sem, dnW_ite, go_sem_proc, appF, iappend, ints_cells, hn, fits1 hb, ints_ione, List.flatMap_nil, ipureL, grp, Nat.lt_irrefl, Nat.zero_lt_one, UNK_pos]
theorem frz_bytes {J : JH} {b n k : Nat} {κ : IntKind} {cap : Nat} {xs : List Int} (h : ird J b k 0 (n * 1) = some (xs.map (IV.int κ))) (hn : n = xs.length) : ∃ f, frz J DEP (.sl b k 0 n cap 1) = some (.lst 1 f (xs.map (IV.int κ))) := by
 subst hn
 refine ⟨(xs.length == cap && decide (cap < UNK)), ?_⟩
 rw [frz12, frz_sl (by omega) h ints_pure ints_ione]
 have hg := grp1 (xs.map (IV.int κ))
 rw [List.length_map] at hg
 rw [hg]
theorem pc_of {f : FuncId} {args : List IV} {v : IV} {J : JH} {u : IV} (h : ic BI f args #[] = some (v, J)) (hf : frz J DEP v = some u) : pc BI f args = some u := by
 unfold pc; rw [h]; exact hf
theorem bClone_pc {x : IV} {l : List Int} (h : Bs x l) (hb : l.length ≤ 1000000) : ∃ y, pc BI F_bytes_Clone [x] = some y ∧ Bs y l := by
 rcases h with ⟨rfl, h⟩ | ⟨f, rfl⟩
 ·exact ⟨_, pc_of (bClone_nil _) (frzP rfl), .inl ⟨rfl, h⟩⟩
 ·by_cases hl : l = []
  ·subst hl
   exact ⟨_, pc_of (bClone_0 _ _) (frzP rfl), Ls.lst⟩
  ·obtain ⟨g, hg⟩ := frz_bytes (J := #[].push (IB.cells 0 (l.map (IV.int .u8)) false)) (b := 0) (n := l.length) (k := 0) (cap := UNK + 1) (xs := l) (κ := .u8) (by simp [ird]; exact List.take_of_length_le (by simp)) rfl
   exact ⟨_, pc_of (bClone_ok f l hl hb _) hg, Ls.lst⟩
def Upd (b : Nat) (J : JH) (s : IV) (J' : JH) (s' : IV) : Prop := Fr J J' (b :: blk s) ∧ ∀ c ∈ blk s', c ∈ blk s ∨ J.size ≤ c
theorem Upd.refl {b : Nat} {J : JH} {s : IV} : Upd b J s J s := ⟨.refl _ _, fun c h => .inl h⟩
theorem Upd.push {b : Nat} {J : JH} {s : IV} (X : IB) : Upd b J s (J.push X) s := ⟨.push _ _ _, fun c h => .inl h⟩
theorem Upd.trans {b : Nat} {J J1 J2 : JH} {s s1 s2 : IV} (h : Upd b J s J1 s1) (k : Upd b J1 s1 J2 s2) : Upd b J s J2 s2 := by
 refine ⟨h.1.trans k.1 fun d hd hm => ?_, fun c hc => ?_⟩
 ·rcases List.mem_cons.1 hm with rfl | hm
  ·simp
  ·rcases h.2 d hm with h | h
   ·simp [h]
   ·omega
 ·rcases k.2 c hc with h1 | h1
  ·exact h.2 c h1
  ·exact .inr (Nat.le_trans h.1.1 h1)
def PenAt (J : JH) (b : Nat) (s : IV) (l : List (BitVec 8)) : Prop := J[b]? = some (.cells 0 [s] false) ∧ b ∉ blk s ∧ Grow J s 1 (l.map by8)
theorem by8_one {l : List (BitVec 8)} : (l.map by8).all ione = true := by simp [ione, one]
theorem by8_pure {l : List (BitVec 8)} : ipureL (l.map by8) = true := ipureL_iff.2 fun x hx => by
 obtain ⟨y, _, rfl⟩ := List.mem_map.1 hx; rfl
theorem add_ok (J : JH) (b : Nat) (s x : IV) (l d : List (BitVec 8)) (h : PenAt J b s l) (hx : iscells J 1 x = some (d.map by8)) (hl : ilen x = some d.length) (hb : l.length + d.length ≤ 1000000) :
  RP (ic BI F_ink_Pen_add [.ptr b 0 0, x] J) fun r J' => r = .ptr b 0 0 ∧ ∃ s', PenAt J' b s' (l ++ d) ∧ Upd b J s J' s' := by
 refine RP_run fn_ink_Pen_add rfl fun K hK => ?_
 obtain ⟨hb1, hb2, hg⟩ := h
 unfold l_ink_Pen_add
 simp -implicitDefEqProofs only [go_sem, dnW_ite, go_sem_proc, hb1]
 refine WP_bind (hg.app (m := d.length) (ds := d.map by8) (by omega) hx hl (by simp) by8_one (fits1 (by simpa using hb))) fun s' J' hs => ?_
 obtain ⟨k1, k2, k3⟩ := hs
 have hb' : J'[b]? = some (IB.cells 0 [s] false) := by rw [k2.2 b (lt_get hb1) hb2]; exact hb1
 have ki := k1.icells
 have ko := k1.one
 simp -implicitDefEqProofs only [go_sem, dnW_ite, go_sem_proc, hb', ↓ko, ↓ki]
 refine hK _ _ ⟨rfl, s', ?_, ?_⟩
 ·have hlt' := lt_get hb'
  have hn : b ∉ blk s' := fun h => by
   rcases k3 b h with h | h
   ·exact hb2 h
   ·have := lt_get hb1; omega
  refine ⟨by simp [hlt'], hn, ?_⟩
  rw [List.map_append]
  refine k1.fr (Fr.set J' _ (S := [b]) (by simp)) fun c hc h => ?_
  rw [List.mem_singleton] at h; exact hn (h ▸ hc)
 ·refine ⟨Fr.trans (J1 := J') ⟨k2.1, fun d hd hm => k2.2 d hd (fun h => hm (by simp [h]))⟩ (Fr.set J' _ (S := [b]) (by simp)) (fun d _ hd => ?_), k3⟩
  rw [List.mem_singleton] at hd; simp [hd]
def leH (n : BitVec 16) : List (BitVec 8) := [(n &&& 255#16).setWidth 8, (n >>> 8).setWidth 8]
theorem Half_ok (J : JH) (b : Nat) (s : IV) (l : List (BitVec 8)) (n : BitVec 16) (h : PenAt J b s l) (hb : l.length + 2 ≤ 1000000) :
  RP (ic BI F_ink_Pen_Half [.ptr b 0 0, .int .u16 (n.toNat : Int)] J) fun r J' => r = .ptr b 0 0 ∧ ∃ s', PenAt J' b s' (l ++ leH n) ∧ Upd b J s J' s' := by
 refine RP_run fn_ink_Pen_Half rfl fun K hK => ?_
 unfold l_ink_Pen_Half
 simp -implicitDefEqProofs only [go_sem, dnW_ite, go_sem_proc, ipureL, ipure, grp, mkE, List.headD, one_lt_UNK, lt_UNK (show 2 ≤ 1000000 by omega)]
 refine WP_call (add_ok J b s _ l (leH n) h rfl rfl hb) fun v J' hv => ?_
 obtain ⟨rfl, hv⟩ := hv
 simp -implicitDefEqProofs only [go_sem, dnW_ite, go_sem_proc]
 exact hK _ _ ⟨rfl, hv⟩
def leW (n : BitVec 32) : List (BitVec 8) := leH (n.setWidth 16) ++ leH ((n >>> 16).setWidth 16)
theorem Word_ok (J : JH) (b : Nat) (s : IV) (l : List (BitVec 8)) (n : BitVec 32) (h : PenAt J b s l) (hb : l.length + 4 ≤ 1000000) :
  RP (ic BI F_ink_Pen_Word [.ptr b 0 0, m32 n] J) fun r J' => r = .ptr b 0 0 ∧ ∃ s', PenAt J' b s' (l ++ leW n) ∧ Upd b J s J' s' := by
 refine RP_run fn_ink_Pen_Word rfl fun K hK => ?_
 unfold l_ink_Pen_Word
 simp -implicitDefEqProofs only [go_sem, dnW_ite, go_sem_proc]
 refine WP_call (Half_ok J b s l (n.setWidth 16) h (by omega)) fun v J1 hv => ?_
 obtain ⟨rfl, s1, h1, u1⟩ := hv
 simp -implicitDefEqProofs only [go_sem, dnW_ite, go_sem_proc]
 refine WP_call (Half_ok J1 b s1 _ ((n >>> 16).setWidth 16) h1 (by simp [leH]; omega)) fun v J2 hv => ?_
 obtain ⟨rfl, s2, h2, u2⟩ := hv
 simp -implicitDefEqProofs only [go_sem, dnW_ite, go_sem_proc]
 exact hK _ _ ⟨rfl, s2, by rw [List.append_assoc] at h2; exact h2, u1.trans u2⟩
theorem Fr.mark (J : JH) (l S : List Nat) (h : ∀ d ∈ l, d ∈ S) : Fr J (markA J l) S := ⟨by rw [markA_size]; exact Nat.le_refl _, fun d _ hn => by rw [markA_get, if_neg fun hm => hn (h d hm)]⟩
theorem WP_callF {f : FuncId} {args as : List IV} {u : IV} {J : JH} {k : L} {ρ : List IV} {P} (S : List Nat) (ha : args.mapM (frz J DEP) = some as) (hp : pc BI f as = some u) (hs : ∀ d ∈ args.flatMap (shows J DEP), d ∈ S) (hk : ∀ J', Fr J J' S → J'.size = J.size → WP (dn BI k (ρ ++ [u]) J') P) : WP (thenD (doCall (ic BI) .pure f args J) k ρ) P := by
 rw [dcf ha hp]
 by_cases h : iscal u = true
 ·rw [if_pos h]; exact hk J (.refl _ _) rfl
 ·rw [if_neg h]; exact hk _ (.mark _ _ _ hs) (markA_size _ _)
theorem Grow.shows {J : JH} {s : IV} {sz : Nat} {cs : List IV} (h : Grow J s sz cs) (hp : ipureL cs = true) : ∀ d ∈ Go.Proofs.YticfcmaigffhmaaGreat.G.shows J DEP s, d ∈ blk s := by
 rcases h with ⟨rfl, rfl⟩ | ⟨b, v, n, full, rfl, h1, h2, h3, h4⟩
 ·intro d hd
  rw [shows_pure J DEP rfl] at hd
  cases hd
 ·intro d hd
  rw [frz12, shows_sl (cs := cs) (by simp [ird, h1, h2, h3]) hp] at hd
  exact hd
theorem Grow.fr0 {J J' : JH} {x : IV} {sz : Nat} {cs : List IV} (h : Grow J x sz cs) (hf : Fr J J' []) : Grow J' x sz cs := h.fr hf (by simp)
theorem frz_aggL {J : JH} {k : Nat} {l us : List IV} (h : l.mapM (frz J k) = some us) : frz J (k + 1) (.agg l) = some (.agg us) := by
 by_cases hp : ipureL l = true
 ·rw [frzL_pure J k hp] at h
  cases h
  exact frz_pure J _ (by simp only [ipure, hp])
 ·rw [frz_agg (by simpa using hp), h]; rfl
theorem frz_tupL {J : JH} {k : Nat} {l us : List IV} (h : l.mapM (frz J k) = some us) : frz J (k + 1) (.tup l) = some (.tup us) := by
 by_cases hp : ipureL l = true
 ·rw [frzL_pure J k hp] at h
  cases h
  exact frz_pure J _ (by simp only [ipure, hp])
 ·rw [frz_tup (by simpa using hp), h]; rfl
theorem grp_flat {sz : Nat} : ∀ {X : List (List IV)}, (∀ x ∈ X, x.length = sz) → grp sz X.length X.flatten = X.map (mkE sz)
 | [], _ => rfl
 | x :: X, h => by
  have hx := h x (by simp)
  rw [List.length_cons, grp, List.flatten_cons, List.take_append_of_le_length (by omega), List.take_of_length_le (by omega), List.drop_append_of_le_length (by omega), List.drop_of_length_le (by omega), List.nil_append, grp_flat fun y hy => h y (by simp [hy])]
  rfl
theorem Grow.frzX {J : JH} {s : IV} {sz : Nat} {X : List (List IV)} (h : Grow J s sz X.flatten) (hX : ∀ x ∈ X, x.length = sz) (hsz : 0 < sz) (hp : ipureL X.flatten = true) (ho : X.flatten.all ione = true) : ∃ u, (∀ k, frz J (k + 1) s = some u) ∧ Ls sz u (X.map (mkE sz)) := by
 obtain ⟨_, ⟨rfl, rfl⟩ | ⟨b, v, rest, rfl, h2⟩⟩ := h.slx hX hsz
 ·exact ⟨_, fun k => frz_pure J _ rfl, .nil⟩
 ·refine ⟨.lst sz (X.length == UNK + sz && decide (UNK + sz < UNK)) (X.map (mkE sz)), fun k => ?_, .lst⟩
  have hlen := flat_len hX
  rw [frz_sl (cs := X.flatten) hsz (by simp only [ird, h2, true_and, Nat.zero_add, List.drop_zero]; rw [if_pos (by rw [List.length_append, hlen]; omega), List.take_append_of_le_length (by omega), List.take_of_length_le (by omega)]) hp ho, grp_flat hX]
theorem mkE1_map (l : List IV) : (l.map fun x => [x]).map (mkE 1) = l := by
 rw [List.map_map]
 conv => rhs; rw [← List.map_id l]
 rfl
theorem flat1 (l : List IV) : (l.map fun x => [x]).flatten = l := by induction l <;> simp_all
theorem Grow.frzE1 {J : JH} {s : IV} {cs : List IV} (h : Grow J s 1 cs) (hp : ipureL cs = true) (ho : cs.all ione = true) : ∃ u, (∀ k, frz J (k + 1) s = some u) ∧ Ls 1 u cs := by
 have := Grow.frzX (X := cs.map fun x => [x]) (by rw [flat1]; exact h) (by simp) (by omega) (by rw [flat1]; exact hp) (by rw [flat1]; exact ho)
 rw [mkE1_map] at this
 exact this
def sliceF (sz : Nat) (x : IV) (lo hi mx : Option IV) (J : JH) : Option (IV × JH) := ilift (islice sz x lo hi mx) J
theorem iexec_slice {B : IBook} {C : ICall} {md : Md} {ρ : List IV} {sz : Nat} {x : Operand} {lo hi mx : Option Operand} {J : JH} : iexec B C md ρ (.slice sz x lo hi mx) J = sliceF sz (evI ρ x) (lo.map (evI ρ)) (hi.map (evI ρ)) (mx.map (evI ρ)) J := rfl
theorem sliceF_sl {sz b v o n c z : Nat} {lo hi mx : Option IV} {J : JH} : sliceF sz (.sl b v o n c z) lo hi mx J = ilift (islice sz (.sl b v o n c z) lo hi mx) J := rfl
attribute [go_sem ↓] iexec_slice
attribute [go_sem] sliceF_sl
theorem Ls.slice {sz : Nat} {x : IV} {xs : List IV} (hx : Ls sz x xs) {h : Nat} (hh : h ≤ xs.length) : ∃ y, (∀ J, sliceF sz x none (some (nI h)) none J = some (y, J)) ∧ Ls sz y (xs.take h) := by
 rcases hx with ⟨rfl, rfl⟩ | ⟨f, rfl⟩
 ·obtain rfl : h = 0 := by simpa using hh
  exact ⟨_, fun J => rfl, .nil⟩
 ·refine ⟨_, fun J => ?_, .lst (f := (f && h == xs.length))⟩
  simp only [sliceF, islice, Option.isSome_none, Option.isNone_some, Bool.and_false, bne_self_eq_false, Bool.or_false, Bool.false_eq_true, if_false, ibnd, iasNat, asNat, Int.natCast_nonneg, if_true, Int.toNat_natCast, Nat.zero_le, hh, Nat.le_refl, true_and, List.drop_zero, Nat.sub_zero, Bool.false_and, Bool.false_or, Option.isNone_none, Bool.and_true, false_implies, and_self, ilift]
theorem Ls.sliceLo {sz : Nat} {x : IV} {xs : List IV} (hx : Ls sz x xs) {l : Nat} (hl : l ≤ xs.length) : ∃ y, (∀ J, sliceF sz x (some (nI l)) none none J = some (y, J)) ∧ Ls sz y (xs.drop l) := by
 rcases hx with ⟨rfl, rfl⟩ | ⟨f, rfl⟩
 ·obtain rfl : l = 0 := by simpa using hl
  exact ⟨_, fun J => rfl, .nil⟩
 ·refine ⟨_, fun J => ?_, .lst (f := f)⟩
  simp [sliceF, islice, ibnd, iasNat, asNat, hl, ilift]
  exact List.take_of_length_le (by simp)
theorem mkE_flat {sz : Nat} {X : List (List IV)} (hX : ∀ x ∈ X, x.length = sz) (ho : X.flatten.all ione = true) : (X.map (mkE sz)).flatMap icells = X.flatten := by
 induction X with
 | nil => rfl
 | cons x X ih =>
  simp only [List.flatten_cons, List.all_append, Bool.and_eq_true] at ho
  simp only [List.map_cons, List.flatMap_cons, List.flatten_cons]
  rw [ih (fun y hy => hX y (by simp [hy])) ho.2]
  congr 1
  have hl := hX x (by simp)
  unfold mkE
  by_cases h1 : sz = 1
  ·rw [if_pos h1]
   subst h1
   obtain ⟨v, rfl⟩ := List.length_eq_one_iff.1 hl
   have : ione v = true := by simpa using ho.1
   cases v <;> simp_all [icells, ione]
  ·rw [if_neg h1]; rfl
def Clip (J J' : JH) (s : IV) (sz : Nat) (X : List (List IV)) : Prop := (X = [] ∧ s = .lst sz true [] ∧ J' = J) ∨ (X ≠ [] ∧ s = .sl J.size 0 0 X.length (UNK + sz) sz ∧ J' = J.push (.cells 0 X.flatten false))
theorem app_clip {sz by' : Nat} {y : IV} {X : List (List IV)} {J : JH} (hy : Ls sz y (X.map (mkE sz))) (hsz : 0 < sz) (hX : ∀ x ∈ X, x.length = sz) (ho : X.flatten.all ione = true) (hf : fits X.length by' = true) :
  RP (appF sz by' (.lst sz true []) y J) fun s J' => Clip J J' s sz X := by
 have hc := hy.cells J
 rw [mkE_flat hX ho] at hc
 have hl := hy.ilen
 rw [List.length_map] at hl
 simp only [appF, if_pos hsz, iappend, hc, hl]
 by_cases h0 : X.length = 0
 ·rw [if_pos h0]
  exact .inl ⟨List.eq_nil_of_length_eq_zero h0, rfl, rfl⟩
 ·rw [if_neg h0]
  simp only [List.length_nil, Nat.zero_add, beq_self_eq_true, Bool.true_and, hf, ho, Bool.and_self, if_true, List.flatMap_nil, List.nil_append, RP]
  exact .inr ⟨fun e => h0 (by rw [e]; rfl), rfl, rfl⟩
theorem Clip.frz {J J' : JH} {s : IV} {sz : Nat} {X : List (List IV)} (h : Clip J J' s sz X) (hsz : 0 < sz) (hX : ∀ x ∈ X, x.length = sz) (hp : ipureL X.flatten = true) (ho : X.flatten.all ione = true) : ∃ u, (∀ k, frz J' (k + 1) s = some u) ∧ Ls sz u (X.map (mkE sz)) := by
 rcases h with ⟨rfl, rfl, rfl⟩ | ⟨hne, rfl, rfl⟩
 ·exact ⟨_, fun k => frz_pure _ _ rfl, .lst⟩
 ·refine ⟨.lst sz (X.length == UNK + sz && decide (UNK + sz < UNK)) (X.map (mkE sz)), fun k => ?_, .lst⟩
  rw [frz_sl (cs := X.flatten) hsz ?_ hp ho, grp_flat hX]
  simp only [ird, push_get, true_and, Nat.zero_add, List.drop_zero]
  rw [if_pos (by rw [flat_len hX]; exact Nat.le_refl _), List.take_of_length_le (by rw [flat_len hX]; exact Nat.le_refl _)]
theorem Clip.fr {J J' : JH} {s : IV} {sz : Nat} {X : List (List IV)} (h : Clip J J' s sz X) : Fr J J' [] := by
 rcases h with ⟨_, _, rfl⟩ | ⟨_, _, rfl⟩
 ·exact .refl _ _
 ·exact .push _ _ _
theorem Clip.lenF {J J' : JH} {s : IV} {sz : Nat} {X : List (List IV)} (h : Clip J J' s sz X) (J2 : JH) : Go.Proofs.YticfcmaigffhmaaGreat.G.lenF false s J2 = some (nI X.length, J2) := by
 rcases h with ⟨rfl, rfl, _⟩ | ⟨_, rfl, _⟩ <;> rfl
attribute [go_sem] Nat.add_lt_add_iff_left Nat.add_left_cancel_iff Nat.lt_add_right_iff_pos Array.getElem?_push Array.getElem?_setIfInBounds
theorem gsE {J : JH} {b d : Nat} {X : IB} (e : b = d) (h : b < J.size) : (J.setIfInBounds b X)[d]? = some X := by subst e; exact set_get J h
theorem gsN {J : JH} {b d : Nat} {X : IB} {r : Option IB} (h : b ≠ d) (k : J[d]? = r) : (J.setIfInBounds b X)[d]? = r := by rw [Array.getElem?_setIfInBounds, if_neg h]; exact k
theorem gpN {J : JH} {d : Nat} {X : IB} {r : Option IB} (h : d < J.size) (k : J[d]? = r) : (J.push X)[d]? = r := by rw [Array.getElem?_push, if_neg (by omega)]; exact k
theorem gpE {J : JH} {d : Nat} {X : IB} (h : d = J.size) : (J.push X)[d]? = some X := by subst h; exact push_get J X
theorem Fr.psh {J J1 : JH} {S : List Nat} (h : Fr J J1 S) {X : IB} : Fr J (J1.push X) S := h.trans (Fr.push _ _ S) (fun _ _ h => h)
theorem Fr.stn {J J1 : JH} {S : List Nat} (h : Fr J J1 S) {b : Nat} {X : IB} (hb : J.size ≤ b) : Fr J (J1.setIfInBounds b X) S := ⟨by rw [Array.size_setIfInBounds]; exact h.1, fun d hd hn => by rw [Array.getElem?_setIfInBounds, if_neg (by omega)]; exact h.2 d hd hn⟩
theorem Fr.sts {J J1 : JH} {S : List Nat} (h : Fr J J1 S) {b : Nat} {X : IB} (hb : b ∈ S) : Fr J (J1.setIfInBounds b X) S := h.trans (Fr.set _ _ hb) (fun _ _ h => h)
def RawX (J : JH) (s : IV) (sz : Nat) (X : List (List IV)) : Prop := ∃ b v c, s = .sl b v 0 X.length c sz ∧ J[b]? = some (.cells v X.flatten false)
theorem RawX.fr {J J' : JH} {s : IV} {sz : Nat} {X : List (List IV)} {S : List Nat} (h : RawX J s sz X) (hf : Fr J J' S) (hs : ∀ d ∈ blk s, d ∉ S) : RawX J' s sz X := by
 obtain ⟨b, v, c, rfl, hb⟩ := h
 exact ⟨b, v, c, rfl, by rw [hf.2 b (lt_get hb) (hs b (by simp [blk, blkOf]))]; exact hb⟩
theorem RawX.low {J : JH} {s : IV} {sz : Nat} {X : List (List IV)} (h : RawX J s sz X) : ∀ d ∈ blk s, d < J.size := by
 obtain ⟨b, v, c, rfl, hb⟩ := h
 intro d hd; simp [blk, blkOf] at hd; subst hd; exact lt_get hb
theorem RawX.lenF {J : JH} {s : IV} {sz : Nat} {X : List (List IV)} (h : RawX J s sz X) (J2 : JH) : Go.Proofs.YticfcmaigffhmaaGreat.G.lenF false s J2 = some (nI X.length, J2) := by
 obtain ⟨b, v, c, rfl, hb⟩ := h; rfl
theorem RawX.rd {J : JH} {b v c sz : Nat} {X : List (List IV)} (hb : J[b]? = some (.cells v X.flatten false)) (hX : ∀ x ∈ X, x.length = sz) : ird J b v 0 (X.length * sz) = some X.flatten := by
 have hl := flat_len hX
 simp only [ird, hb, true_and, Nat.zero_add, List.drop_zero]
 rw [if_pos (by omega), List.take_of_length_le (by omega)]
theorem RawX.frz {J : JH} {s : IV} {sz : Nat} {X : List (List IV)} (h : RawX J s sz X) (hsz : 0 < sz) (hX : ∀ x ∈ X, x.length = sz) (hp : ipureL X.flatten = true) (ho : X.flatten.all ione = true) : ∃ u, (∀ k, Go.Proofs.YticfcmaigffhmaaGreat.G.frz J (k + 1) s = some u) ∧ Ls sz u (X.map (mkE sz)) := by
 obtain ⟨b, v, c, rfl, hb⟩ := h
 refine ⟨_, fun k => frz_sl hsz (RawX.rd (c := c) hb hX) hp ho, ?_⟩
 rw [grp_flat hX]; exact .lst
theorem RawX.shows {J : JH} {s : IV} {sz : Nat} {X : List (List IV)} (h : RawX J s sz X) (hX : ∀ x ∈ X, x.length = sz) (hp : ipureL X.flatten = true) : ∀ d ∈ Go.Proofs.YticfcmaigffhmaaGreat.G.shows J DEP s, d ∈ blk s := by
 obtain ⟨b, v, c, rfl, hb⟩ := h
 intro d hd
 rw [frz12, shows_sl (RawX.rd (c := c) hb hX) hp] at hd
 exact hd
inductive FA (J : JH) (S : List Nat) : List IV → List IV → Prop where
 | nil : FA J S [] []
 | pure {v : IV} {vs us : List IV} : ipure v = true → FA J S vs us → FA J S (v :: vs) (v :: us)
 | raw {v u : IV} {vs us : List IV} : frz J DEP v = some u → (∀ d ∈ shows J DEP v, d ∈ S) → FA J S vs us → FA J S (v :: vs) (u :: us)
theorem FA.mapM {J : JH} {S : List Nat} {vs us : List IV} (h : FA J S vs us) : vs.mapM (frz J DEP) = some us := by
 induction h with
 | nil => rfl
 | pure hv _ ih => rw [List.mapM_cons, frz_pure J _ hv, ih]; rfl
 | raw hv _ _ ih => rw [List.mapM_cons, hv, ih]; rfl
theorem FA.shown {J : JH} {S : List Nat} {vs us : List IV} (h : FA J S vs us) : ∀ d ∈ vs.flatMap (shows J DEP), d ∈ S := by
 induction h with
 | nil => simp
 | pure hv _ ih => rw [List.flatMap_cons, shows_pure J _ hv]; exact ih
 | raw _ hs _ ih =>
  intro d hd
  rw [List.flatMap_cons] at hd
  rcases List.mem_append.1 hd with hd | hd
  ·exact hs d hd
  ·exact ih d hd
theorem WP_callG {f : FuncId} {args as : List IV} {u : IV} {J : JH} {k : L} {ρ : List IV} {P} {S : List Nat} (ha : FA J S args as) (hp : pc BI f as = some u) (hk : ∀ J', Fr J J' S → J'.size = J.size → WP (dn BI k (ρ ++ [u]) J') P) : WP (thenD (doCall (ic BI) .pure f args J) k ρ) P :=
 WP_callF S ha.mapM hp ha.shown hk
def KeepC (J J' : JH) : Prop := ∀ (d w : Nat) (cs : List IV) (f : Bool), J[d]? = some (IB.cells w cs f) → ∃ f', J'[d]? = some (IB.cells w cs f')
theorem KeepC.refl (J : JH) : KeepC J J := fun d w cs f h => ⟨f, h⟩
theorem KeepC.mark (J : JH) (l : List Nat) : KeepC J (markA J l) := fun d w cs f h => by
 rw [markA_get]
 by_cases hm : d ∈ l
 ·rw [if_pos hm, h]; exact ⟨true, rfl⟩
 ·rw [if_neg hm, h]; exact ⟨f, rfl⟩
theorem KeepC.rd {J J' : JH} (h : KeepC J J') {b v off n : Nat} {cs : List IV} (hr : ird J b v off n = some cs) : ird J' b v off n = some cs := by
 unfold ird at hr ⊢
 cases hb : J[b]? with
 | none => rw [hb] at hr; simp at hr
 | some X =>
  rw [hb] at hr
  cases X with
  | cells w c f =>
   obtain ⟨f', hf⟩ := h b w c f hb
   rw [hf]; exact hr
  | map _ _ => simp at hr
theorem KeepC.cells {J J' : JH} (h : KeepC J J') {sz : Nat} {x : IV} {cs : List IV} (hr : iscells J sz x = some cs) : iscells J' sz x = some cs := by
 unfold iscells at hr ⊢
 split at hr
 ·exact hr
 ·exact h.rd hr
 ·exact hr
 ·cases hr
def ones (κ : IntKind) (l : List Int) : List (List IV) := l.map fun v => [IV.int κ v]
set_option maxHeartbeats 1000000
def PenR (b : Nat) (J : JH) (s : IV) (l : List (BitVec 8)) (r : IV) (J' : JH) : Prop := r = .ptr b 0 0 ∧ ∃ s', PenAt J' b s' l ∧ Upd b J s J' s'
theorem PByte_ok (J : JH) (b : Nat) (s : IV) (l : List (BitVec 8)) (x : BitVec 8) (h : PenAt J b s l) (hb : l.length + 1 ≤ 1000000) :
  RP (ic BI F_ink_Pen_Byte [.ptr b 0 0, by8 x] J) (PenR b J s (l ++ [x])) := by
 refine RP_run fn_ink_Pen_Byte rfl fun K hK => ?_
 unfold l_ink_Pen_Byte
 simp -implicitDefEqProofs only [go_sem, dnW_ite, go_sem_proc, ipureL, ipure, grp, mkE, List.headD, one_lt_UNK]
 refine WP_call (add_ok J b s _ l [x] h rfl rfl hb) fun v J' hv => ?_
 obtain ⟨rfl, hv⟩ := hv
 simp -implicitDefEqProofs only [go_sem, dnW_ite, go_sem_proc]
 exact hK _ _ ⟨rfl, hv⟩
def numL : Nat → Nat → List (BitVec 8)
 | 0, n => [BitVec.ofNat 8 n]
 | k + 1, n => if 128 ≤ n then BitVec.ofNat 8 (n % 128 + 128) :: numL k (n / 128) else [BitVec.ofNat 8 n]
theorem numL_len : ∀ k n, (numL k n).length ≤ k + 1
 | 0, n => by simp [numL]
 | k + 1, n => by
  rw [numL]
  split
  ·have := numL_len k (n / 128); simp; omega
  ·simp
theorem num_or (n : Nat) : abin .or (.int .u8 (IntKind.u8.wrap (n : Int))) (.int .u8 128) = some (.int .u8 ((BitVec.ofNat 8 (n % 128 + 128)).toNat : Int)) := by
 have e1 : IntKind.u8.wrap (n : Int) = ((BitVec.ofNat 8 n).toNat : Int) := by
  simp only [IntKind.wrap, IntKind.bits, IntKind.signed, BitVec.toNat_ofNat]; simp
 rw [e1, bor8c]
 have e2 : BitVec.ofNat 8 n ||| BitVec.ofNat 8 128 = BitVec.ofNat 8 (n % 128 + 128) := by
  apply BitVec.eq_of_getLsbD_eq
  intro i hi
  rw [BitVec.getLsbD_or, BitVec.getLsbD_ofNat, BitVec.getLsbD_ofNat, BitVec.getLsbD_ofNat]
  have h1 : (n % 128 + 128).testBit i = (n.testBit i || (128).testBit i) := by
   have : i = 0 ∨ i = 1 ∨ i = 2 ∨ i = 3 ∨ i = 4 ∨ i = 5 ∨ i = 6 ∨ i = 7 := by omega
   rcases this with rfl | rfl | rfl | rfl | rfl | rfl | rfl | rfl <;> simp [Nat.testBit_eq_decide_div_mod_eq] <;> omega
  rw [h1]
  cases n.testBit i <;> simp [hi]
 rw [e2]
theorem PNum_ok (b : Nat) (n : Nat) (hn : n < 18446744073709551616) (J : JH) (s : IV) (l : List (BitVec 8)) (h : PenAt J b s l) (hb : l.length + 10 ≤ 1000000) :
  RP (ic BI F_ink_Pen_Num [.ptr b 0 0, .int .u64 (n : Int)] J) (PenR b J s (l ++ numL 9 n)) := by
 refine RP_run fn_ink_Pen_Num rfl fun K hK => ?_
 unfold l_ink_Pen_Num
 simp -implicitDefEqProofs only [go_sem, dnW_ite, go_sem_proc, dn_loop]
 refine WP_loop (by decide) (fun k vs J' => ∃ (n' : Nat) (l' : List (BitVec 8)) (s' : IV), vs = [.ptr b 0 0, .int .u64 (n' : Int)] ∧ n' < 2 ^ (7 * (k + 1)) ∧ n' < 18446744073709551616 ∧ k ≤ 9 ∧ PenAt J' b s' l' ∧ Upd b J s J' s' ∧ l' ++ numL k n' = l ++ numL 9 n ∧ l'.length + (k + 1) ≤ l.length + 10) ?_ 9 _ _ ⟨n, l, s, rfl, by omega, hn, Nat.le_refl _, h, .refl, rfl, by omega⟩
 rintro k vs J1 ⟨n', l', s', rfl, hk, hn', hk9, h1, u1, he, hl'⟩ K1 g1 g2 g3
 unfold l_ink_Pen_Num_k0
 have fin : n' < 128 → numL k n' = [BitVec.ofNat 8 n'] → WP (dn BI l_ink_Pen_Num_k1 [.ptr b 0 0, .int .u64 (n' : Int)] J1) K := fun hlt e => by
  have e1 : IntKind.u8.wrap (n' : Int) = ((BitVec.ofNat 8 n').toNat : Int) := by
   simp only [IntKind.wrap, IntKind.bits, IntKind.signed, BitVec.toNat_ofNat]; simp
  unfold l_ink_Pen_Num_k1
  simp -implicitDefEqProofs only [go_sem, dnW_ite, go_sem_proc, ipureL, ipure, grp, mkE, List.headD, one_lt_UNK, e1]
  refine WP_call (add_ok J1 b s' _ l' [BitVec.ofNat 8 n'] h1 rfl rfl (by simp; omega)) fun v J' hv => ?_
  obtain ⟨rfl, s2, h2, u2⟩ := hv
  simp -implicitDefEqProofs only [go_sem, dnW_ite, go_sem_proc]
  rw [e] at he
  exact hK _ _ ⟨rfl, s2, by rw [← he]; exact h2, u1.trans u2⟩
 by_cases hge : 128 ≤ n'
 ·cases k with
  | zero => simp at hk; omega
  | succ k =>
   have hdv : (n' : Int).fdiv (2 ^ 7) = ((n' / 128 : Nat) : Int) := by
    rw [Int.fdiv_eq_ediv_of_nonneg _ (by decide)]; simp
   have hlt : n' / 128 < 2 ^ (7 * (k + 1)) := by
    have : 2 ^ (7 * (k + 1 + 1)) = 2 ^ (7 * (k + 1)) * 128 := by rw [show 7 * (k + 1 + 1) = 7 * (k + 1) + 7 by omega, Nat.pow_add]
    rw [this] at hk
    exact Nat.div_lt_of_lt_mul (by rw [Nat.mul_comm]; exact hk)
   simp -implicitDefEqProofs only [go_sem, dnW_ite, go_sem_proc, show ((n' : Int) ≥ 128) by omega, ↓num_or, ipureL, ipure, grp, mkE, List.headD, one_lt_UNK]
   refine WP_call (add_ok J1 b s' _ l' [BitVec.ofNat 8 (n' % 128 + 128)] h1 rfl rfl (by simp; omega)) fun v J' hv => ?_
   obtain ⟨rfl, s2, h2, u2⟩ := hv
   simp -implicitDefEqProofs only [go_sem, dnW_ite, go_sem_proc, hdv]
   refine g1 _ k _ (by omega) ⟨n' / 128, _, s2, rfl, hlt, by omega, by omega, h2, u1.trans u2, ?_, by simp; omega⟩
   rw [← he, numL, if_pos hge, List.append_assoc]; rfl
 ·simp -implicitDefEqProofs only [go_sem, dnW_ite, go_sem_proc, show ¬ ((n' : Int) ≥ 128) by omega]
  refine g2 _ _ (fin (by omega) ?_)
  cases k with
  | zero => rfl
  | succ k => rw [numL, if_neg hge]
theorem by8_cells (l : List (BitVec 8)) : (l.map by8).flatMap icells = l.map by8 := by
 induction l with
 | nil => rfl
 | cons a l ih => rw [List.map_cons, List.flatMap_cons, ih]; rfl
theorem PBlob_ok (b : Nat) (J : JH) (s x : IV) (l d : List (BitVec 8)) (hx : Ls 1 x (d.map by8)) (h : PenAt J b s l) (hb : l.length + 10 + d.length ≤ 1000000) :
  RP (ic BI F_ink_Pen_Blob [.ptr b 0 0, x] J) (PenR b J s (l ++ numL 9 d.length ++ d)) := by
 refine RP_run fn_ink_Pen_Blob rfl fun K hK => ?_
 have hw : IntKind.u64.wrap (d.length : Int) = (d.length : Int) := wrap_u64 (by omega) (by omega)
 unfold l_ink_Pen_Blob
 simp -implicitDefEqProofs only [go_sem, dnW_ite, go_sem_proc, hx.lenF, List.length_map, hw]
 refine WP_call (PNum_ok b d.length (by omega) J s l h (by omega)) fun v J1 hv => ?_
 obtain ⟨rfl, s1, h1, u1⟩ := hv
 simp -implicitDefEqProofs only [go_sem, dnW_ite, go_sem_proc]
 have hc : iscells J1 1 x = some (d.map by8) := by
  rw [hx.cells, by8_cells]
 have hnl := numL_len 9 d.length
 refine WP_call (add_ok J1 b s1 x _ d h1 hc (by rw [hx.ilen, List.length_map]) (by simp; omega)) fun v J2 hv => ?_
 obtain ⟨rfl, s2, h2, u2⟩ := hv
 simp -implicitDefEqProofs only [go_sem, dnW_ite, go_sem_proc]
 exact hK _ _ ⟨rfl, s2, h2, u1.trans u2⟩
set_option maxHeartbeats 1000000
abbrev Byt := BitVec 8
def EyeAt (J : JH) (b : Nat) (st : Option (List Byt)) : Prop := ∃ x, J[b]? = some (.cells 0 [x, .bool st.isNone] false) ∧ Ls 1 x ((st.getD []).map by8) ∧ (st = none → x = .sc (.slice none 0 0)) ∧ (st.getD []).length ≤ 1000000
theorem EyeAt.fr {J J' : JH} {b : Nat} {st : Option (List Byt)} {S : List Nat} (h : EyeAt J b st) (hf : Fr J J' S) (hb : b ∉ S) : EyeAt J' b st := by
 obtain ⟨x, h1, h2⟩ := h
 exact ⟨x, by rw [hf.2 b (lt_get h1) hb]; exact h1, h2⟩
def EyeR (b : Nat) (J J' : JH) (st : Option (List Byt)) : Prop := EyeAt J' b st ∧ Fr J J' [b]
theorem wrong_ok {J : JH} {b : Nat} {st : Option (List Byt)} (h : EyeAt J b st) : RP (ic BI F_ink_Eye_wrong [.ptr b 0 0] J) fun v J' => v = .bool st.isNone ∧ J' = J := by
 obtain ⟨x, h1, h2, h3⟩ := h
 refine RP_run fn_ink_Eye_wrong rfl fun K hK => ?_
 unfold l_ink_Eye_wrong
 simp -implicitDefEqProofs only [go_sem, dnW_ite, go_sem_proc, h1]
 exact hK _ _ ⟨rfl, rfl⟩
theorem fail_ok' {J : JH} {b : Nat} {st : Option (List Byt)} (h : EyeAt J b st) : RP (ic BI F_ink_Eye_fail [.ptr b 0 0] J) fun v J' => EyeR b J J' none := by
 obtain ⟨x, h1, h2, h3⟩ := h
 refine RP_run fn_ink_Eye_fail rfl fun K hK => ?_
 unfold l_ink_Eye_fail
 simp -implicitDefEqProofs only [go_sem, dnW_ite, go_sem_proc, h1, inb h1]
 refine hK _ _ ⟨⟨.sc (.slice none 0 0), set_get _ (lt_get h1), .nil, fun _ => rfl, by simp⟩, Fr.set _ _ (by simp)⟩
theorem Ls.slice3 {sz : Nat} {x : IV} {xs : List IV} (hx : Ls sz x xs) {h : Nat} (hh : h ≤ xs.length) (hu : h ≤ 1000000) : ∃ y, (∀ J, sliceF sz x none (some (nI h)) (some (nI h)) J = some (y, J)) ∧ Ls sz y (xs.take h) ∧ (0 < h → ∃ f ys, y = .lst sz f ys) := by
 rcases hx with ⟨rfl, rfl⟩ | ⟨f, rfl⟩
 ·obtain rfl : h = 0 := by simpa using hh
  exact ⟨_, fun J => rfl, .nil, fun h => by omega⟩
 ·have hU : h < UNK := by unfold UNK; omega
  refine ⟨_, fun J => ?_, .lst (f := true), fun _ => ⟨_, _, rfl⟩⟩
  simp [sliceF, islice, ibnd, iasNat, asNat, hh, hU, ilift]
def eTake (st : Option (List Byt)) (n : Nat) : Option (List Byt) := match st with | some l => if n ≤ l.length then some (l.drop n) else none | none => none
theorem take_ok {J : JH} {b : Nat} {st : Option (List Byt)} (h : EyeAt J b st) (n : Nat) (hn : n ≤ 1000000) : RP (ic BI F_ink_Eye_take [.ptr b 0 0, nI n] J) fun v J' => EyeR b J J' (eTake st n) ∧ (∀ l, st = some l → n ≤ l.length → Ls 1 v ((l.take n).map by8) ∧ (0 < n → ∃ f ys, v = .lst 1 f ys)) ∧ (eTake st n = none → v = .sc (.slice none 0 0)) := by
 refine RP_run fn_ink_Eye_take rfl fun K hK => ?_
 unfold l_ink_Eye_take
 simp -implicitDefEqProofs only [go_sem, dnW_ite, go_sem_proc]
 refine WP_join fun K1 j1 j2 j3 => ?_
 refine WP_call (wrong_ok h) fun v J1 hv => ?_
 obtain ⟨rfl, rfl⟩ := hv
 have failing : eTake st n = none → (∀ l, st = some l → ¬ n ≤ l.length) → ∀ J', EyeR b J1 J' none → K (.ret [.sc (.slice none 0 0)]) J' := fun e e2 J' hr => hK _ _ ⟨by rw [e]; exact hr, fun l hl hn => absurd hn (e2 l hl), fun _ => rfl⟩
 cases st with
 | none =>
  simp -implicitDefEqProofs only [go_sem, dnW_ite, go_sem_proc]
  refine WP_call (fail_ok' h) fun v J2 hv => ?_
  simp -implicitDefEqProofs only [go_sem, dnW_ite, go_sem_proc]
  exact j3 _ _ (failing rfl (fun l hl => by cases hl) J2 hv)
 | some l =>
  obtain ⟨x, h1, h2, h3⟩ := h
  simp only [Option.getD_some] at h2
  by_cases hle : n ≤ l.length
  ·simp -implicitDefEqProofs only [go_sem, dnW_ite, go_sem_proc, h1, h2.lenF, List.length_map, show ¬ ((n : Int) > (l.length : Int)) by omega]
   refine j1 _ _ ?_
   obtain ⟨y, hy, hyl, hyn⟩ := h2.slice3 (h := n) (by simpa using hle) hn
   obtain ⟨z, hz, hzl⟩ := h2.sliceLo (l := n) (by simpa using hle)
   unfold l_ink_Eye_take_k0
   simp -implicitDefEqProofs only [go_sem, dnW_ite, go_sem_proc, h1, inb h1, hy, hz, ↓hzl.icells, ↓hzl.one]
   refine hK _ _ ⟨⟨⟨z, ?_, ?_, ?_, ?_⟩, Fr.set _ _ (by simp)⟩, ?_, ?_⟩
   ·simp only [eTake, if_pos hle]; exact set_get _ (lt_get h1)
   ·simp only [eTake, if_pos hle, Option.getD_some, List.map_drop]; exact hzl
   ·simp only [eTake, if_pos hle]; intro e; cases e
   ·have h4 := h3.2
    simp only [eTake, if_pos hle, Option.getD_some, List.length_drop] at h4 ⊢; omega
   ·intro l' hl' _
    cases hl'
    exact ⟨by rw [List.map_take]; exact hyl, hyn⟩
   ·simp only [eTake, if_pos hle]; intro e; cases e
  ·simp -implicitDefEqProofs only [go_sem, dnW_ite, go_sem_proc, h1, h2.lenF, List.length_map, show ((n : Int) > (l.length : Int)) by omega]
   refine WP_call (fail_ok' ⟨x, h1, h2, h3⟩) fun v J2 hv => ?_
   simp -implicitDefEqProofs only [go_sem, dnW_ite, go_sem_proc]
   exact j3 _ _ (failing (by simp only [eTake, if_neg hle]) (fun l' hl' => by cases hl'; exact hle) J2 hv)
theorem Ls.lst_eq {sz z : Nat} {f : Bool} {xs ys : List IV} (h : Ls sz (.lst z f ys) xs) : ys = xs := by
 rcases h with ⟨h, _⟩ | ⟨f', h⟩
 ·cases h
 ·cases h; rfl
def eByte (st : Option (List Byt)) : Byt × Option (List Byt) := match st with | some (x :: l) => (x, some l) | _ => (0#8, none)
theorem EByte_ok {J : JH} {b : Nat} {st : Option (List Byt)} (h : EyeAt J b st) : RP (ic BI F_ink_Eye_Byte [.ptr b 0 0] J) fun v J' => v = by8 (eByte st).1 ∧ EyeR b J J' (eByte st).2 := by
 refine RP_run fn_ink_Eye_Byte rfl fun K hK => ?_
 unfold l_ink_Eye_Byte
 simp -implicitDefEqProofs only [go_sem, dnW_ite, go_sem_proc]
 refine WP_call (take_ok h 1 (by omega)) fun v J1 hv => ?_
 obtain ⟨h1, h2, h3⟩ := hv
 have no : eTake st 1 = none → eByte st = (0#8, none) → WP (dn BI (o (.eqNil true .slc (.tmp 1)) <| .ite (.tmp 2) (o (.iaddr 1 (.tmp 1) (.const (.int .i64 0))) <| o (.load false 1 (.tmp 3)) <| .ret [(.tmp 4)]) (.ret [(.const (.int .u8 0))])) ([.ptr b 0 0] ++ [v]) J1) K := fun e e2 => by
  rw [h3 e]
  simp -implicitDefEqProofs only [go_sem, dnW_ite, go_sem_proc]
  exact hK _ _ ⟨by rw [e2]; rfl, by rw [e2]; rw [e] at h1; exact h1⟩
 cases st with
 | none => exact no rfl rfl
 | some l =>
  cases l with
  | nil => exact no rfl rfl
  | cons x l =>
   obtain ⟨k1, k2⟩ := h2 _ rfl (by simp)
   obtain ⟨f, ys, rfl⟩ := k2 (by omega)
   obtain rfl := k1.lst_eq
   have e0 : ((x :: l).take 1).map by8 = [by8 x] := rfl
   rw [e0]
   simp -implicitDefEqProofs only [go_sem, dnW_ite, go_sem_proc]
   exact hK _ _ ⟨rfl, h1⟩
def wordL (a b c d : Byt) : BitVec 32 := a.setWidth 32 ||| (b.setWidth 32 <<< 8) ||| (c.setWidth 32 <<< 16) ||| (d.setWidth 32 <<< 24)
def eWord (st : Option (List Byt)) : BitVec 32 × Option (List Byt) := match st with | some (a :: b :: c :: d :: l) => (wordL a b c d, some l) | _ => (0#32, none)
theorem EWord_ok {J : JH} {b : Nat} {st : Option (List Byt)} (h : EyeAt J b st) : RP (ic BI F_ink_Eye_Word [.ptr b 0 0] J) fun v J' => v = m32 (eWord st).1 ∧ EyeR b J J' (eWord st).2 := by
 refine RP_run fn_ink_Eye_Word rfl fun K hK => ?_
 unfold l_ink_Eye_Word
 simp -implicitDefEqProofs only [go_sem, dnW_ite, go_sem_proc]
 refine WP_call (take_ok h 4 (by omega)) fun v J1 hv => ?_
 obtain ⟨h1, h2, h3⟩ := hv
 have no : eTake st 4 = none → eWord st = (0#32, none) → v = .sc (.slice none 0 0) ∧ K (.ret [.int .u32 0]) J1 := fun e e2 => ⟨h3 e, hK _ _ ⟨by rw [e2]; rfl, by rw [e2]; rw [e] at h1; exact h1⟩⟩
 match st, h1, h2, h3, no with
 | none, h1, h2, h3, no =>
  obtain ⟨rfl, hk⟩ := no rfl rfl
  simp -implicitDefEqProofs only [go_sem, dnW_ite, go_sem_proc]
  exact hk
 | some [], h1, h2, h3, no =>
  obtain ⟨rfl, hk⟩ := no rfl rfl
  simp -implicitDefEqProofs only [go_sem, dnW_ite, go_sem_proc]
  exact hk
 | some [a], h1, h2, h3, no =>
  obtain ⟨rfl, hk⟩ := no rfl rfl
  simp -implicitDefEqProofs only [go_sem, dnW_ite, go_sem_proc]
  exact hk
 | some [a, c], h1, h2, h3, no =>
  obtain ⟨rfl, hk⟩ := no rfl rfl
  simp -implicitDefEqProofs only [go_sem, dnW_ite, go_sem_proc]
  exact hk
 | some [a, c, d], h1, h2, h3, no =>
  obtain ⟨rfl, hk⟩ := no rfl rfl
  simp -implicitDefEqProofs only [go_sem, dnW_ite, go_sem_proc]
  exact hk
 | some (a :: c :: d :: e :: l), h1, h2, h3, no =>
  obtain ⟨k1, k2⟩ := h2 _ rfl (by simp)
  obtain ⟨f, ys, rfl⟩ := k2 (by omega)
  obtain rfl := k1.lst_eq
  have e0 : ((a :: c :: d :: e :: l).take 4).map by8 = [by8 a, by8 c, by8 d, by8 e] := rfl
  rw [e0]
  simp -implicitDefEqProofs only [go_sem, dnW_ite, go_sem_proc]
  exact hK _ _ ⟨rfl, h1⟩
def numP : Nat → Nat → List Byt → Option (Nat × List Byt)
 | _, _, [] => none
 | k, acc, b :: l => if (0 < k ∧ b.toNat = 0) ∨ 9 < k ∨ 18446744073709551615 / 2 ^ (7 * k) < b.toNat % 128 then none else if b.toNat < 128 then some (acc + b.toNat * 2 ^ (7 * k), l) else numP (k + 1) (acc + b.toNat % 128 * 2 ^ (7 * k)) l
def eNum (st : Option (List Byt)) (most : Nat) : Nat × Option (List Byt) := match st with
 | none => (0, none)
 | some l => match numP 0 0 l with
  | some (n, r) => if n ≤ most then (n, some r) else (0, none)
  | none => (0, none)
theorem fdiv_pow (a n : Nat) : ((a : Int)).fdiv (2 ^ n) = ((a / 2 ^ n : Nat) : Int) := by
 rw [Int.fdiv_eq_ediv_of_nonneg _ (Int.pow_nonneg (by omega))]; push_cast; rfl
theorem and_not128 (b : Byt) : (b &&& ~~~(128#8)).toNat = b.toNat % 128 := by
 have : ∀ b : Byt, (b &&& ~~~(128#8)).toNat = b.toNat % 128 := by decide
 exact this b
theorem or_shl {acc k p : Nat} (h : acc < 2 ^ (7 * k)) : acc ||| (p <<< (7 * k)) = acc + p * 2 ^ (7 * k) := by
 rw [Nat.or_comm, ← Nat.shiftLeft_add_eq_or_of_lt h, Nat.shiftLeft_eq]; omega
theorem andNot8c (x : BitVec 8) : abin .andNot (.int .u8 (x.toNat : Int)) (.int .u8 128) = some (.int .u8 (((x.toNat % 128 : Nat)) : Int)) := by
 rw [← and_not128]
 show some (Value.int .u8 (IntKind.u8.wrap ((BitVec.ofInt 8 (x.toNat : Int) &&& ~~~ BitVec.ofInt 8 ((128 : Nat) : Int)).toNat : Int))) = _
 rw [ofInt_nat, BitVec.ofInt_natCast, wrapB8]
theorem or64n (a c : Nat) (ha : a < 18446744073709551616) (hc : c < 18446744073709551616) : abin .or (.int .u64 (a : Int)) (.int .u64 (c : Int)) = some (.int .u64 ((a ||| c : Nat) : Int)) := by
 have e1 : (a : Int) = ((BitVec.ofNat 64 a).toNat : Int) := by rw [BitVec.toNat_ofNat, Nat.mod_eq_of_lt ha]
 have e2 : (c : Int) = ((BitVec.ofNat 64 c).toNat : Int) := by rw [BitVec.toNat_ofNat, Nat.mod_eq_of_lt hc]
 rw [e1, e2, bor64, BitVec.toNat_or, BitVec.toNat_ofNat, BitVec.toNat_ofNat, Nat.mod_eq_of_lt ha, Nat.mod_eq_of_lt hc]
theorem pow7 {k : Nat} (h : k ≤ 9) : 2 ^ (7 * k) * 2 ≤ 18446744073709551616 ∧ 0 < 2 ^ (7 * k) := by
 have h1 : 2 ^ (7 * k) ≤ 2 ^ 63 := Nat.pow_le_pow_right (by omega) (by omega)
 exact ⟨by omega, Nat.pow_pos (by omega)⟩
theorem part_fit {p k : Nat} (h : p ≤ 18446744073709551615 / 2 ^ (7 * k)) : p * 2 ^ (7 * k) < 18446744073709551616 := by
 have := Nat.mul_le_of_le_div _ _ _ h
 omega
theorem ENum_ok {J : JH} {b : Nat} {st : Option (List Byt)} (h : EyeAt J b st) (most : Nat) (hm : most < 18446744073709551616) : RP (ic BI F_ink_Eye_Num [.ptr b 0 0, .int .u64 (most : Int)] J) fun v J' => v = .int .u64 ((eNum st most).1 : Int) ∧ EyeR b J J' (eNum st most).2 := by
 refine RP_run fn_ink_Eye_Num rfl fun K hK => ?_
 unfold l_ink_Eye_Num
 simp -implicitDefEqProofs only [go_sem, dnW_ite, go_sem_proc, dn_loop]
 have bad : eNum st most = (0, none) → ∀ J', EyeR b J J' none → K (.ret [.int .u64 0]) J' := fun e J' hr => hK _ _ ⟨by rw [e]; rfl, by rw [e]; exact hr⟩
 refine WP_loop (by decide) (fun m vs J' => ∃ (k acc : Nat) (st' : Option (List Byt)), vs = [.ptr b 0 0, .int .u64 (most : Int), .int .u64 (acc : Int), nI (7 * k)] ∧ k + m = 11 ∧ EyeAt J' b st' ∧ Fr J J' [b] ∧ acc < 2 ^ (7 * k) ∧ acc < 18446744073709551616 ∧ ((st' = none ∧ eNum st most = (0, none)) ∨ ∃ l, st' = some l ∧ eNum st most = match numP k acc l with | some (n, r) => if n ≤ most then (n, some r) else (0, none) | none => (0, none))) ?_ 11 _ _ ⟨0, 0, st, rfl, rfl, h, .refl _ _, by simp, by omega, ?_⟩
 ·rintro m vs J1 ⟨k, acc, st', rfl, hkm, h1, f1, hacc, hacc2, hinv⟩ K1 g1 g2 g3
  unfold l_ink_Eye_Num_k1
  simp -implicitDefEqProofs only [go_sem, dnW_ite, go_sem_proc]
  refine WP_call (EByte_ok h1) fun v J2 hv => ?_
  obtain ⟨rfl, h2, f2⟩ := hv
  have f12 := f1.trans f2 (fun _ _ h => h)
  have failing : ∀ st2, EyeAt J2 b st2 → eNum st most = (0, none) → ∀ (rho : List IV) (K2 : Out IV → JH → Prop), (∀ ws J', K (.ret ws) J' → K2 (.ret ws) J') → WP (thenD (doCall (ic BI) .raw F_ink_Eye_fail [.ptr b 0 0] J2) (.ret [.const (.int .u64 0)]) rho) K2 := fun st2 hs e rho K2 hk2 => by
   refine WP_call (fail_ok' hs) fun v J3 hv => ?_
   simp -implicitDefEqProofs only [go_sem, dnW_ite, go_sem_proc]
   exact hk2 _ _ (bad e _ ⟨hv.1, f12.trans hv.2 (fun _ _ h => h)⟩)
  match hst : st', hinv with
  | none, hinv =>
   have e : eNum st most = (0, none) := by
    rcases hinv with ⟨_, e⟩ | ⟨l, hl, _⟩
    ·exact e
    ·cases hl
   have e0 : (eByte none) = (0#8, none) := rfl
   rw [e0]
   rw [e0] at h2
   simp -implicitDefEqProofs only [go_sem, dnW_ite, go_sem_proc, ↓andNot8c, BitVec.toNat_ofNat]
   refine WP_join fun K2 j1 j2 j3 => ?_
   refine WP_call (wrong_ok h2) fun v J3 hv => ?_
   obtain ⟨rfl, rfl⟩ := hv
   simp -implicitDefEqProofs only [go_sem, dnW_ite, go_sem_proc]
   exact failing none h2 e _ _ (fun ws J' hh => j3 _ _ (g3 _ _ hh))
  | some [], hinv =>
   have e : eNum st most = (0, none) := by
    rcases hinv with ⟨hl, e⟩ | ⟨l, hl, e⟩
    ·cases hl
    ·cases hl; rw [e]; rfl
   have e0 : (eByte (some [])) = (0#8, none) := rfl
   rw [e0]
   rw [e0] at h2
   simp -implicitDefEqProofs only [go_sem, dnW_ite, go_sem_proc, ↓andNot8c, BitVec.toNat_ofNat]
   refine WP_join fun K2 j1 j2 j3 => ?_
   refine WP_call (wrong_ok h2) fun v J3 hv => ?_
   obtain ⟨rfl, rfl⟩ := hv
   simp -implicitDefEqProofs only [go_sem, dnW_ite, go_sem_proc]
   exact failing none h2 e _ _ (fun ws J' hh => j3 _ _ (g3 _ _ hh))
  | some (x :: l), hinv =>
   have e : eNum st most = match numP k acc (x :: l) with | some (n, r) => if n ≤ most then (n, some r) else (0, none) | none => (0, none) := by
    rcases hinv with ⟨hl, e⟩ | ⟨l', hl, e⟩
    ·cases hl
    ·cases hl; exact e
   have e0 : (eByte (some (x :: l))) = (x, some l) := rfl
   rw [e0]
   rw [e0] at h2
   have hxl := x.isLt
   have hw64 : IntKind.u64.wrap ((x.toNat % 128 : Nat) : Int) = ((x.toNat % 128 : Nat) : Int) := wrap_u64 (by omega) (by omega)
   simp -implicitDefEqProofs only [go_sem, dnW_ite, go_sem_proc, ↓andNot8c, hw64]
   refine WP_join fun K2 j1 j2 j3 => ?_
   refine WP_call (wrong_ok h2) fun v J3 hv => ?_
   obtain ⟨rfl, rfl⟩ := hv
   have fl := fun hn : numP k acc (x :: l) = none => fun rho => failing (some l) h2 (by rw [e, hn]) rho K2 (fun ws J' hh => j3 _ _ (g3 _ _ hh))
   have hx0 : ((x.toNat : Int) == 0) = decide (x.toNat = 0) := by rw [Bool.eq_iff_iff]; simp
   have rest : ¬ ((0 < k ∧ x.toNat = 0) ∨ 9 < k ∨ 18446744073709551615 / 2 ^ (7 * k) < x.toNat % 128) → K2 (.goto 2 [.ptr b 0 0, .int .u64 (most : Int), .int .u64 (acc : Int), nI (7 * k), by8 x, .int .u64 ((x.toNat % 128 : Nat) : Int)]) J3 := fun hn => by
    have hk9 : k ≤ 9 := by omega
    have hpf := part_fit (p := x.toNat % 128) (k := k) (by omega)
    have hpw := pow7 hk9
    have hor := or_shl (p := x.toNat % 128) hacc
    have hm : min (7 * k) 64 = 7 * k := by omega
    have hwp : IntKind.u64.wrap (((x.toNat % 128 : Nat) : Int) * 2 ^ (7 * k)) = ((x.toNat % 128 * 2 ^ (7 * k) : Nat) : Int) := by
     rw [show ((x.toNat % 128 : Nat) : Int) * 2 ^ (7 * k) = ((x.toNat % 128 * 2 ^ (7 * k) : Nat) : Int) by push_cast; rfl]
     exact wrap_u64 (by omega) (by omega)
    rw [Nat.shiftLeft_eq] at hor
    have hsum : acc + x.toNat % 128 * 2 ^ (7 * k) < 18446744073709551616 := by
     have h3 := Nat.or_lt_two_pow (x := acc) (y := x.toNat % 128 * 2 ^ (7 * k)) (n := 64) (by omega) (by omega)
     rw [hor] at h3; omega
    have horw := or64n acc (x.toNat % 128 * 2 ^ (7 * k)) hacc2 hpf
    rw [hor] at horw
    refine j1 _ _ ?_
    unfold l_ink_Eye_Num_k0
    by_cases hlt : x.toNat < 128
    ·have hmod : x.toNat % 128 = x.toNat := Nat.mod_eq_of_lt hlt
     simp -implicitDefEqProofs only [go_sem, dnW_ite, go_sem_proc, show ¬ ((7 * k : Nat) : Int) < 0 by omega, hm, hwp, ↓horw, show ((x.toNat : Int) < 128) by omega]
     refine g2 _ _ ?_
     have e9 : numP k acc (x :: l) = some (acc + x.toNat % 128 * 2 ^ (7 * k), l) := by rw [numP, if_neg hn, if_pos hlt, hmod]
     rw [e9] at e
     unfold l_ink_Eye_Num_k2
     generalize acc + x.toNat % 128 * 2 ^ (7 * k) = nn at *
     by_cases hmost : nn ≤ most
     ·simp only [if_pos hmost] at e
      simp -implicitDefEqProofs only [go_sem, dnW_ite, go_sem_proc, show ¬ ((nn : Int) > (most : Int)) by omega]
      exact hK _ _ ⟨by rw [e]; rfl, by rw [e]; exact ⟨h2, f12⟩⟩
     ·simp only [if_neg hmost] at e
      simp -implicitDefEqProofs only [go_sem, dnW_ite, go_sem_proc, show ((nn : Int) > (most : Int)) by omega]
      exact failing (some l) h2 e _ K (fun _ _ h => h)
    ·have hw7 : IntKind.i64.wrap (((7 * k : Nat) : Int) + 7) = ((7 * (k + 1) : Nat) : Int) := by rw [wrap_i64 (by omega) (by omega)]; omega
     have e9 : numP k acc (x :: l) = numP (k + 1) (acc + x.toNat % 128 * 2 ^ (7 * k)) l := by rw [numP, if_neg hn, if_neg hlt]
     rw [e9] at e
     have hacc3 : acc + x.toNat % 128 * 2 ^ (7 * k) < 2 ^ (7 * (k + 1)) := by
      have h3 : 2 ^ (7 * (k + 1)) = 128 * 2 ^ (7 * k) := by rw [show 7 * (k + 1) = 7 + 7 * k by omega, Nat.pow_add]
      have h4 : x.toNat % 128 * 2 ^ (7 * k) ≤ 127 * 2 ^ (7 * k) := Nat.mul_le_mul_right _ (by omega)
      omega
     simp -implicitDefEqProofs only [go_sem, dnW_ite, go_sem_proc, show ¬ ((7 * k : Nat) : Int) < 0 by omega, hm, hwp, ↓horw, show ¬ ((x.toNat : Int) < 128) by omega, hw7]
     refine g1 _ (m - 1) _ (by omega) ⟨k + 1, acc + x.toNat % 128 * 2 ^ (7 * k), some l, rfl, by omega, h2, f12, hacc3, hsum, .inr ⟨l, rfl, e⟩⟩
   have hshr : ∀ hk : k ≤ 9, ((18446744073709551615 : Int).fdiv (2 ^ (7 * k))) = ((18446744073709551615 / 2 ^ (7 * k) : Nat) : Int) := fun _ => by
    exact fdiv_pow 18446744073709551615 (7 * k)
   by_cases hk0 : 0 < k
   ·by_cases hx : x.toNat = 0
    ·have hn : numP k acc (x :: l) = none := by rw [numP, if_pos (.inl ⟨hk0, hx⟩)]
     simp -implicitDefEqProofs only [go_sem, dnW_ite, go_sem_proc, show (((7 * k : Nat) : Int) > 0) by omega, hx0, hx]
     exact fl hn _
    ·by_cases hk9 : k ≤ 9
     ·by_cases hp : 18446744073709551615 / 2 ^ (7 * k) < x.toNat % 128
      ·have hn : numP k acc (x :: l) = none := by rw [numP, if_pos (.inr (.inr hp))]
       simp -implicitDefEqProofs only [go_sem, dnW_ite, go_sem_proc, show (((7 * k : Nat) : Int) > 0) by omega, hx0, hx, show ¬ (((7 * k : Nat) : Int) > 63) by omega, show ¬ ((7 * k : Nat) : Int) < 0 by omega, show min (7 * k) 64 = 7 * k by omega, hshr hk9, show (((x.toNat % 128 : Nat) : Int) > ((18446744073709551615 / 2 ^ (7 * k) : Nat) : Int)) by omega]
       exact fl hn _
      ·simp -implicitDefEqProofs only [go_sem, dnW_ite, go_sem_proc, show (((7 * k : Nat) : Int) > 0) by omega, hx0, hx, show ¬ (((7 * k : Nat) : Int) > 63) by omega, show ¬ ((7 * k : Nat) : Int) < 0 by omega, show min (7 * k) 64 = 7 * k by omega, hshr hk9, show ¬ (((x.toNat % 128 : Nat) : Int) > ((18446744073709551615 / 2 ^ (7 * k) : Nat) : Int)) by omega]
       exact rest (by omega)
     ·have hn : numP k acc (x :: l) = none := by rw [numP, if_pos (.inr (.inl (by omega)))]
      simp -implicitDefEqProofs only [go_sem, dnW_ite, go_sem_proc, show (((7 * k : Nat) : Int) > 0) by omega, hx0, hx, show (((7 * k : Nat) : Int) > 63) by omega]
      exact fl hn _
   ·obtain rfl : k = 0 := by omega
    have hz3 : ∀ n, n / 2 ^ (7 * 0) = n := fun n => by rw [Nat.mul_zero, Nat.pow_zero, Nat.div_one]
    have hp : ¬ 18446744073709551615 / 2 ^ (7 * 0) < x.toNat % 128 := by rw [hz3]; omega
    have hz2 : (18446744073709551615 : Int).fdiv (2 ^ 0) = 18446744073709551615 := by rw [Int.pow_zero]; rfl
    simp -implicitDefEqProofs only [go_sem, dnW_ite, go_sem_proc, show ¬ (((7 * 0 : Nat) : Int) > 0) by omega, show ¬ (((7 * 0 : Nat) : Int) > 63) by omega, show ¬ ((7 * 0 : Nat) : Int) < 0 by omega, show ¬ ((0 : Nat) : Int) < 0 by omega, hz2, show ¬ (((x.toNat % 128 : Nat) : Int) > 18446744073709551615) by omega]
    exact rest (by omega)
 ·cases st with
  | none => exact .inl ⟨rfl, rfl⟩
  | some l => exact .inr ⟨l, rfl, rfl⟩
set_option maxHeartbeats 1000000
theorem leW4 (w : BitVec 32) : leW w = [w.setWidth 8, (w >>> 8).setWidth 8, (w >>> 16).setWidth 8, (w >>> 24).setWidth 8] := by
 have e1 : (w.setWidth 16 &&& 255#16).setWidth 8 = w.setWidth 8 := by
  apply BitVec.eq_of_getLsbD_eq
  intro i hi
  have : i = 0 ∨ i = 1 ∨ i = 2 ∨ i = 3 ∨ i = 4 ∨ i = 5 ∨ i = 6 ∨ i = 7 := by omega
  rcases this with rfl | rfl | rfl | rfl | rfl | rfl | rfl | rfl <;> simp
 have e2 : (w.setWidth 16 >>> 8).setWidth 8 = (w >>> 8).setWidth 8 := by
  apply BitVec.eq_of_getLsbD_eq
  intro i hi
  simp [hi, show 8 + i < 16 by omega]
 have e3 : ((w >>> 16).setWidth 16 &&& 255#16).setWidth 8 = (w >>> 16).setWidth 8 := by
  apply BitVec.eq_of_getLsbD_eq
  intro i hi
  have : i = 0 ∨ i = 1 ∨ i = 2 ∨ i = 3 ∨ i = 4 ∨ i = 5 ∨ i = 6 ∨ i = 7 := by omega
  rcases this with rfl | rfl | rfl | rfl | rfl | rfl | rfl | rfl <;> simp
 have e4 : ((w >>> 16).setWidth 16 >>> 8).setWidth 8 = (w >>> 24).setWidth 8 := by
  apply BitVec.eq_of_getLsbD_eq
  intro i hi
  simp [hi, show 8 + i < 16 by omega]
  congr 1; omega
 simp only [leW, leH, e1, e2, e3, e4, List.cons_append, List.nil_append]
theorem word_leW (w : BitVec 32) : wordL (w.setWidth 8) ((w >>> 8).setWidth 8) ((w >>> 16).setWidth 8) ((w >>> 24).setWidth 8) = w := by
 unfold wordL
 apply BitVec.eq_of_getLsbD_eq
 intro i hi
 simp only [BitVec.getLsbD_or, BitVec.getLsbD_setWidth, BitVec.getLsbD_shiftLeft, BitVec.getLsbD_ushiftRight]
 by_cases h1 : i < 8
 ·simp [h1, hi, show i < 16 by omega, show i < 24 by omega]
 ·by_cases h2 : i < 16
  ·simp [h1, h2, hi, show i < 24 by omega, show i - 8 < 32 by omega, show i - 8 < 8 by omega, show 8 + (i - 8) = i by omega]
  ·by_cases h3 : i < 24
   ·simp [h1, h2, h3, hi, show i - 16 < 32 by omega, show i - 16 < 8 by omega, show 16 + (i - 16) = i by omega, show ¬ i - 8 < 8 by omega]
   ·simp [h1, h2, h3, hi, show i - 24 < 32 by omega, show i - 24 < 8 by omega, show 24 + (i - 24) = i by omega, show ¬ i - 8 < 8 by omega, show ¬ i - 16 < 8 by omega]
theorem leW_word (a b c d : Byt) : leW (wordL a b c d) = [a, b, c, d] := by
 rw [leW4]
 unfold wordL
 congr 1
 ·apply BitVec.eq_of_getLsbD_eq
  intro i hi
  simp [hi, show i < 16 by omega, show i < 24 by omega, show i < 32 by omega]
 congr 1
 ·apply BitVec.eq_of_getLsbD_eq
  intro i hi
  simp [hi, show 8 + i < 16 by omega, show 8 + i < 24 by omega, show 8 + i < 32 by omega, show ¬ 8 + i < 8 by omega, show 8 + i - 8 = i by omega]
 congr 1
 ·apply BitVec.eq_of_getLsbD_eq
  intro i hi
  have g1 := BitVec.getLsbD_of_ge a (16 + i) (by omega)
  have g2 := BitVec.getLsbD_of_ge b (16 + i - 8) (by omega)
  simp [g1, g2, hi, show ¬ 16 + i < 16 by omega, show 16 + i < 24 by omega, show 16 + i < 32 by omega, show 16 + i - 16 = i by omega, show ¬ 16 + i < 8 by omega, show ¬ 16 + i - 8 < 8 by omega]
 congr 1
 ·apply BitVec.eq_of_getLsbD_eq
  intro i hi
  have g1 := BitVec.getLsbD_of_ge a (24 + i) (by omega)
  have g2 := BitVec.getLsbD_of_ge b (24 + i - 8) (by omega)
  have g3 := BitVec.getLsbD_of_ge c (24 + i - 16) (by omega)
  simp [g1, g2, g3, hi, show ¬ 24 + i < 16 by omega, show ¬ 24 + i < 24 by omega, show 24 + i < 32 by omega, show 24 + i - 24 = i by omega, show ¬ 24 + i < 8 by omega, show ¬ 24 + i - 8 < 8 by omega, show ¬ 24 + i - 16 < 8 by omega]
theorem eByte_on (x : Byt) (l : List Byt) : eByte (some (x :: l)) = (x, some l) := rfl
theorem eWord_on (w : BitVec 32) (l : List Byt) : eWord (some (leW w ++ l)) = (w, some l) := by
 rw [leW4]
 show (wordL _ _ _ _, some l) = _
 rw [word_leW]
theorem eByte_inv {st : Option (List Byt)} {l : List Byt} (h : (eByte st).2 = some l) : st = some ((eByte st).1 :: l) := by
 match st, h with
 | some (x :: r), h => cases h; rfl
 | some [], h => cases h
 | none, h => cases h
theorem eWord_inv {st : Option (List Byt)} {l : List Byt} (h : (eWord st).2 = some l) : st = some (leW (eWord st).1 ++ l) := by
 match st, h with
 | some (a :: b :: c :: d :: r), h => cases h; show _ = some (leW (wordL a b c d) ++ l); rw [leW_word]; rfl
 | some [], h => cases h
 | some [a], h => cases h
 | some [a, b], h => cases h
 | some [a, b, c], h => cases h
 | none, h => cases h
theorem ofNat8 {n : Nat} (h : n < 256) : (BitVec.ofNat 8 n).toNat = n := by rw [BitVec.toNat_ofNat]; exact Nat.mod_eq_of_lt h
theorem pow7s (k : Nat) : 2 ^ (7 * (k + 1)) = 128 * 2 ^ (7 * k) := by rw [show 7 * (k + 1) = 7 + 7 * k by omega, Nat.pow_add]
theorem numP_numL : ∀ (j k n acc : Nat) (l : List Byt), j + k = 9 → n * 2 ^ (7 * k) < 18446744073709551616 → (0 < k → 0 < n) → numP k acc (numL j n ++ l) = some (acc + n * 2 ^ (7 * k), l)
 | 0, k, n, acc, l, hjk, hn, h0 => by
  obtain rfl : k = 9 := by omega
  have hn2 : n < 2 := by
   rcases Nat.lt_or_ge n 2 with h | h
   ·exact h
   ·have := Nat.mul_le_mul_right (2 ^ (7 * 9)) h
    omega
  have hb := ofNat8 (n := n) (by omega)
  rw [numL, List.cons_append, List.nil_append, numP, hb, if_neg, if_pos (by omega)]
  have : 18446744073709551615 / 2 ^ (7 * 9) = 1 := by decide
  rw [this]
  have := h0 (by omega)
  omega
 | j + 1, k, n, acc, l, hjk, hn, h0 => by
  have hp := (pow7 (k := k) (by omega)).2
  have hlow : ∀ p, p ≤ n → ¬ 18446744073709551615 / 2 ^ (7 * k) < p := fun p hpn => by
   have h1 : p * 2 ^ (7 * k) ≤ 18446744073709551615 := by
    have := Nat.mul_le_mul_right (2 ^ (7 * k)) hpn
    omega
   have := (Nat.le_div_iff_mul_le hp).2 h1
   omega
  rw [numL]
  by_cases hge : 128 ≤ n
  ·rw [if_pos hge]
   have hb := ofNat8 (n := n % 128 + 128) (by omega)
   have hm : (n % 128 + 128) % 128 = n % 128 := by omega
   have hl := hlow (n % 128) (Nat.mod_le _ _)
   rw [List.cons_append, numP, hb, hm, if_neg (by omega), if_neg (by omega)]
   have hsplit : n = 128 * (n / 128) + n % 128 := (Nat.div_add_mod n 128).symm
   have hmul : n * 2 ^ (7 * k) = n / 128 * 2 ^ (7 * (k + 1)) + n % 128 * 2 ^ (7 * k) := by
    rw [pow7s, ← Nat.mul_assoc, ← Nat.add_mul]
    congr 1; omega
   rw [numP_numL j (k + 1) (n / 128) _ l (by omega) (by omega) (by omega), hmul]
   congr 2; omega
  ·rw [if_neg hge]
   have hb := ofNat8 (n := n) (by omega)
   have hl := hlow n (Nat.le_refl _)
   have hm : n % 128 = n := Nat.mod_eq_of_lt (by omega)
   rw [List.cons_append, List.nil_append, numP, hb, hm, if_neg (by omega), if_pos (by omega)]
theorem numP_inv : ∀ (l0 : List Byt) (k acc m : Nat) (r : List Byt), numP k acc l0 = some (m, r) → k ≤ 9 ∧ ∃ n, m = acc + n * 2 ^ (7 * k) ∧ l0 = numL (9 - k) n ++ r ∧ (0 < k → 0 < n)
 | [], k, acc, m, r, h => by rw [numP] at h; cases h
 | b :: l0, k, acc, m, r, h => by
  rw [numP] at h
  split at h
  ·cases h
  ·next hc =>
   have hk : k ≤ 9 := by omega
   have hbl := b.isLt
   split at h
   ·next hlt =>
    cases h
    refine ⟨hk, b.toNat, rfl, ?_, by omega⟩
    have hb : BitVec.ofNat 8 b.toNat = b := by simp
    cases h9 : 9 - k with
    | zero => rw [numL, hb]; rfl
    | succ j => rw [numL, if_neg (by omega), hb]; rfl
   ·next hlt =>
    obtain ⟨hk1, n, h1, h2, h3⟩ := numP_inv l0 (k + 1) _ m r h
    refine ⟨hk, b.toNat % 128 + 128 * n, ?_, ?_, by omega⟩
    ·rw [h1, pow7s, Nat.add_mul, Nat.add_assoc]
     congr 2
     rw [← Nat.mul_assoc, Nat.mul_comm n 128]
    ·have := h3 (by omega)
     rw [show 9 - k = (9 - (k + 1)) + 1 by omega, numL, if_pos (by omega), show (b.toNat % 128 + 128 * n) / 128 = n by omega, show (b.toNat % 128 + 128 * n) % 128 + 128 = b.toNat by omega]
     have hb : BitVec.ofNat 8 b.toNat = b := by simp
     rw [hb, h2]; rfl
theorem eNum_on {n most : Nat} (l : List Byt) (hn : n < 18446744073709551616) (hm : n ≤ most) : eNum (some (numL 9 n ++ l)) most = (n, some l) := by
 rw [eNum, numP_numL 9 0 n 0 l rfl (by simpa using hn) (by omega)]
 simp [hm]
theorem eNum_inv {st : Option (List Byt)} {most : Nat} {l : List Byt} (h : (eNum st most).2 = some l) : st = some (numL 9 (eNum st most).1 ++ l) ∧ (eNum st most).1 ≤ most := by
 match st, h with
 | none, h => cases h
 | some l0, h =>
  simp only [eNum] at h ⊢
  cases hp : numP 0 0 l0 with
  | none => rw [hp] at h; cases h
  | some mr =>
   obtain ⟨m, r⟩ := mr
   rw [hp] at h
   simp only at h ⊢
   split at h
   ·next hle =>
    cases h
    obtain ⟨_, n, h1, h2, h3⟩ := numP_inv _ 0 0 _ _ hp
    have : m = n := by rw [h1]; simp
    subst this
    simp only [if_pos hle]
    exact ⟨congrArg some h2, hle⟩
   ·cases h
theorem eNum_le (st : Option (List Byt)) (most : Nat) : (eNum st most).1 ≤ most := by
 cases h : (eNum st most).2 with
 | some l => exact (eNum_inv h).2
 | none =>
  match st, h with
  | none, h => exact Nat.zero_le _
  | some l0, h =>
   simp only [eNum] at h ⊢
   split at h
   ·split at h
    ·cases h
    ·next hle => rw [if_neg hle]; exact Nat.zero_le _
   ·exact Nat.zero_le _
theorem bSame_step (x y : IV) (as bs : List Int) (hx : Bs x as) (hy : Bs y bs) (hn : as.length = bs.length) (hb : as.length ≤ 1000000) (i : Nat) (hi : i ≤ as.length) (J : JH) (P : Out IV → JH → Prop)
  (h0 : i = as.length → P (.goto 0 []) J)
  (h1 : ∀ (h : i < as.length) (h' : i < bs.length), as[i] = bs[i] → P (.goto 1 [x, y, .int .i64 ((as.length : Nat) : Int), .int .i64 ((i + 1 : Nat) : Int)]) J)
  (h2 : ∀ (h : i < as.length) (h' : i < bs.length), ¬ as[i] = bs[i] → P (.ret [.bool false]) J) :
  WP (dn BI l_ref01_Same_k0 [x, y, .int .i64 ((as.length : Nat) : Int), .int .i64 (i : Int)] J) P := by
 by_cases h : i < as.length
 ·have hj : i < bs.length := by omega
  have hw : IntKind.i64.wrap ((i : Int) + 1) = ((i + 1 : Nat) : Int) := by rw [wrap_i64 (by omega) (by omega)]; omega
  unfold l_ref01_Same_k0
  simp -implicitDefEqProofs only [go_sem, dnW_ite, go_sem_proc, show ((i : Int) < (as.length : Int)) by omega, hx.at h, hy.at hj, bne_iff_ne, ne_eq, hw]
  split
  ·rename_i he; exact h2 h hj he
  ·rename_i he; exact h1 h hj (Classical.not_not.1 he)
 ·unfold l_ref01_Same_k0
  simp -implicitDefEqProofs only [go_sem, dnW_ite, go_sem_proc, show ¬ ((i : Int) < (as.length : Int)) by omega]
  exact h0 (by omega)
theorem bSame_ok {x y : IV} {as bs : List Int} (hx : Bs x as) (hy : Bs y bs) (hb : as.length ≤ 1000000) : pc BI F_ref01_Same [x, y] = some (.bool (decide (as = bs))) := by
 refine pcE fn_ref01_Same rfl fun K hK => ?_
 ·by_cases hn : as.length = bs.length
  ·unfold l_ref01_Same
   simp -implicitDefEqProofs only [go_sem, dnW_ite, go_sem_proc, hx.lenF, hy.lenF, bne_iff_ne, ne_eq, hn, dn_loop]
   rw [← hn]
   refine WP_loop (by decide) (fun m vs J => ∃ i : Nat, i + m = as.length ∧ as.take i = bs.take i ∧ vs = [x, y, .int .i64 ((as.length : Nat) : Int), .int .i64 (i : Int)]) ?_ as.length _ _ ⟨0, by omega, rfl, rfl⟩
   rintro m vs J ⟨i, hm, ht, rfl⟩ K1 g1 g2 g3
   refine bSame_step x y as bs hx hy hn hb i (by omega) J _ (fun he => ?_) (fun h h' he => ?_) (fun h h' he => ?_)
   ·refine g2 _ _ ?_
    unfold l_ref01_Same_k1
    simp -implicitDefEqProofs only [go_sem, dnW_ite, go_sem_proc]
    refine hK _ _ (frzE rfl ?_)
    rw [List.take_of_length_le (by omega), List.take_of_length_le (by omega)] at ht
    simp [ht, itup]
   ·refine g1 _ (m - 1) _ (by omega) ⟨i + 1, by omega, by rw [List.take_succ_eq_append_getElem h, List.take_succ_eq_append_getElem h', ht, he], rfl⟩
   ·refine g3 _ _ (hK _ _ (frzE rfl ?_))
    have : as ≠ bs := fun h => he (by simp [h])
    simp [this, itup]
  ·have hne : as ≠ bs := fun h => hn (by rw [h])
   unfold l_ref01_Same
   simp -implicitDefEqProofs only [go_sem, dnW_ite, go_sem_proc, hx.lenF, hy.lenF, bne_iff_ne, ne_eq, Int.natCast_inj, hn, hne]
   exact hK _ _ (frzE rfl (by simp [itup, hne]))
theorem ints_grow {κ : IntKind} {l : List Int} {k : Nat} (h : k < l.length) : (l.take k).map (IV.int κ) ++ [IV.int κ l[k]] = (l.take (k + 1)).map (IV.int κ) := by
 rw [List.take_succ_eq_append_getElem h, List.map_append]; rfl
theorem map_by8 (l : List (BitVec 8)) : l.map by8 = (l.map fun b => (b.toNat : Int)).map (IV.int .u8) := by simp
theorem bClone8 {x : IV} {l : List Byt} (h : Ls 1 x (l.map by8)) (hb : l.length ≤ 1000000) : ∃ y, pc BI F_bytes_Clone [x] = some y ∧ Ls 1 y (l.map by8) := by
 obtain ⟨y, hy, hy2⟩ := bClone_pc (x := x) (l := l.map fun b => (b.toNat : Int)) (by rw [Bs, ← map_by8]; exact h) (by simpa using hb)
 exact ⟨y, hy, by rw [map_by8]; exact hy2⟩
theorem PBytes_ok (J : JH) (b : Nat) (s : IV) (l : List Byt) (h : PenAt J b s l) (hb : l.length ≤ 1000000) :
  RP (ic BI F_ink_Pen_Bytes [.ptr b 0 0] J) fun r J' => Ls 1 r (l.map by8) := by
 refine RP_run fn_ink_Pen_Bytes rfl fun K hK => ?_
 obtain ⟨hb1, hb2, hg⟩ := h
 obtain ⟨u, hu, hl⟩ := hg.frz1 by8_pure by8_one
 obtain ⟨y, hy, hy2⟩ := bClone8 hl hb
 unfold l_ink_Pen_Bytes
 have ha : [s].mapM (frz J DEP) = some [u] := by simp [hu]
 simp -implicitDefEqProofs only [go_sem, dnW_ite, go_sem_proc, hb1, dcf ha hy]
 exact hK _ _ hy2
theorem Read_ok {J : JH} {x : IV} {l : List Byt} (hx : Ls 1 x (l.map by8)) (hb : l.length ≤ 1000000) :
  RP (ic BI F_ink_Read [x] J) fun r J' => r = .ptr J.size 0 0 ∧ EyeAt J' J.size (some l) ∧ Fr J J' [] ∧ J'.size = J.size + 1 := by
 refine RP_run fn_ink_Read rfl fun K hK => ?_
 obtain ⟨y, hy, hy2⟩ := bClone8 hx hb
 unfold l_ink_Read
 simp -implicitDefEqProofs only [go_sem, dnW_ite, go_sem_proc, ↓dcp hy (ipureL_iff.2 (by simpa using hx.pure)), ↓hy2.one, ↓hy2.icells]
 refine hK _ _ ⟨rfl, ⟨y, push_get _ _, hy2, (fun h => by cases h), hb⟩, Fr.push _ _ _, by simp⟩
def eDone (st : Option (List Byt)) : Bool := st = some []
theorem EDone_ok {J : JH} {b : Nat} {st : Option (List Byt)} (h : EyeAt J b st) : RP (ic BI F_ink_Eye_Done [.ptr b 0 0] J) fun v J' => v = nI (if eDone st then 0 else 2) ∧ J' = J := by
 refine RP_run fn_ink_Eye_Done rfl fun K hK => ?_
 unfold l_ink_Eye_Done
 simp -implicitDefEqProofs only [go_sem, dnW_ite, go_sem_proc]
 refine WP_call (wrong_ok h) fun v J1 hv => ?_
 obtain ⟨rfl, rfl⟩ := hv
 match st, h with
 | none, h =>
  simp -implicitDefEqProofs only [go_sem, dnW_ite, go_sem_proc]
  exact hK _ _ ⟨rfl, rfl⟩
 | some [], ⟨x, h1, h2, h3⟩ =>
  simp -implicitDefEqProofs only [go_sem, dnW_ite, go_sem_proc, h1, h2.lenF]
  exact hK _ _ ⟨rfl, rfl⟩
 | some (a :: l), ⟨x, h1, h2, h3⟩ =>
  simp -implicitDefEqProofs only [go_sem, dnW_ite, go_sem_proc, h1, h2.lenF, Option.getD_some, List.length_map, List.length_cons, show (((l.length + 1 : Nat) : Int) > 0) by omega]
  refine hK _ _ ⟨?_, rfl⟩
  rw [show eDone (some (a :: l)) = false by simp [eDone]]; rfl
def eBlob (st : Option (List Byt)) (most : Nat) : List Byt × Option (List Byt) := match eNum st most with
 | (n, some l) => if n ≤ l.length then (l.take n, some (l.drop n)) else ([], none)
 | (_, none) => ([], none)
theorem EBlob_ok {J : JH} {b : Nat} {st : Option (List Byt)} (h : EyeAt J b st) (most : Nat) (hm : most ≤ 1000000) : RP (ic BI F_ink_Eye_Blob [.ptr b 0 0, nI most] J) fun v J' => Ls 1 v ((eBlob st most).1.map by8) ∧ EyeR b J J' (eBlob st most).2 := by
 refine RP_run fn_ink_Eye_Blob rfl fun K hK => ?_
 unfold l_ink_Eye_Blob
 have hmx : max (most : Int) 0 = (most : Int) := by omega
 have hw : IntKind.u64.wrap (most : Int) = (most : Int) := wrap_u64 (by omega) (by omega)
 simp -implicitDefEqProofs only [go_sem, dnW_ite, go_sem_proc, hmx, hw]
 refine WP_call (ENum_ok h most (by omega)) fun v J1 hv => ?_
 obtain ⟨rfl, h1, f1⟩ := hv
 simp -implicitDefEqProofs only [go_sem, dnW_ite, go_sem_proc]
 refine WP_join fun K1 j1 j2 j3 => ?_
 refine WP_call (wrong_ok h1) fun v J2 hv => ?_
 obtain ⟨rfl, rfl⟩ := hv
 have hle := eNum_le st most
 rcases hs : eNum st most with ⟨n, st1⟩
 rw [hs] at h1 hle
 simp only at h1 hle
 match st1, hs, h1 with
 | none, hs, h1 =>
  have e : eBlob st most = ([], none) := by rw [eBlob, hs]
  simp -implicitDefEqProofs only [go_sem, dnW_ite, go_sem_proc]
  refine WP_call (fail_ok' h1) fun v J3 hv => ?_
  simp -implicitDefEqProofs only [go_sem, dnW_ite, go_sem_proc]
  exact j3 _ _ (hK _ _ ⟨by rw [e]; exact .nil, by rw [e]; exact ⟨hv.1, f1.trans hv.2 (fun _ _ h => h)⟩⟩)
 | some l, hs, ⟨x, k1, k2, k3⟩ =>
  simp only [Option.getD_some] at k2
  have hle : n ≤ most := hle
  by_cases hn : n ≤ l.length
  ·have e : eBlob st most = (l.take n, some (l.drop n)) := by rw [eBlob, hs]; simp only [if_pos hn]
   have hlb := k3.2
   simp only [Option.getD_some] at hlb
   have hw2 : IntKind.u64.wrap ((l.length : Nat) : Int) = ((l.length : Nat) : Int) := wrap_u64 (by omega) (by omega)
   simp -implicitDefEqProofs only [go_sem, dnW_ite, go_sem_proc, k1, k2.lenF, List.length_map, hw2, show ¬ ((n : Int) > (l.length : Int)) by omega]
   refine j1 _ _ ?_
   have hwn : IntKind.i64.wrap (n : Int) = (n : Int) := wrap_i64 (by omega) (by omega)
   unfold l_ink_Eye_Blob_k0
   simp -implicitDefEqProofs only [go_sem, dnW_ite, go_sem_proc, hwn]
   refine WP_call (take_ok (st := some l) ⟨x, k1, k2, k3⟩ n (by omega)) fun v J3 hv => ?_
   obtain ⟨h3, h4, h5⟩ := hv
   have k4 := (h4 l rfl hn).1
   obtain ⟨y, hy, hy2⟩ := bClone8 k4 (by simp; omega)
   simp -implicitDefEqProofs only [go_sem, dnW_ite, go_sem_proc, ↓dcp hy (ipureL_iff.2 (by simpa using k4.pure))]
   refine hK _ _ ⟨by rw [e]; exact hy2, ?_⟩
   rw [e]
   have e5 : eTake (some l) n = some (l.drop n) := by simp only [eTake, if_pos hn]
   rw [e5] at h3
   exact ⟨h3.1, f1.trans h3.2 (fun _ _ h => h)⟩
  ·have e : eBlob st most = ([], none) := by rw [eBlob, hs]; simp only [if_neg hn]
   have hlb := k3.2
   simp only [Option.getD_some] at hlb
   have hw2 : IntKind.u64.wrap ((l.length : Nat) : Int) = ((l.length : Nat) : Int) := wrap_u64 (by omega) (by omega)
   simp -implicitDefEqProofs only [go_sem, dnW_ite, go_sem_proc, k1, k2.lenF, List.length_map, hw2, show ((n : Int) > (l.length : Int)) by omega]
   refine WP_call (fail_ok' (st := some l) ⟨x, k1, k2, k3⟩) fun v J3 hv => ?_
   simp -implicitDefEqProofs only [go_sem, dnW_ite, go_sem_proc]
   exact j3 _ _ (hK _ _ ⟨by rw [e]; exact .nil, by rw [e]; exact ⟨hv.1, f1.trans hv.2 (fun _ _ h => h)⟩⟩)
theorem eBlob_on {d : List Byt} {most : Nat} (l : List Byt) (hm : d.length ≤ most) (hn : most < 18446744073709551616) : eBlob (some (numL 9 d.length ++ d ++ l)) most = (d, some l) := by
 rw [eBlob, List.append_assoc, eNum_on _ (by omega) hm]
 simp
theorem eBlob_inv {st : Option (List Byt)} {most : Nat} {l : List Byt} (h : (eBlob st most).2 = some l) : st = some (numL 9 (eBlob st most).1.length ++ (eBlob st most).1 ++ l) ∧ (eBlob st most).1.length ≤ most := by
 have hi := @eNum_inv st most
 unfold eBlob at h ⊢
 generalize hg : eNum st most = g at *
 match g, h with
 | (n, some l0), h =>
  simp only at h ⊢
  have := hi rfl
  split at h
  ·next hn =>
   cases h
   simp only [if_pos hn, List.length_take, Nat.min_eq_left hn, List.append_assoc, List.take_append_drop]
   exact this
  ·cases h
 | (n, none), h => cases h
structure Cl where
 v : Int
 s : BitVec 32
 deriving DecidableEq
def Cl.c (c : Cl) : List IV := [.int .i32 c.v, m32 c.s]
def Cl.z : Cl := ⟨0, 0#32⟩
structure Bd where
 l : List Cl
 h : l.length ≤ 48
theorem Bd.ext {a b : Bd} (h : a.l = b.l) : a = b := by cases a; cases b; cases h; rfl
instance : DecidableEq Bd := fun a b => if h : a.l = b.l then isTrue (Bd.ext h) else isFalse fun e => h (by rw [e])
def Bd.pad (b : Bd) : List (List IV) := (b.l ++ List.replicate (48 - b.l.length) Cl.z).map Cl.c
def bdc (b : Bd) : List IV := b.pad.flatten ++ [nI b.l.length]
def Bd.set (b : Bd) (i : Nat) (c : Cl) : Bd := ⟨b.l.set i c, by rw [List.length_set]; exact b.h⟩
def Bd.map (b : Bd) (f : Cl → Cl) : Bd := ⟨b.l.map f, by rw [List.length_map]; exact b.h⟩
def Bd.z : Bd := ⟨[], by simp⟩
theorem pad2 (b : Bd) : ∀ e ∈ b.pad, e.length = 2 := by
 intro e he
 obtain ⟨y, _, rfl⟩ := List.mem_map.1 he
 rfl
theorem pad_len (b : Bd) : b.pad.length = 48 := by
 have := b.h
 simp [Bd.pad]; omega
theorem bdc_len (b : Bd) : (bdc b).length = 97 := by
 simp only [bdc, List.length_append, flat_len (pad2 b), pad_len, List.length_cons, List.length_nil]
theorem bdc_one (b : Bd) : (bdc b).all ione = true := by
 rw [List.all_eq_true]
 intro x hx
 rcases List.mem_append.1 hx with hx | hx
 ·obtain ⟨e, he, hx⟩ := List.mem_flatten.1 hx
  obtain ⟨y, _, rfl⟩ := List.mem_map.1 he
  simp [Cl.c] at hx
  rcases hx with rfl | rfl <;> rfl
 ·simp at hx; subst hx; rfl
theorem bdc_pure (b : Bd) : ipureL (bdc b) = true := by
 rw [ipureL_iff]
 intro x hx
 rcases List.mem_append.1 hx with hx | hx
 ·obtain ⟨e, he, hx⟩ := List.mem_flatten.1 hx
  obtain ⟨y, _, rfl⟩ := List.mem_map.1 he
  simp [Cl.c] at hx
  rcases hx with rfl | rfl <;> rfl
 ·simp at hx; subst hx; rfl
theorem bdc_take (b : Bd) : (bdc b).take 97 = bdc b := List.take_of_length_le (by rw [bdc_len]; exact Nat.le_refl _)
theorem bdc_n (b : Bd) : ((bdc b).drop 96).take 1 = [nI b.l.length] := by
 have h : b.pad.flatten.length = 96 := by rw [flat_len (pad2 b), pad_len]
 rw [bdc, List.drop_append_of_le_length (by omega), List.drop_of_length_le (by omega)]; rfl
theorem pad_at (b : Bd) {i : Nat} (h : i < b.l.length) (h' : i < b.pad.length) : b.pad[i] = b.l[i].c := by
 simp [Bd.pad, List.getElem_append, h]
theorem bdc_at (b : Bd) {i : Nat} (h : i < b.l.length) : ((bdc b).drop (i * 2)).take 2 = b.l[i].c := by
 have := b.h
 have h' : i < b.pad.length := by rw [pad_len]; omega
 rw [bdc, flat_at (pad2 b) h', pad_at b h h']
theorem bdc_at1 (b : Bd) {i k : Nat} (h : i < b.l.length) (hk : k < 2) : ((bdc b).drop (i * 2 + k)).take 1 = [b.l[i].c[k]'hk] := by
 have := b.h
 have h' : i < b.pad.length := by rw [pad_len]; omega
 have e := pad_at b h h'
 rw [bdc, flat_at1 (pad2 b) h' (by rw [pad2 b _ (List.getElem_mem h')]; exact hk)]
 simp only [e]; rfl
theorem bdc_s (b : Bd) {i : Nat} (h : i < b.l.length) : ((bdc b).drop (i * 2 + 1)).take 1 = [m32 b.l[i].s] := bdc_at1 b h (k := 1) (by omega)
theorem pad_set (b : Bd) {i : Nat} (h : i < b.l.length) (c : Cl) : b.pad.set i c.c = (b.set i c).pad := by
 simp only [Bd.pad, Bd.set, ← List.map_set, List.length_set, List.set_append_left _ _ h]
theorem bdc_splice (b : Bd) {i k : Nat} (vs : List IV) (h : i < b.l.length) (hk : k + vs.length ≤ 2) (c : Cl) (hc : isplice b.l[i].c k vs = c.c) : isplice (bdc b) (i * 2 + k) vs = bdc (b.set i c) := by
 have := b.h
 have h' : i < b.pad.length := by rw [pad_len]; omega
 rw [bdc, flat_splice (pad2 b) h' hk, pad_at b h h', hc, pad_set b h]
 rw [bdc]; simp [Bd.set]
theorem bdc_set (b : Bd) {i : Nat} (h : i < b.l.length) (c : Cl) : isplice (bdc b) (i * 2) [.int .i32 c.v, m32 c.s] = bdc (b.set i c) := bdc_splice b (k := 0) _ h (by simp) c rfl
theorem bdc_setv (b : Bd) {i : Nat} (h : i < b.l.length) (v : Int) : isplice (bdc b) (i * 2) [.int .i32 v] = bdc (b.set i ⟨v, b.l[i].s⟩) := bdc_splice b (k := 0) _ h (by simp) ⟨v, b.l[i].s⟩ rfl
theorem bdc_sets (b : Bd) {i : Nat} (h : i < b.l.length) (s : BitVec 32) : isplice (bdc b) (i * 2 + 1) [m32 s] = bdc (b.set i ⟨b.l[i].v, s⟩) := bdc_splice b (k := 1) _ h (by simp) ⟨b.l[i].v, s⟩ rfl
theorem bdc_all (b c : Bd) : isplice (bdc b) 0 (bdc c) = bdc c := by
 simp only [isplice, List.take_zero, List.nil_append, Nat.zero_add]
 rw [List.drop_of_length_le (by rw [bdc_len, bdc_len]; exact Nat.le_refl _), List.append_nil]
theorem zc_bd : (reps 48 [Value.int .i32 0, Value.int .u32 0] ++ [Value.int .i64 0]).map IV.sc = bdc Bd.z := by rfl
theorem b48 {i : Nat} (h : i < 48) : i * 2 ≤ 95 ∧ i * 2 ≤ 96 ∧ i * 2 + 1 ≤ 96 ∧ i * 2 ≤ 97 ∧ i * 2 + 1 ≤ 97 ∧ i < 48 := by omega
theorem cells_eq : ∀ (p q : List Cl) (n m : Nat), p.length = q.length → iaggEq ((p.map Cl.c).flatten ++ [nI n]) ((q.map Cl.c).flatten ++ [nI m]) = some (decide (p = q ∧ n = m))
 | [], [], n, m, _ => by
  simp only [List.map_nil, List.flatten_nil, List.nil_append, iaggEq, if_true, Bool.and_true, true_and]
  congr 1
  rw [Bool.eq_iff_iff]; simp; omega
 | a :: p, b :: q, n, m, h => by
  have ih := cells_eq p q n m (by simpa using h)
  obtain ⟨av, as⟩ := a
  obtain ⟨bv, bs⟩ := b
  simp only [List.map_cons, List.flatten_cons, Cl.c, List.cons_append, List.nil_append, iaggEq, if_true, ih, List.append_eq, beqB]
  congr 1
  rw [Bool.eq_iff_iff]
  simp [and_assoc]
 | [], _ :: _, _, _, h => by simp at h
 | _ :: _, [], _, _, h => by simp at h
theorem bdc_eq (a b : Bd) : iaggEq (bdc a) (bdc b) = some (decide (a = b)) := by
 have ha := a.h
 have hb := b.h
 rw [bdc, bdc, Bd.pad, Bd.pad, cells_eq _ _ _ _ (by simp; omega)]
 congr 1
 rw [decide_eq_decide]
 constructor
 ·rintro ⟨h1, h2⟩
  apply Bd.ext
  rw [h2] at h1
  exact List.append_cancel_right h1
 ·rintro rfl
  exact ⟨rfl, rfl⟩
attribute [go_sem] Cl.c bdc_len bdc_one bdc_pure bdc_take bdc_n bdc_all bdc_eq agg_pure
attribute [go_sem ↓] zc_bd
theorem Len_ok (b : Bd) : pc BI F_board_Board_Len [.agg (bdc b)] = some (nI b.l.length) := by
 refine pcE fn_board_Board_Len rfl fun K hK => ?_
 unfold l_board_Board_Len
 simp -implicitDefEqProofs only [go_sem, dnW_ite, go_sem_proc]
 exact hK _ _ (frzE rfl rfl)
def Bd.there (b : Bd) (i : Int) : Bool := decide (0 ≤ i ∧ i < (b.l.length : Int))
theorem there_ok (b : Bd) (i : Int) : pc BI F_board_Board_there [.agg (bdc b), .int .i64 i] = some (.bool (b.there i)) := by
 refine pcE fn_board_Board_there rfl fun K hK => ?_
 unfold l_board_Board_there
 by_cases h : i ≥ 0
 ·simp -implicitDefEqProofs only [go_sem, dnW_ite, go_sem_proc, h]
  exact hK _ _ (frzE rfl (by simp [itup, Bd.there, h]))
 ·simp -implicitDefEqProofs only [go_sem, dnW_ite, go_sem_proc, h]
  exact hK _ _ (frzE rfl (by simp [itup, Bd.there, h]))
def Bd.at (b : Bd) (i : Int) : Cl := b.l.getD i.toNat Cl.z
theorem At_ok (b : Bd) (i : Int) : pc BI F_board_Board_At [.agg (bdc b), .int .i64 i] = some (.tup [.agg (if b.there i then b.at i else Cl.z).c, .bool (b.there i)]) := by
 refine pcE fn_board_Board_At rfl fun K hK => ?_
 unfold l_board_Board_At
 by_cases h : b.there i = true
 ·obtain ⟨h1, h2⟩ : 0 ≤ i ∧ i < (b.l.length : Int) := by simpa [Bd.there] using h
  have h3 : i.toNat < b.l.length := by omega
  have h4 := b.h
  have e : b.at i = b.l[i.toNat] := by simp [Bd.at, h3]
  simp -implicitDefEqProofs only [go_sem, dnW_ite, go_sem_proc, dcp (there_ok b i) (by simp [ipureL, ipure, bdc_pure]), h, h1, b48 (show i.toNat < 48 by omega), bdc_at b h3]
  exact hK _ _ (frzE rfl (by simp [itup, h, e, Cl.c]))
 ·simp only [Bool.not_eq_true] at h
  simp -implicitDefEqProofs only [go_sem, dnW_ite, go_sem_proc, dcp (there_ok b i) (by simp [ipureL, ipure, bdc_pure]), h]
  exact hK _ _ (frzE rfl (by simp [itup, h, Cl.c, Cl.z]))
def Bd.put (b : Bd) (i : Int) (c : Cl) : Bd := if b.there i then b.set i.toNat c else b
theorem Put_ok (b : Bd) (i : Int) (c : Cl) : pc BI F_board_Board_Put [.agg (bdc b), .int .i64 i, .agg c.c] = some (.tup [.agg (bdc (b.put i c)), nI (if b.there i then 0 else 7)]) := by
 refine pcE fn_board_Board_Put rfl fun K hK => ?_
 unfold l_board_Board_Put
 by_cases h : b.there i = true
 ·obtain ⟨h1, h2⟩ : 0 ≤ i ∧ i < (b.l.length : Int) := by simpa [Bd.there] using h
  have h3 : i.toNat < b.l.length := by omega
  have h4 := b.h
  simp -implicitDefEqProofs only [go_sem, dnW_ite, go_sem_proc, dcp (there_ok b i) (by simp [ipureL, ipure, bdc_pure]), h, h1, b48 (show i.toNat < 48 by omega), bdc_set b h3]
  exact hK _ _ (frzE (by simp [itup, ipure, ipureL, bdc_pure]) (by simp [itup, h, Bd.put]))
 ·simp only [Bool.not_eq_true] at h
  simp -implicitDefEqProofs only [go_sem, dnW_ite, go_sem_proc, dcp (there_ok b i) (by simp [ipureL, ipure, bdc_pure]), h]
  exact hK _ _ (frzE (by simp [itup, ipure, ipureL, bdc_pure]) (by simp [itup, h, Bd.put]))
def Bd.show (b : Bd) (i : Int) (to : BitVec 32) : Bd := if b.there i then b.set i.toNat ⟨(b.at i).v, (b.at i).s ||| to⟩ else b
theorem Show_ok (b : Bd) (i : Int) (to : BitVec 32) : pc BI F_board_Board_Show [.agg (bdc b), .int .i64 i, m32 to] = some (.tup [.agg (bdc (b.show i to)), .bool (b.there i && !within to (b.at i).s), nI (if b.there i then 0 else 7)]) := by
 refine pcE fn_board_Board_Show rfl fun K hK => ?_
 unfold l_board_Board_Show
 by_cases h : b.there i = true
 ·obtain ⟨h1, h2⟩ : 0 ≤ i ∧ i < (b.l.length : Int) := by simpa [Bd.there] using h
  have h3 : i.toNat < b.l.length := by omega
  have h4 := b.h
  have e : b.at i = b.l[i.toNat] := by simp [Bd.at, h3]
  have hj := fun f => Join_ok b.l[i.toNat].s (.lst 1 f [m32 to]) [to] .lst (by simp)
  simp only [List.foldl] at hj
  simp -implicitDefEqProofs only [go_sem, dnW_ite, go_sem_proc, dcp (there_ok b i) (by simp [ipureL, ipure, bdc_pure]), h, h1, b48 (show i.toNat < 48 by omega), bdc_s b h3, dcp (Within_ok to b.l[i.toNat].s) rfl, ipureL, ipure, grp, mkE, List.headD, one_lt_UNK, dcp (hj _) rfl, bdc_sets b h3]
  exact hK _ _ (frzE (by simp [itup, ipure, ipureL, bdc_pure]) (by simp [itup, h, Bd.show, e]))
 ·simp only [Bool.not_eq_true] at h
  simp -implicitDefEqProofs only [go_sem, dnW_ite, go_sem_proc, dcp (there_ok b i) (by simp [ipureL, ipure, bdc_pure]), h]
  exact hK _ _ (frzE (by simp [itup, ipure, ipureL, bdc_pure]) (by simp [itup, h, Bd.show]))
def viewC (o : Int) (c : Cl) : Cl := if hasM c.s o then c else ⟨0, c.s⟩
def Bd.view (b : Bd) (o : Int) : Bd := b.map (viewC o)
def Bd.viewN (b : Bd) (o : Int) (i : Nat) : Bd := ⟨(b.l.take i).map (viewC o) ++ b.l.drop i, by have := b.h; simp; omega⟩
theorem viewN_len (b : Bd) (o : Int) (i : Nat) : (b.viewN o i).l.length = b.l.length := by simp [Bd.viewN]; omega
theorem viewN_at (b : Bd) (o : Int) (i : Nat) (h : i < b.l.length) (h' : i < (b.viewN o i).l.length) : (b.viewN o i).l[i] = b.l[i] := by
 simp [Bd.viewN, List.getElem_append, show min i b.l.length = i by omega]
theorem viewN_succ (b : Bd) (o : Int) (i : Nat) (h : i < b.l.length) : (b.viewN o i).set i (viewC o b.l[i]) = b.viewN o (i + 1) := by
 apply Bd.ext
 simp only [Bd.viewN, Bd.set]
 rw [List.take_succ_eq_append_getElem h, List.map_append, List.drop_eq_getElem_cons h, List.set_append_right _ _ (by simp; omega)]
 simp only [List.length_map, List.length_take, show i - min i b.l.length = 0 by omega, List.set_cons_zero, List.append_assoc, List.map_cons, List.map_nil, List.cons_append, List.nil_append]
theorem viewN_same (b : Bd) (o : Int) (i : Nat) (h : i < b.l.length) (hv : viewC o b.l[i] = b.l[i]) : b.viewN o i = b.viewN o (i + 1) := by
 rw [← viewN_succ b o i h, hv]
 apply Bd.ext
 simp only [Bd.set]
 rw [← viewN_at b o i h (by rw [viewN_len]; exact h), List.set_getElem_self]
theorem View_ok (b : Bd) (o : Int) : pc BI F_board_Board_View [.agg (bdc b), .int .i64 o] = some (.agg (bdc (b.view o))) := by
 refine pcE fn_board_Board_View rfl fun K hK => ?_
 unfold l_board_Board_View
 have h4 := b.h
 simp -implicitDefEqProofs only [go_sem, dnW_ite, go_sem_proc, dn_loop]
 refine WP_range (by decide) b.l.length (fun i vs J => vs = [.int .i64 o, .ptr 0 0 0, .ptr 1 0 0, nI b.l.length, nI i] ∧ J = #[IB.cells 0 (bdc (b.viewN o i)) false, IB.cells 0 (bdc Bd.z) false]) ?_ ⟨rfl, by simp [Bd.viewN]⟩
 rintro i vs J ⟨rfl, rfl⟩ hi K1 g1 g2 g3
 unfold l_board_Board_View_k0
 by_cases h : i < b.l.length
 ·have h' : i < (b.viewN o i).l.length := by rw [viewN_len]; exact h
  have e1 := bdc_s (b.viewN o i) h'
  have e2 := bdc_setv (b.viewN o i) h' 0
  rw [viewN_at b o i h] at e1 e2
  by_cases hv : hasM b.l[i].s o = true
  ·simp -implicitDefEqProofs only [go_sem, dnW_ite, go_sem_proc, show ((i : Int) < (b.l.length : Int)) by omega, b48 (show i < 48 by omega), e1, dcp (Has_ok b.l[i].s o) rfl, hv, wrapS h (show b.l.length ≤ 9223372036854775807 by omega)]
   refine g1 h _ _ ⟨rfl, ?_⟩
   rw [viewN_same b o i h (by simp [viewC, hv])]
  ·simp only [Bool.not_eq_true] at hv
   simp -implicitDefEqProofs only [go_sem, dnW_ite, go_sem_proc, show ((i : Int) < (b.l.length : Int)) by omega, b48 (show i < 48 by omega), e1, e2, dcp (Has_ok b.l[i].s o) rfl, hv, wrapS h (show b.l.length ≤ 9223372036854775807 by omega)]
   refine g1 h _ _ ⟨rfl, ?_⟩
   rw [← viewN_succ b o i h]
   simp [viewC, hv]
 ·simp -implicitDefEqProofs only [go_sem, dnW_ite, go_sem_proc, show ¬ ((i : Int) < (b.l.length : Int)) by omega]
  refine g2 _ _ ?_
  unfold l_board_Board_View_k1
  simp -implicitDefEqProofs only [go_sem, dnW_ite, go_sem_proc]
  refine hK _ _ (frzE (by simp [itup, ipure, ipureL, bdc_pure]) ?_)
  have : b.viewN o i = b.view o := by
   apply Bd.ext
   simp [Bd.viewN, Bd.view, Bd.map, List.take_of_length_le (show b.l.length ≤ i by omega), List.drop_of_length_le (show b.l.length ≤ i by omega)]
  rw [this]; rfl
structure Cd where
 op : Nat
 a : Nat
 b : Nat
 c : Nat
 n : Int
 mask : BitVec 32
 deriving DecidableEq
def Cd.cs (x : Cd) : List IV := [.int .u8 (x.op : Int), .int .u8 (x.a : Int), .int .u8 (x.b : Int), .int .u8 (x.c : Int), .int .i32 x.n, m32 x.mask]
def Cd.e (x : Cd) : IV := .agg x.cs
structure Cd.wf (x : Cd) : Prop where
 op : x.op < 256
 a : x.a < 256
 b : x.b < 256
 c : x.c < 256
 n0 : -2147483648 ≤ x.n
 n1 : x.n < 2147483648
def useOf (op : Nat) : Bool × Bool × Bool × Nat × Bool := match op with
 | 1 => (true, false, false, 1, false)
 | 2 | 3 => (true, false, false, 2, false)
 | 4 | 5 => (true, true, false, 2, false)
 | 6 | 7 | 8 | 9 | 10 | 11 | 12 | 13 | 14 | 15 | 16 | 17 | 18 => (true, true, true, 0, false)
 | 19 => (true, false, false, 3, false)
 | 20 => (false, false, false, 3, false)
 | 21 => (true, false, false, 4, false)
 | 22 => (false, true, false, 2, true)
 | 23 => (true, false, false, 5, false)
 | 24 => (false, false, false, 6, false)
 | 25 => (true, false, false, 0, false)
 | _ => (false, false, false, 0, false)
def useC (u : Bool × Bool × Bool × Nat × Bool) : List IV := [.bool u.1, .bool u.2.1, .bool u.2.2.1, .int .u8 (u.2.2.2.1 : Int), .bool u.2.2.2.2]
def usesL : List IV := ((List.range 26).map fun i => useC (useOf i)).flatten
theorem uses_ok : pc BI F_code_uses [] = some (.agg usesL) := pcK 60 (by kernel_rfl)
theorem uses_len : usesL.length = 130 := by kernel_rfl
theorem uses_one : usesL.all ione = true := by kernel_rfl
theorem uses_pure : ipureL usesL = true := by kernel_rfl
theorem uses_take : usesL.take 130 = usesL := List.take_of_length_le (by rw [uses_len]; exact Nat.le_refl _)
theorem uses_all : isplice usesL 0 usesL = usesL := by kernel_rfl
theorem uses_at {i : Nat} (h : i < 26) : (usesL.drop (i * 5)).take 5 = useC (useOf i) := by
 have := flat_at (rest := []) (X := (List.range 26).map fun i => useC (useOf i)) (sz := 5) (i := i) (fun x hx => by
  obtain ⟨y, _, rfl⟩ := List.mem_map.1 hx; rfl) (by simpa using h)
 rw [List.append_nil] at this
 rw [usesL, this]; simp
attribute [go_sem] uses_len uses_one uses_pure uses_take uses_all
def regOk (used : Bool) (r : Nat) : Bool := r == 0 || used && decide (r < 8)
theorem natBeq (a b : Nat) : ((a : Int) == (b : Int)) = (a == b) := by rw [Bool.eq_iff_iff]; simp; omega
theorem natBeqc (a c : Nat) : ((a : Int) == no_index (@OfNat.ofNat Int c instOfNat)) = (a == c) := natBeq a c
theorem natBeq0 (a : Nat) : ((a : Int) == 0) = (a == 0) := natBeq a 0
theorem register_ok (used : Bool) (r : Nat) : pc BI F_code_register [.bool used, .int .u8 (r : Int)] = some (.bool (regOk used r)) := by
 refine pcE fn_code_register rfl fun K hK => ?_
 unfold l_code_register
 by_cases h0 : r = 0
 ·subst h0
  simp -implicitDefEqProofs only [go_sem, dnW_ite, go_sem_proc]
  exact hK _ _ (frzE rfl rfl)
 have h1 : ((r : Int) == 0) = false := by rw [natBeq0]; simpa using h0
 cases used with
 | true =>
  simp -implicitDefEqProofs only [go_sem, dnW_ite, go_sem_proc, h1]
  exact hK _ _ (frzE rfl (by simp [itup, regOk, h0, show ((r : Int) < 8) ↔ (r < 8) by omega]))
 | false =>
  simp -implicitDefEqProofs only [go_sem, dnW_ite, go_sem_proc, h1]
  exact hK _ _ (frzE rfl (by simp [itup, regOk, h0]))
def nOk (k : Nat) (n : Int) (size cells players : Nat) : Bool := match k with
 | 1 => true
 | 2 => decide (0 ≤ n ∧ n < cells)
 | 3 => decide (0 ≤ n ∧ n ≤ size)
 | 4 => decide (0 ≤ n ∧ n < players)
 | 5 => decide (1 ≤ n)
 | _ => n == 0
def Cd.right (x : Cd) (size cells players : Nat) : Bool :=
 if x.op > 25 then false else
 if (useOf x.op).2.2.2.1 = 6 then (x.a == 0 && x.b == 0) && (decide (1 ≤ x.c) && decide (x.c ≤ 48)) && decide (0 ≤ x.n) && decide (x.n + x.c ≤ cells) && x.mask == 0#32
 else nOk (useOf x.op).2.2.2.1 x.n size cells players && regOk (useOf x.op).1 x.a && regOk (useOf x.op).2.1 x.b && regOk (useOf x.op).2.2.1 x.c && ((useOf x.op).2.2.2.2 || x.mask == 0#32)
theorem use_le (op : Nat) : (useOf op).2.2.2.1 ≤ 6 := by unfold useOf; split <;> simp
theorem right_k1 (J : JH) (p q : Nat) (v1 v2 : Nat) (x : Cd) (u : Bool × Bool × Bool × Nat × Bool) (ok : Bool) (hp : J[p]? = some (.cells v1 x.cs false)) (hq : J[q]? = some (.cells v2 (useC u) false)) (K : Out IV → JH → Prop)
  (h : K (.ret [.bool (ok && regOk u.1 x.a && regOk u.2.1 x.b && regOk u.2.2.1 x.c && (u.2.2.2.2 || x.mask == 0#32))]) J) : WP (dn BI l_code_right_k1 [.ptr p v1 0, .ptr q v2 0, .bool ok] J) K := by
 unfold l_code_right_k1
 obtain ⟨ua, ub, uc, un, um⟩ := u
 simp only [Cd.cs, useC] at hp hq
 cases ok with
 | false => simp -implicitDefEqProofs only [go_sem, dnW_ite, go_sem_proc]; exact h
 | true =>
  simp -implicitDefEqProofs only [go_sem, dnW_ite, go_sem_proc, hp, hq, dcp (register_ok ua x.a) rfl]
  cases hA : regOk ua x.a with
  | false => simp -implicitDefEqProofs only [go_sem, dnW_ite, go_sem_proc, hA]; simp only [hA] at h; exact h
  | true =>
   simp -implicitDefEqProofs only [go_sem, dnW_ite, go_sem_proc, hA, hp, hq, dcp (register_ok ub x.b) rfl]
   cases hB : regOk ub x.b with
   | false => simp -implicitDefEqProofs only [go_sem, dnW_ite, go_sem_proc, hB]; simp only [hA, hB] at h; exact h
   | true =>
    simp -implicitDefEqProofs only [go_sem, dnW_ite, go_sem_proc, hB, hp, hq, dcp (register_ok uc x.c) rfl]
    cases hC : regOk uc x.c with
    | false => simp -implicitDefEqProofs only [go_sem, dnW_ite, go_sem_proc, hC]; simp only [hA, hB, hC] at h; exact h
    | true =>
     cases um with
     | true => simp -implicitDefEqProofs only [go_sem, dnW_ite, go_sem_proc, hC, hp, hq]; simp only [hA, hB, hC] at h; exact h
     | false => simp -implicitDefEqProofs only [go_sem, dnW_ite, go_sem_proc, hC, hp, hq]; simp only [hA, hB, hC] at h; exact h
theorem or8_0 (a b : Nat) (ha : a < 256) (hb : b < 256) : ∃ r : Nat, abin .or (.int .u8 (a : Int)) (.int .u8 (b : Int)) = some (.int .u8 (r : Int)) ∧ r < 256 ∧ (r = 0 ↔ a = 0 ∧ b = 0) := by
 have h := bor8 (BitVec.ofNat 8 a) (BitVec.ofNat 8 b)
 simp only [BitVec.toNat_ofNat, Nat.mod_eq_of_lt (show a < 2 ^ 8 from ha), Nat.mod_eq_of_lt (show b < 2 ^ 8 from hb)] at h
 refine ⟨_, h, (BitVec.ofNat 8 a ||| BitVec.ofNat 8 b).isLt, ?_⟩
 rw [BitVec.toNat_or, Nat.or_eq_zero_iff]
 simp only [BitVec.toNat_ofNat, Nat.mod_eq_of_lt (show a < 2 ^ 8 from ha), Nat.mod_eq_of_lt (show b < 2 ^ 8 from hb)]
theorem right_k0 (x : Cd) (hx : x.wf) (cells : Nat) (many : Bool) (hc : cells ≤ 1000000) (J : JH) (hJ : J[0]? = some (.cells 0 x.cs false)) :
  dn BI l_code_right_k0 [nI cells, .ptr 0 0 0, .int .i64 x.n, .bool many] J = some (.ret [.bool ((x.a == 0 && x.b == 0) && many && decide (0 ≤ x.n) && decide (x.n + x.c ≤ cells) && x.mask == 0#32)], J) := by
 obtain ⟨w1, w2, w3, w4, w5, w6⟩ := hx
 obtain ⟨r, hr, hr1, hr2⟩ := or8_0 x.a x.b w2 w3
 have hreg : regOk false r = (x.a == 0 && x.b == 0) := by
  rw [Bool.eq_iff_iff]; simp [regOk, hr2]
 have e1 : IntKind.i64.wrap (x.c : Int) = x.c := wrap_i64 (by omega) (by omega)
 have e2 : IntKind.i64.wrap (x.n + x.c) = x.n + x.c := wrap_i64 (by omega) (by omega)
 have hrr := register_ok false r
 rw [hreg] at hrr
 unfold l_code_right_k0
 simp only [Cd.cs] at hJ
 cases hA : (x.a == 0 && x.b == 0) with
 | false =>
  rw [hA] at hrr
  simp -implicitDefEqProofs only [go_sem, dnW_ite, go_sem_proc, hJ, ↓hr, dcp hrr rfl]
 | true =>
  rw [hA] at hrr
  cases many with
  | false => simp -implicitDefEqProofs only [go_sem, dnW_ite, go_sem_proc, hJ, ↓hr, dcp hrr rfl]
  | true =>
   by_cases h0 : x.n ≥ 0
   ·by_cases h1 : x.n + x.c ≤ cells
    ·simp -implicitDefEqProofs only [go_sem, dnW_ite, go_sem_proc, hJ, ↓hr, dcp hrr rfl, h0, e1, e2, h1]
    ·simp -implicitDefEqProofs only [go_sem, dnW_ite, go_sem_proc, hJ, ↓hr, dcp hrr rfl, h0, e1, e2, h1]
   ·simp -implicitDefEqProofs only [go_sem, dnW_ite, go_sem_proc, hJ, ↓hr, dcp hrr rfl, h0]
theorem right_ok (x : Cd) (hx : x.wf) (size cells players : Nat) (hs : size ≤ 1000000) (hc : cells ≤ 1000000) (hp : players ≤ 1000000) :
  pc BI F_code_right [x.e, .agg usesL, nI size, nI cells, nI players] = some (.bool (x.right size cells players)) := by
 refine pcE fn_code_right rfl fun K hK => ?_
 unfold l_code_right Cd.e
 obtain ⟨w1, w2, w3, w4, w5, w6⟩ := hx
 have hxo : x.cs.all ione = true := rfl
 by_cases hop : x.op > 25
 ·have : ((x.op : Int) > 25) := by omega
  simp -implicitDefEqProofs only [go_sem, dnW_ite, go_sem_proc, hxo, Cd.cs, this]
  exact hK _ _ (frzE rfl (by simp [itup, Cd.right, hop]))
 have h1 : ¬ ((x.op : Int) > 25) := by omega
 have hu := uses_at (i := x.op) (by omega)
 have hi : IntKind.i64.wrap x.n = x.n := wrap_i64 (by omega) (by omega)
 have hle := use_le x.op
 have hk : ∀ ok : Bool, (useOf x.op).2.2.2.1 ≠ 6 → nOk (useOf x.op).2.2.2.1 x.n size cells players = ok → ∀ J, J[0]? = some (.cells 0 x.cs false) → J[2]? = some (.cells 0 (useC (useOf x.op)) false) → WP (dn BI l_code_right_k1 [.ptr 0 0 0, .ptr 2 0 0, .bool ok] J) K := by
  intro ok hne hok J hJ0 hJ2
  refine right_k1 J 0 2 0 0 x (useOf x.op) ok hJ0 hJ2 K (hK _ _ (frzE rfl ?_))
  simp [itup, Cd.right, hop, hne, hok]
 simp -implicitDefEqProofs only [go_sem, dnW_ite, go_sem_proc, hxo, Cd.cs, h1, show x.op < 26 by omega, show x.op * 5 ≤ 125 by omega, hu, useC, hi, natBeqc]
 generalize hun : (useOf x.op).2.2.2.1 = un at *
 rcases (show un = 0 ∨ un = 1 ∨ un = 2 ∨ un = 3 ∨ un = 4 ∨ un = 5 ∨ un = 6 by omega) with rfl | rfl | rfl | rfl | rfl | rfl | rfl
 ·simp -implicitDefEqProofs only [go_sem, dnW_ite, go_sem_proc]
  exact hk _ (by decide) rfl _ rfl (by simp [useC, hun])
 ·simp -implicitDefEqProofs only [go_sem, dnW_ite, go_sem_proc]
  exact hk _ (by decide) rfl _ rfl (by simp [useC, hun])
 ·by_cases h0 : x.n ≥ 0
  ·simp -implicitDefEqProofs only [go_sem, dnW_ite, go_sem_proc, h0]
   exact hk _ (by decide) (by simp [nOk]; omega) _ rfl (by simp [useC, hun])
  ·simp -implicitDefEqProofs only [go_sem, dnW_ite, go_sem_proc, h0]
   exact hk _ (by decide) (by simp [nOk]; omega) _ rfl (by simp [useC, hun])
 ·by_cases h0 : x.n ≥ 0
  ·simp -implicitDefEqProofs only [go_sem, dnW_ite, go_sem_proc, h0]
   exact hk _ (by decide) (by simp [nOk]; omega) _ rfl (by simp [useC, hun])
  ·simp -implicitDefEqProofs only [go_sem, dnW_ite, go_sem_proc, h0]
   exact hk _ (by decide) (by simp [nOk]; omega) _ rfl (by simp [useC, hun])
 ·by_cases h0 : x.n ≥ 0
  ·simp -implicitDefEqProofs only [go_sem, dnW_ite, go_sem_proc, h0]
   exact hk _ (by decide) (by simp [nOk]; omega) _ rfl (by simp [useC, hun])
  ·simp -implicitDefEqProofs only [go_sem, dnW_ite, go_sem_proc, h0]
   exact hk _ (by decide) (by simp [nOk]; omega) _ rfl (by simp [useC, hun])
 ·simp -implicitDefEqProofs only [go_sem, dnW_ite, go_sem_proc]
  exact hk _ (by decide) (by simp [nOk]) _ rfl (by simp [useC, hun])
 ·have h6 : ∀ many, many = (decide (1 ≤ x.c) && decide (x.c ≤ 48)) → ∀ J : JH, J[0]? = some (.cells 0 x.cs false) → WP (onJoinD 0 (dn BI l_code_right_k0 [nI cells, .ptr 0 0 0, .int .i64 x.n, .bool many] J) l_code_right_k1) K := by
   intro many hm J hJ
   rw [right_k0 x ⟨w1, w2, w3, w4, w5, w6⟩ cells many hc J hJ]
   simp -implicitDefEqProofs only [go_sem, dnW_ite, go_sem_proc]
   exact hK _ _ (frzE rfl (by simp [itup, Cd.right, hop, hun, hm]))
  by_cases h0 : (x.c : Int) ≥ 1
  ·simp -implicitDefEqProofs only [go_sem, dnW_ite, go_sem_proc, h0]
   refine h6 _ ?_ _ rfl
   rw [Bool.eq_iff_iff]; simp; omega
  ·simp -implicitDefEqProofs only [go_sem, dnW_ite, go_sem_proc, h0]
   refine h6 _ ?_ _ rfl
   rw [Bool.eq_iff_iff]; simp; omega
def rightL (l : List Cd) (cells players : Nat) : Bool := decide (l.length ≤ 96) && l.all fun x => x.right l.length cells players
theorem Check_ok (x : IV) (l : List Cd) (hx : Ls 6 x (l.map Cd.e)) (hw : ∀ c ∈ l, c.wf) (cells players : Nat) (hc : cells ≤ 1000000) (hp : players ≤ 1000000) :
  ∃ k : Nat, pc BI F_code_Check [x, nI cells, nI players] = some (.tup [nI k, .bool (rightL l cells players)]) := by
 have : ∃ u, pc BI F_code_Check [x, nI cells, nI players] = some u ∧ ∃ k : Nat, u = .tup [nI k, .bool (rightL l cells players)] := by
  refine pcW fn_code_Check rfl fun K hK => ?_
  unfold l_code_Check
  by_cases h96 : l.length > 96
  ·have h' : (l.length : Int) > 96 := by omega
   simp -implicitDefEqProofs only [go_sem, dnW_ite, go_sem_proc, hx.lenF, List.length_map, h']
   refine hK _ _ _ (frzP rfl) ⟨96, ?_⟩
   simp [itup, rightL, show ¬ l.length ≤ 96 by omega]
  have h' : ¬ (l.length : Int) > 96 := by omega
  simp -implicitDefEqProofs only [go_sem, dnW_ite, go_sem_proc, hx.lenF, List.length_map, h', dcp uses_ok rfl, dn_loop]
  refine WP_range (by decide) l.length (fun i vs J => vs = [x, nI cells, nI players, .ptr 0 0 0, x, nI l.length, nI i] ∧ J[0]? = some (.cells 0 usesL false) ∧ (l.take i).all (fun x => x.right l.length cells players) = true) ?_ ⟨rfl, rfl, rfl⟩
  rintro i vs J ⟨rfl, hJ, ha⟩ hi K1 g1 g2 g3
  unfold l_code_Check_k0
  by_cases h : i < l.length
  ·have hat := fun J => hx.at (i := i) (by simpa using h) (J := J)
   simp only [List.getElem_map, Cd.e, Cd.cs] at hat
   have hr := right_ok l[i] (hw _ (List.getElem_mem h)) l.length cells players (by omega) hc hp
   have hin := inb hJ
   rw [List.take_succ_eq_append_getElem h, List.all_append, ha] at g1
   simp only [Cd.e, Cd.cs] at hr
   have fin : ∀ J', J'[0]? = some (.cells 0 usesL false) → l[i].right l.length cells players = true → K1 (.goto 1 [x, nI cells, nI players, .ptr 0 0 0, x, nI l.length, nI (i + 1)]) J' := fun J' h1 h2 => g1 h _ _ ⟨rfl, h1, by simp [h2]⟩
   cases hv : l[i].right l.length cells players with
   | true =>
    rw [hv] at hr
    simp -implicitDefEqProofs only [go_sem, dnW_ite, go_sem_proc, show ((i : Int) < (l.length : Int)) by omega, hat, hJ, hx.lenF, List.length_map, Array.getElem?_push, hin, dcp hr (by simp [ipureL, ipure, uses_pure]), wrapS h (show l.length ≤ 9223372036854775807 by omega)]
    refine fin _ ?_ hv
    rw [Array.getElem?_push, if_neg (by have := lt_get hJ; omega)]
    exact hJ
   | false =>
    rw [hv] at hr
    simp -implicitDefEqProofs only [go_sem, dnW_ite, go_sem_proc, show ((i : Int) < (l.length : Int)) by omega, hat, hJ, hx.lenF, List.length_map, Array.getElem?_push, hin, dcp hr (by simp [ipureL, ipure, uses_pure])]
    refine g3 _ _ (hK _ _ _ (frzP rfl) ⟨i, ?_⟩)
    have : ¬ (l.all fun x => x.right l.length cells players) = true := fun hh => by
     rw [List.all_eq_true] at hh
     have := hh _ (List.getElem_mem h)
     rw [hv] at this; cases this
    simp only [Bool.not_eq_true] at this
    simp [itup, rightL, this]
  ·simp -implicitDefEqProofs only [go_sem, dnW_ite, go_sem_proc, show ¬ ((i : Int) < (l.length : Int)) by omega]
   refine g2 _ _ ?_
   unfold l_code_Check_k1
   simp -implicitDefEqProofs only [go_sem, dnW_ite, go_sem_proc]
   refine hK _ _ _ (frzP rfl) ⟨0, ?_⟩
   rw [List.take_of_length_le (by omega)] at ha
   simp [itup, rightL, ha, show l.length ≤ 96 by omega]
 obtain ⟨u, h1, k, rfl⟩ := this
 exact ⟨k, h1⟩
theorem Right_ok (x : IV) (l : List Cd) (hx : Ls 6 x (l.map Cd.e)) (hw : ∀ c ∈ l, c.wf) (cells players : Nat) (hc : cells ≤ 1000000) (hp : players ≤ 1000000) :
  pc BI F_code_Right [x, nI cells, nI players] = some (.bool (rightL l cells players)) := by
 obtain ⟨k, hk⟩ := Check_ok x l hx hw cells players hc hp
 refine pcE fn_code_Right rfl fun K hK => ?_
 unfold l_code_Right
 simp -implicitDefEqProofs only [go_sem, dnW_ite, go_sem_proc, dcp hk (by simp [ipureL, ipure, hx.pure])]
 exact hK _ _ (frzE rfl rfl)
theorem pmap_by8 (l : List (BitVec 8)) : l.map by8 = (l.map fun b => (b.toNat : Int)).map (IV.int .u8) := by simp
theorem pBytes_ok (J : JH) (b : Nat) (s : IV) (l : List (BitVec 8)) (h : PenAt J b s l) (hb : l.length ≤ 1000000) :
  RP (ic BI F_ink_Pen_Bytes [.ptr b 0 0] J) fun r J' => Ls 1 r (l.map by8) := by
 refine RP_run fn_ink_Pen_Bytes rfl fun K hK => ?_
 obtain ⟨hb1, hb2, hg⟩ := h
 obtain ⟨u, hu, hl⟩ := hg.frz1 by8_pure by8_one
 obtain ⟨y, hy, hy2⟩ := bClone_pc (x := u) (l := l.map fun b => (b.toNat : Int)) (by rw [Bs, ← pmap_by8]; exact hl) (by simpa using hb)
 unfold l_ink_Pen_Bytes
 have ha : [s].mapM (frz J DEP) = some [u] := by simp [hu]
 simp -implicitDefEqProofs only [go_sem, dnW_ite, go_sem_proc, hb1, dcf ha hy]
 refine hK _ _ ?_
 rw [Bs, ← pmap_by8] at hy2
 exact hy2
def poly : BitVec 32 := 2197175160#32
def turn1 (s : BitVec 32) : BitVec 32 := (s >>> 1) ^^^ ((s &&& 1#32) * poly)
def turns : Nat → BitVec 32 → BitVec 32
 | 0, s => s
 | n + 1, s => turn1 (turns n s)
def stepW (s : BitVec 32) (b : BitVec 8) : BitVec 32 := turns 8 (s ^^^ b.setWidth 32)
theorem wStep_ok (s : BitVec 32) (b : BitVec 8) : pc BI F_wax_Step [m32 s, by8 b] = some (m32 (stepW s b)) := by
 refine pcE fn_wax_Step rfl fun K hK => ?_
 unfold l_wax_Step
 simp -implicitDefEqProofs only [go_sem, dnW_ite, go_sem_proc, dn_loop]
 refine WP_range (by decide) 8 (fun i vs J => vs = [m32 (turns i (s ^^^ b.setWidth 32)), nI i]) ?_ rfl
 rintro i vs J rfl hi K1 g1 g2 g3
 unfold l_wax_Step_k0
 by_cases h : i < 8
 ·simp -implicitDefEqProofs only [go_sem, dnW_ite, go_sem_proc, show ((i : Int) < 8) by omega, wrapS h (by omega)]
  exact g1 h _ _ rfl
 ·simp -implicitDefEqProofs only [go_sem, dnW_ite, go_sem_proc, show ¬ ((i : Int) < 8) by omega]
  refine g2 _ _ ?_
  unfold l_wax_Step_k1
  obtain rfl : i = 8 := by omega
  simp -implicitDefEqProofs only [go_sem, dnW_ite, go_sem_proc]
  exact hK _ _ (frzE rfl rfl)
def tabL (f : Nat → BitVec 32) : List IV := (List.range 256).map fun i => m32 (f i)
theorem tabL_len (f) : (tabL f).length = 256 := by simp [tabL]
theorem tabL_one (f) : (tabL f).all ione = true := by simp [tabL, ione, one]
theorem tabL_pure (f) : ipureL (tabL f) = true := ipureL_iff.2 fun x hx => by
 obtain ⟨y, _, rfl⟩ := List.mem_map.1 hx; rfl
theorem tabL_at (f) {i : Nat} (h : i < 256) : ((tabL f).drop i).take 1 = [m32 (f i)] := by
 rw [take1 (by rw [tabL_len]; exact h)]
 simp [tabL]
theorem tabL_set (f) {i : Nat} (h : i < 256) (v : BitVec 32) : isplice (tabL f) i [m32 v] = tabL (fun j => if j = i then v else f j) := by
 rw [isplice_set (by rw [tabL_len]; exact h)]
 apply List.ext_getElem
 ·simp [tabL]
 ·intro j h1 h2
  simp only [tabL, List.getElem_set, List.getElem_map, List.getElem_range]
  by_cases e : i = j
  ·simp [e]
  ·simp [e, Ne.symm e]
theorem tabL_all (f g) : isplice (tabL f) 0 (tabL g) = tabL g := by
 simp only [isplice, List.take_zero, List.nil_append, Nat.zero_add]
 rw [List.drop_of_length_le (by rw [tabL_len, tabL_len]; exact Nat.le_refl _), List.append_nil]
theorem tabL_take (f) : (tabL f).take 256 = tabL f := List.take_of_length_le (by rw [tabL_len]; exact Nat.le_refl _)
theorem zc_tab : (reps 256 [Value.int .u32 0]).map IV.sc = tabL fun _ => 0#32 := by
 simp only [reps, tabL, List.map_const', List.flatten_replicate_singleton, List.append_nil, List.map_replicate, List.length_range]; rfl
attribute [go_sem] tabL_len tabL_one tabL_pure tabL_all tabL_take
attribute [go_sem ↓] zc_tab
def tabF (n : Nat) (i : Nat) : BitVec 32 := if i < n then stepW 0#32 (BitVec.ofNat 8 i) else 0#32
def crcT : Nat → BitVec 32 := tabF 256
theorem Make_ok : pc BI F_wax_Make [] = some (.agg (tabL crcT)) := by
 refine pcE fn_wax_Make rfl fun K hK => ?_
 unfold l_wax_Make
 have h0 : (fun _ => 0#32) = tabF 0 := by funext i; simp [tabF]
 simp -implicitDefEqProofs only [go_sem, dnW_ite, go_sem_proc, dn_loop, h0]
 obtain ⟨N, hN⟩ : ∃ N : Nat, N = 256 := ⟨_, rfl⟩
 refine WP_range (by decide) N (fun i vs J => vs = [.ptr 0 0 0, .ptr 1 0 0, nI i] ∧ J = [IB.cells 0 (tabL (tabF 0)) false, IB.cells 0 (tabL (tabF i)) false].toArray) ?_ ⟨rfl, rfl⟩
 rintro i vs J ⟨rfl, rfl⟩ hi K1 g1 g2 g3
 unfold l_wax_Make_k0
 by_cases h : i < N
 ·have h2 : i < 256 := by omega
  have e : IntKind.u8.wrap (i : Int) = ((BitVec.ofNat 8 i).toNat : Int) := by
   simp only [IntKind.wrap, IntKind.bits, IntKind.signed, BitVec.toNat_ofNat]; simp
  have hs : pc BI F_wax_Step [.int .u32 0, by8 (BitVec.ofNat 8 i)] = _ := wStep_ok 0#32 (BitVec.ofNat 8 i)
  simp -implicitDefEqProofs only [go_sem, dnW_ite, go_sem_proc, show ((i : Int) < 256) by omega, wrapS h (by omega), e, dcp hs rfl, h2, show i ≤ 255 by omega, tabL_set _ h2]
  refine g1 h _ _ ⟨rfl, ?_⟩
  have : (fun j => if j = i then stepW 0#32 (BitVec.ofNat 8 i) else tabF i j) = tabF (i + 1) := by
   funext j
   simp only [tabF]
   by_cases hj : j = i
   ·subst hj; simp
   ·by_cases hj2 : j < i
    ·simp [hj, hj2, show j < i + 1 by omega]
    ·simp [hj, hj2, show ¬ j < i + 1 by omega]
  rw [this]
 ·simp -implicitDefEqProofs only [go_sem, dnW_ite, go_sem_proc, show ¬ ((i : Int) < 256) by omega]
  refine g2 _ _ ?_
  unfold l_wax_Make_k1
  obtain rfl : i = N := by omega
  subst hN
  simp -implicitDefEqProofs only [go_sem, dnW_ite, go_sem_proc]
  exact hK _ _ (frzE (by simp [itup, ipure, tabL_pure]) rfl)
def sumStep (f : Nat → BitVec 32) (s : BitVec 32) (b : BitVec 8) : BitVec 32 := (s >>> 8) ^^^ f (s.setWidth 8 ^^^ b).toNat
def sumF (f : Nat → BitVec 32) (ps : List (List (BitVec 8))) : BitVec 32 := ~~~ (ps.foldl (fun s p => p.foldl (sumStep f) s) (BitVec.allOnes 32))
theorem foldl_take_succ {α β : Type} (f : β → α → β) (l : List α) (i : Nat) (h : i < l.length) (z : β) : (l.take (i + 1)).foldl f z = f ((l.take i).foldl f z) l[i] := by
 rw [List.take_succ_eq_append_getElem h, List.foldl_append]; rfl
theorem Sum_ok (f : Nat → BitVec 32) (x : IV) (ps : List (List (BitVec 8))) (hx : LsR 1 (fun e p => Ls 1 e (p.map by8)) x ps) (hb : ps.length ≤ 1000000) (hp : ∀ p ∈ ps, p.length ≤ 9223372036854775807) :
  pc BI F_wax_Table_Sum [.agg (tabL f), x] = some (m32 (sumF f ps)) := by
 refine pcE fn_wax_Table_Sum rfl fun K hK => ?_
 unfold l_wax_Table_Sum
 simp -implicitDefEqProofs only [go_sem, dnW_ite, go_sem_proc, dn_loop, hx.lenF]
 refine WP_range (by decide) ps.length (fun i vs J => vs = [.ptr 0 0 0, m32 ((ps.take i).foldl (fun s p => p.foldl (sumStep f) s) (BitVec.allOnes 32)), x, nI ps.length, nI i] ∧ J = #[IB.cells 0 (tabL f) false]) ?_ ⟨rfl, by simp⟩
 rintro i vs J ⟨rfl, rfl⟩ hi K1 g1 g2 g3
 unfold l_wax_Table_Sum_k2
 by_cases h : i < ps.length
 ·obtain ⟨e, he, hat⟩ := hx.at h
  have hpl := hp _ (List.getElem_mem h)
  simp -implicitDefEqProofs only [go_sem, dnW_ite, go_sem_proc, show ((i : Int) < (ps.length : Int)) by omega, hat, he.one, ↓he.icells, he.lenF, List.length_map, dn_loop]
  refine WP_range (by decide) ps[i].length (fun j vs J => vs = [.ptr 0 0 0, m32 ((ps[i].take j).foldl (sumStep f) ((ps.take i).foldl (fun s p => p.foldl (sumStep f) s) (BitVec.allOnes 32))), x, nI ps.length, nI i, e, nI ps[i].length, nI j] ∧ J = #[IB.cells 0 (tabL f) false]) ?_ ⟨rfl, rfl⟩
  rintro j vs J ⟨rfl, rfl⟩ hj K2 q1 q2 q3
  unfold l_wax_Table_Sum_k0
  by_cases h' : j < ps[i].length
  ·have ha := fun J => he.at (i := j) (by simpa using h') (J := J)
   simp only [List.getElem_map] at ha
   simp -implicitDefEqProofs only [go_sem, dnW_ite, go_sem_proc, show ((j : Int) < (ps[i].length : Int)) by omega, ha, wrapS h' hpl]
   have h9 := (BitVec.setWidth 8 ((ps[i].take j).foldl (sumStep f) ((ps.take i).foldl (fun s p => p.foldl (sumStep f) s) (BitVec.allOnes 32))) ^^^ ps[i][j]).isLt
   simp -implicitDefEqProofs only [go_sem, dnW_ite, go_sem_proc, h9, show _ ≤ 255 from Nat.le_of_lt_succ h9, tabL_at f h9, wrapS h' hpl]
   refine q1 h' _ _ ⟨?_, rfl⟩
   rw [foldl_take_succ _ _ _ h']; rfl
  ·simp -implicitDefEqProofs only [go_sem, dnW_ite, go_sem_proc, show ¬ ((j : Int) < (ps[i].length : Int)) by omega]
   refine q2 _ _ ?_
   unfold l_wax_Table_Sum_k1
   simp -implicitDefEqProofs only [go_sem, dnW_ite, go_sem_proc, wrapS h (by omega)]
   refine g1 h _ _ ⟨?_, rfl⟩
   rw [List.take_of_length_le (show ps[i].length ≤ j by omega), foldl_take_succ _ _ _ h]
 ·simp -implicitDefEqProofs only [go_sem, dnW_ite, go_sem_proc, show ¬ ((i : Int) < (ps.length : Int)) by omega]
  refine g2 _ _ ?_
  unfold l_wax_Table_Sum_k3
  simp -implicitDefEqProofs only [go_sem, dnW_ite, go_sem_proc]
  refine hK _ _ (frzE rfl ?_)
  rw [List.take_of_length_le (by omega)]; rfl
def Cl.e (c : Cl) : IV := .agg c.c
def Bd.new (l : List Cl) : Bd := if h : l.length ≤ 48 then ⟨l, h⟩ else Bd.z
theorem cells_flat (l : List Cl) : (l.map Cl.e).flatMap icells = (l.map Cl.c).flatten := by
 rw [List.flatMap_map]; simp [List.flatMap_def, icells, Cl.e]
theorem flat_one (l : List Cl) : (l.map Cl.c).flatten.all ione = true := by
 rw [List.all_eq_true]
 intro x hx
 obtain ⟨e, he, hx⟩ := List.mem_flatten.1 hx
 obtain ⟨y, _, rfl⟩ := List.mem_map.1 he
 simp [Cl.c] at hx
 rcases hx with rfl | rfl <;> rfl
theorem flat_cl (l : List Cl) : (l.map Cl.c).flatten.length = l.length * 2 := by
 rw [flat_len (sz := 2)]
 ·simp
 ·intro e he
  obtain ⟨y, _, rfl⟩ := List.mem_map.1 he
  rfl
theorem new_cells (l : List Cl) (h : l.length ≤ 48) : isplice (isplice (bdc Bd.z) 0 (l.map Cl.c).flatten) 96 [nI l.length] = bdc ⟨l, h⟩ := by
 have e1 : isplice (bdc Bd.z) 0 (l.map Cl.c).flatten = ((l ++ List.replicate (48 - l.length) Cl.z).map Cl.c).flatten ++ [nI 0] := by
  simp only [isplice, List.take_zero, List.nil_append, Nat.zero_add, flat_cl, List.map_append, List.flatten_append, List.append_assoc, List.append_cancel_left_eq]
  have : bdc Bd.z = ((List.replicate l.length Cl.z).map Cl.c).flatten ++ (((List.replicate (48 - l.length) Cl.z).map Cl.c).flatten ++ [nI 0]) := by
   rw [← List.append_assoc, ← List.flatten_append, ← List.map_append, List.replicate_append_replicate, show l.length + (48 - l.length) = 48 by omega]
   rfl
  rw [this, List.drop_append_of_le_length (by rw [flat_cl]; simp), List.drop_of_length_le (by rw [flat_cl]; simp), List.nil_append]
 rw [e1]
 have h2 : ((l ++ List.replicate (48 - l.length) Cl.z).map Cl.c).flatten.length = 96 := by rw [flat_cl]; simp; omega
 unfold isplice
 rw [List.take_append_of_le_length (by omega), List.take_of_length_le (by omega), List.drop_of_length_le (by rw [List.length_append, h2]; simp)]
 rw [bdc, Bd.pad]; simp
theorem splice_len (cs vs : List IV) (off : Nat) (h : off + vs.length ≤ cs.length) : (isplice cs off vs).length = cs.length := by
 simp [isplice]; omega
theorem New_ok (x : IV) (l : List Cl) (hx : Ls 2 x (l.map Cl.e)) (hb : l.length ≤ 9223372036854775807) : pc BI F_board_New [x] = some (.tup [.agg (bdc (Bd.new l)), nI (if l.length ≤ 48 then 0 else 6)]) := by
 refine pcE fn_board_New rfl fun K hK => ?_
 unfold l_board_New
 by_cases h : l.length ≤ 48
 ·have e1 : isplice (bdc Bd.z) 0 (l.map Cl.c).flatten = isplice (bdc Bd.z) 0 (l.map Cl.c).flatten := rfl
  have hl := splice_len (bdc Bd.z) (l.map Cl.c).flatten 0 (by rw [flat_cl, bdc_len]; omega)
  rw [bdc_len] at hl
  have hn := new_cells l h
  have hc := hx.cells
  rw [cells_flat] at hc
  have hm : min l.length 48 = l.length := by omega
  have ht : (l.map Cl.c).flatten.take (l.length * 2) = (l.map Cl.c).flatten := List.take_of_length_le (by rw [flat_cl]; exact Nat.le_refl _)
  have hil := hx.ilen
  rw [List.length_map] at hil
  by_cases h0 : l.length = 0
  ·have hnil : l = [] := List.eq_nil_of_length_eq_zero h0
   subst hnil
   have hnew : Bd.new [] = Bd.z := rfl
   have hsp : isplice (bdc Bd.z) 96 [IV.int .i64 0] = bdc Bd.z := by rfl
   simp -implicitDefEqProofs only [go_sem, dnW_ite, go_sem_proc, hx.lenF, copyF_0 hx (b := 1) (v := 0) (off := 0) (cap := 48) (dl := 48) (by simp), List.length_nil, hsp, Nat.zero_min, show ¬ (((0 : Nat) : Int) > 48) by omega, show ((0 : Nat) : Int) = 0 from rfl]
   exact hK _ _ (frzE (by simp [itup, ipure, ipureL, bdc_pure]) rfl)
  ·have hgt : ¬ ((l.length : Int) > 48) := by omega
   have hnew : Bd.new l = ⟨l, h⟩ := by simp [Bd.new, h]
   simp -implicitDefEqProofs only [go_sem, dnW_ite, go_sem_proc, hx.lenF, List.length_map, hgt, copyF_ls hx (b := 1) (v := 0) (off := 0) (cap := 48) (dl := 48) (by rw [List.length_map]; omega), cells_flat, hm, h0, ht, flat_cl, flat_one, show l.length * 2 ≤ 97 by omega, hl, hn]
   refine hK _ _ (frzE (by simp [itup, ipure, ipureL, bdc_pure]) ?_)
   rw [hnew]; simp [itup, h]
 ·have hgt : ((l.length : Int) > 48) := by omega
  have hnew : Bd.new l = Bd.z := by simp [Bd.new, h]
  simp -implicitDefEqProofs only [go_sem, dnW_ite, go_sem_proc, hx.lenF, List.length_map, hgt]
  refine hK _ _ (frzE (by simp [itup, ipure, ipureL, bdc_pure]) ?_)
  rw [hnew]; simp [itup, h]
theorem convI32 (v : Int) : IntKind.u32.wrap v = ((BitVec.ofInt 32 v).toNat : Int) := by
 simp only [IntKind.wrap, IntKind.bits, IntKind.signed, BitVec.toNat_ofInt]; simp; omega
theorem Upd.keep {b d : Nat} {J J' : JH} {s s' : IV} {X : IB} (h : Upd b J s J' s') (hd : J[d]? = some X) (hb : d ≠ b) (hs : d ∉ blk s) : J'[d]? = some X := by
 rw [h.1.2 d (lt_get hd) (by simp [hb, hs])]; exact hd
theorem Upd.out {b d : Nat} {J J' : JH} {s s' : IV} (h : Upd b J s J' s') (hd : d < J.size) (hs : d ∉ blk s) : d ∉ blk s' := fun hm => by
 rcases h.2 d hm with h | h
 ·exact hs h
 ·omega
theorem PenAt.push {J : JH} {b : Nat} {s : IV} {l : List (BitVec 8)} (X : IB) (h : PenAt J b s l) : PenAt (J.push X) b s l :=
 ⟨by rw [Array.getElem?_push, if_neg (Nat.ne_of_lt (lt_get h.1))]; exact h.1, h.2.1, h.2.2.fr (S := []) (.push _ _ _) (by simp)⟩
theorem PenAt.low {J : JH} {b : Nat} {s : IV} {l : List (BitVec 8)} (h : PenAt J b s l) : J.size ∉ blk s := fun hm => Nat.lt_irrefl _ (h.2.2.low _ hm)
def cellB (values : Bool) (c : Cl) : List (BitVec 8) := (if values then leW (BitVec.ofInt 32 c.v) else []) ++ leW c.s
def bdB (values : Bool) (l : List Cl) : List (BitVec 8) := l.flatMap (cellB values)
theorem leW_len (n) : (leW n).length = 4 := rfl
theorem cellB_len (v : Bool) (c : Cl) : (cellB v c).length ≤ 8 := by
 cases v <;> simp [cellB, leW_len]
theorem bdB_len (v : Bool) : ∀ (l : List Cl), (bdB v l).length ≤ l.length * 8
 | [] => by simp [bdB]
 | c :: l => by
  have h1 := cellB_len v c
  have h2 := bdB_len v l
  simp only [bdB, List.flatMap_cons, List.length_append, List.length_cons] at h2 ⊢
  omega
def sumB (values : Bool) (b : Bd) : BitVec 32 := sumF crcT [bdB values b.l]
theorem sum_ok (b : Bd) (values : Bool) : pc BI F_board_Board_sum [.agg (bdc b), .bool values] = some (m32 (sumB values b)) := by
 refine pcE fn_board_Board_sum rfl fun K hK => ?_
 unfold l_board_Board_sum
 have h4 := b.h
 simp -implicitDefEqProofs only [go_sem, dnW_ite, go_sem_proc, dn_loop, h4, show b.l.length < UNK by simp [UNK]; omega, Int.toNat_natCast, show ¬ (b.l.length : Int) < 0 by omega]
 refine WP_range (by decide) b.l.length (fun i vs J => vs = [.bool values, .ptr 1 0 0, .sl 0 0 0 b.l.length 48 2, nI b.l.length, nI i] ∧ J[0]? = some (.cells 0 (bdc b) false) ∧ ∃ s, PenAt J 1 s (bdB values (b.l.take i)) ∧ 0 ∉ blk s) ?_ ⟨rfl, rfl, .sc (.slice none 0 0), ⟨rfl, by simp [blk, blkOf], .nil⟩, by simp [blk, blkOf]⟩
 rintro i vs J ⟨rfl, h0, s, hp, hs0⟩ hi K1 g1 g2 g3
 unfold l_board_Board_sum_k0
 by_cases h : i < b.l.length
 ·have hin := inb h0
  have hlen := bdB_len values (b.l.take i)
  have hpl := hp.low
  have hnx : bdB values (b.l.take (i + 1)) = bdB values (b.l.take i) ++ cellB values b.l[i] := by
   rw [List.take_succ_eq_append_getElem h]; simp only [bdB, List.flatMap_append, List.flatMap_cons, List.flatMap_nil, List.append_nil]
  rw [List.length_take] at hlen
  have fin : ∀ J' s', PenAt J' 1 s' (bdB values (b.l.take (i + 1))) → J'[0]? = some (.cells 0 (bdc b) false) → 0 ∉ blk s' → K1 (.goto 1 [.bool values, .ptr 1 0 0, .sl 0 0 0 b.l.length 48 2, nI b.l.length, nI (i + 1)]) J' := fun J' s' k1 k2 k3 => g1 h _ _ ⟨rfl, k2, s', k1, k3⟩
  have hlt0 := lt_get h0
  have hlt1 := lt_get hp.1
  cases values with
  | true =>
   simp -implicitDefEqProofs only [go_sem, dnW_ite, go_sem_proc, show ((i : Int) < (b.l.length : Int)) by omega, h, h0, b48 (show i < 48 by omega), bdc_at b h, Array.getElem?_push, hin, convI32]
   have hbx : (J.push (IB.cells 0 [IV.int .i32 b.l[i].v, m32 b.l[i].s] false))[J.size]? = some (IB.cells 0 [IV.int .i32 b.l[i].v, m32 b.l[i].s] false) := by simp
   have h0' : (J.push (IB.cells 0 [IV.int .i32 b.l[i].v, m32 b.l[i].s] false))[0]? = some (IB.cells 0 (bdc b) false) := by rw [Array.getElem?_push, if_neg (by omega)]; exact h0
   refine WP_call (Word_ok _ 1 s _ (BitVec.ofInt 32 b.l[i].v) (hp.push _) (by omega)) fun v J1 hv => ?_
   obtain ⟨rfl, s1, k1, u1⟩ := hv
   have hb1 := u1.keep hbx (by omega) hpl
   have h01 := u1.keep h0' (by decide) hs0
   have hs1 := u1.out (by simp) hs0
   simp -implicitDefEqProofs only [go_sem, dnW_ite, go_sem_proc, hb1]
   refine WP_call (Word_ok _ 1 s1 _ b.l[i].s k1 (by rw [List.length_append, leW_len]; omega)) fun v J2 hv => ?_
   obtain ⟨rfl, s2, k2, u2⟩ := hv
   simp -implicitDefEqProofs only [go_sem, dnW_ite, go_sem_proc, wrapS h (show b.l.length ≤ 9223372036854775807 by omega)]
   refine fin _ s2 ?_ (u2.keep h01 (by decide) hs1) (u2.out (lt_get h01) hs1)
   rw [hnx]
   rw [List.append_assoc] at k2
   exact k2
  | false =>
   simp -implicitDefEqProofs only [go_sem, dnW_ite, go_sem_proc, show ((i : Int) < (b.l.length : Int)) by omega, h, h0, b48 (show i < 48 by omega), bdc_at b h, Array.getElem?_push, hin, convI32]
   refine WP_call (Word_ok _ 1 s _ b.l[i].s (hp.push _) (by omega)) fun v J1 hv => ?_
   obtain ⟨rfl, s1, k1, u1⟩ := hv
   simp -implicitDefEqProofs only [go_sem, dnW_ite, go_sem_proc, wrapS h (show b.l.length ≤ 9223372036854775807 by omega)]
   refine fin _ s1 ?_ ?_ ?_
   ·rw [hnx]; exact k1
   ·exact u1.keep (by rw [Array.getElem?_push, if_neg (by omega)]; exact h0) (by decide) hs0
   ·exact u1.out (by simp) hs0
 ·simp -implicitDefEqProofs only [go_sem, dnW_ite, go_sem_proc, show ¬ ((i : Int) < (b.l.length : Int)) by omega]
  refine g2 _ _ ?_
  unfold l_board_Board_sum_k1
  simp -implicitDefEqProofs only [go_sem, dnW_ite, go_sem_proc, dcp Make_ok rfl]
  rw [List.take_of_length_le (by omega)] at hp
  have hlen := bdB_len values b.l
  refine WP_call (pBytes_ok J 1 s _ hp (by omega)) fun v J1 hv => ?_
  simp -implicitDefEqProofs only [go_sem, dnW_ite, go_sem_proc, ↓hv.pure, ↓hv.one, ↓hv.icells, ipureL, grp, mkE, List.headD]
  have hs := Sum_ok crcT (.lst 1 true [v]) [bdB values b.l] ⟨[v], .lst, rfl, fun i h h' => by
   obtain rfl : i = 0 := by simpa using h
   exact hv⟩ (by simp) (by simp; omega)
  simp -implicitDefEqProofs only [go_sem, dnW_ite, go_sem_proc, dcp hs (by simp [ipureL, ipure, tabL_pure])]
  exact hK _ _ (frzE rfl rfl)
structure Gm where
 obs : Int
 players : Int
 moves : BitVec 32
 dflt : BitVec 32
 cells : List Cl
 code : List Cd
def gmc (g : Gm) (x y : IV) : List IV := [.int .i64 g.obs, .int .i64 g.players, m32 g.moves, m32 g.dflt, x, y]
structure GR (g : Gm) (x y : IV) : Prop where
 x : Ls 2 x (g.cells.map Cl.e)
 y : Ls 6 y (g.code.map Cd.e)
theorem gm_len (g x y) : (gmc g x y).length = 6 := rfl
theorem gm_take (g x y) : (gmc g x y).take 6 = gmc g x y := rfl
theorem gm_0 (g x y) : ((gmc g x y).drop 0).take 1 = [.int .i64 g.obs] := rfl
theorem gm_00 (g x y) : (gmc g x y).take 1 = [.int .i64 g.obs] := rfl
theorem gm_1 (g x y) : ((gmc g x y).drop 1).take 1 = [.int .i64 g.players] := rfl
theorem gm_2 (g x y) : ((gmc g x y).drop 2).take 1 = [m32 g.moves] := rfl
theorem gm_3 (g x y) : ((gmc g x y).drop 3).take 1 = [m32 g.dflt] := rfl
theorem gm_4 (g x y) : ((gmc g x y).drop 4).take 1 = [x] := rfl
theorem gm_5 (g x y) : ((gmc g x y).drop 5).take 1 = [y] := rfl
attribute [go_sem] gm_len gm_take gm_0 gm_00 gm_1 gm_2 gm_3 gm_4 gm_5
theorem GR.pure {g x y} (h : GR g x y) : ipureL (gmc g x y) = true := by
 simp [ipureL, gmc, ipure, h.x.pure, h.y.pure]
theorem GR.one {g x y} (h : GR g x y) : (gmc g x y).all ione = true := by
 have h1 := h.x.one
 have h2 := h.y.one
 simp only [gmc, List.all_cons, List.all_nil, h1, h2]; rfl
def Gm.legal (g : Gm) (m : BitVec 32) : Bool := decide (m.toNat < g.moves.toNat)
theorem All10_ok (g : Gm) (x y : IV) (h : GR g x y) : pc BI F_rules_Game_All [.agg (gmc g x y)] = some (m32 (allM g.obs)) := by
 refine pcE fn_rules_Game_All rfl fun K hK => ?_
 unfold l_rules_Game_All
 simp -implicitDefEqProofs only [go_sem, dnW_ite, go_sem_proc, h.one, dcp (All_ok g.obs) rfl]
 exact hK _ _ (frzE rfl rfl)
theorem Legal_ok (g : Gm) (x y : IV) (h : GR g x y) (m : BitVec 32) : pc BI F_rules_Game_Legal [.agg (gmc g x y), m32 m] = some (.bool (g.legal m)) := by
 refine pcE fn_rules_Game_Legal rfl fun K hK => ?_
 unfold l_rules_Game_Legal
 simp -implicitDefEqProofs only [go_sem, dnW_ite, go_sem_proc, h.one]
 refine hK _ _ (frzE rfl ?_)
 simp [Gm.legal, itup]
def Gm.right (g : Gm) : Bool :=
 decide (1 ≤ g.obs ∧ g.obs ≤ 32) && decide (1 ≤ g.players ∧ g.players ≤ 6 ∧ g.players ≤ g.obs) && decide (g.dflt.toNat < g.moves.toNat) && decide (g.cells.length ≤ 48) &&
 g.cells.all (fun c => within c.s (allM g.obs)) && rightL g.code g.cells.length g.players.toNat
theorem gRight_k (g : Gm) (x y : IV) (h : GR g x y) (hw : ∀ c ∈ g.code, c.wf) (hb : g.code.length ≤ 9223372036854775807) (h48 : g.cells.length ≤ 48) (hp : 0 ≤ g.players ∧ g.players ≤ 6) (J : JH) (h0 : J[0]? = some (.cells 0 (gmc g x y) false)) (K : Out IV → JH → Prop)
  (hK : ∀ J', K (.ret [.bool (g.cells.all (fun c => within c.s (allM g.obs)) && rightL g.code g.cells.length g.players.toNat)]) J') :
  WP (dn BI l_rules_Game_Right_k2 [.ptr 0 0 0] J) K := by
 unfold l_rules_Game_Right_k2
 simp -implicitDefEqProofs only [go_sem, dnW_ite, go_sem_proc, h0, h.x.lenF, List.length_map, dn_loop]
 refine WP_range (by decide) g.cells.length (fun i vs J' => vs = [.ptr 0 0 0, x, nI g.cells.length, nI i] ∧ Fr J J' [] ∧ ∀ c ∈ g.cells.take i, within c.s (allM g.obs) = true) ?_ ⟨rfl, .refl _ _, by simp⟩
 rintro i vs J1 ⟨rfl, hf, hn⟩ hi K1 g1 g2 g3
 have h01 : J1[0]? = some (.cells 0 (gmc g x y) false) := by rw [hf.2 0 (lt_get h0) (by simp)]; exact h0
 have hin := inb h01
 unfold l_rules_Game_Right_k0
 by_cases hi2 : i < g.cells.length
 ·have hat := fun J => h.x.at (i := i) (by simpa using hi2) (J := J)
  simp only [List.getElem_map, Cl.e, Cl.c] at hat
  have hwi := Within_ok g.cells[i].s (allM g.obs)
  have hl0 := lt_get h01
  cases hc : within g.cells[i].s (allM g.obs) with
  | false =>
   rw [hc] at hwi
   simp -implicitDefEqProofs only [go_sem, dnW_ite, go_sem_proc, show ((i : Int) < (g.cells.length : Int)) by omega, hat, Array.getElem?_push, h01, hin, show ¬ (0 = J1.size) by omega, show ¬ (J1.size = 0) by omega, dcp (All10_ok g x y h) (by simp [ipureL, ipure, h.pure]), dcp hwi rfl]
   refine g3 _ _ ?_
   have e : g.cells.all (fun c => within c.s (allM g.obs)) = false := by
    rw [List.all_eq_false]
    exact ⟨_, List.getElem_mem hi2, by rw [hc]; decide⟩
   have := hK (J1.push (IB.cells 0 [IV.int .i32 g.cells[i].v, m32 g.cells[i].s] false))
   rw [e] at this
   exact this
  | true =>
   rw [hc] at hwi
   simp -implicitDefEqProofs only [go_sem, dnW_ite, go_sem_proc, show ((i : Int) < (g.cells.length : Int)) by omega, hat, Array.getElem?_push, h01, hin, show ¬ (0 = J1.size) by omega, show ¬ (J1.size = 0) by omega, dcp (All10_ok g x y h) (by simp [ipureL, ipure, h.pure]), dcp hwi rfl, wrapS hi2 (show g.cells.length ≤ 9223372036854775807 by omega)]
   refine g1 hi2 _ _ ⟨rfl, hf.trans (Fr.push _ _ []) (by simp), ?_⟩
   rw [List.take_succ_eq_append_getElem hi2]
   intro c hcm
   rcases List.mem_append.1 hcm with hcm | hcm
   ·exact hn c hcm
   ·simp at hcm; subst hcm; exact hc
 ·simp -implicitDefEqProofs only [go_sem, dnW_ite, go_sem_proc, show ¬ ((i : Int) < (g.cells.length : Int)) by omega]
  refine g2 _ _ ?_
  unfold l_rules_Game_Right_k1
  rw [List.take_of_length_le (by omega)] at hn
  have e : g.cells.all (fun c => within c.s (allM g.obs)) = true := List.all_eq_true.2 hn
  obtain ⟨p, hp2⟩ : ∃ p : Nat, g.players = p := ⟨g.players.toNat, by omega⟩
  have hR := Right_ok y g.code h.y hw g.cells.length p (by omega) (by omega)
  rw [e, hp2] at hK
  simp -implicitDefEqProofs only [go_sem, dnW_ite, go_sem_proc, h01, hp2, h.x.lenF, List.length_map, dcp hR (by simp [ipureL, ipure, h.y.pure])]
  exact hK _
theorem gRight_ok (g : Gm) (x y : IV) (h : GR g x y) (hw : ∀ c ∈ g.code, c.wf) (hb : g.code.length ≤ 9223372036854775807) : pc BI F_rules_Game_Right [.agg (gmc g x y)] = some (.bool g.right) := by
 refine pcE fn_rules_Game_Right rfl fun K hK => ?_
 unfold l_rules_Game_Right
 have no : g.right = false → K (.ret [.bool false]) #[.cells 0 (gmc g x y) false] := fun e => hK _ _ (frzE rfl (by rw [e]; rfl))
 by_cases h1 : g.obs < 1
 ·simp -implicitDefEqProofs only [go_sem, dnW_ite, go_sem_proc, h.one, h1]
  exact no (by simp [Gm.right]; omega)
 by_cases h2 : g.obs > 32
 ·simp -implicitDefEqProofs only [go_sem, dnW_ite, go_sem_proc, h.one, h1, h2]
  exact no (by simp [Gm.right]; omega)
 by_cases h3 : g.players < 1
 ·simp -implicitDefEqProofs only [go_sem, dnW_ite, go_sem_proc, h.one, h1, h2, h3]
  exact no (by simp [Gm.right]; omega)
 by_cases h4 : g.players > min 6 g.obs
 ·simp -implicitDefEqProofs only [go_sem, dnW_ite, go_sem_proc, h.one, h1, h2, h3, h4]
  exact no (by simp [Gm.right]; omega)
 by_cases h5 : (g.dflt.toNat : Int) ≥ (g.moves.toNat : Int)
 ·simp -implicitDefEqProofs only [go_sem, dnW_ite, go_sem_proc, h.one, h1, h2, h3, h4, h5]
  exact no (by simp [Gm.right]; omega)
 by_cases h6 : (g.cells.length : Int) > 48
 ·simp -implicitDefEqProofs only [go_sem, dnW_ite, go_sem_proc, h.one, h1, h2, h3, h4, h5, h.x.lenF, List.length_map, h6]
  exact no (by simp [Gm.right]; omega)
 simp -implicitDefEqProofs only [go_sem, dnW_ite, go_sem_proc, h.one, h1, h2, h3, h4, h5, h.x.lenF, List.length_map, h6]
 refine gRight_k g x y h hw hb (by omega) (by omega) _ rfl K fun J' => hK _ _ (frzE rfl ?_)
 have e1 : decide (1 ≤ g.obs ∧ g.obs ≤ 32) = true := by simp; omega
 have e2 : decide (1 ≤ g.players ∧ g.players ≤ 6 ∧ g.players ≤ g.obs) = true := by simp; omega
 have e3 : decide (g.dflt.toNat < g.moves.toNat) = true := by simp; omega
 have e4 : decide (g.cells.length ≤ 48) = true := by simp; omega
 simp [Gm.right, e1, e2, e3, e4, itup]
section
variable {α : Type}
theorem app_ld {A B : List α} {n : Nat} (h : A.length = n) (k : Nat) : (A ++ B).drop (n + k) = B.drop k := by
 rw [← List.drop_drop, List.drop_append_of_le_length (by omega), List.drop_of_length_le (l := A) (by omega), List.nil_append]
theorem app_sp {A B vs : List IV} {n : Nat} (h : A.length = n) (k : Nat) : isplice (A ++ B) (n + k) vs = A ++ isplice B k vs := by
 unfold isplice
 rw [List.take_append, List.take_of_length_le (by omega), Nat.add_assoc, app_ld h, show n + k - A.length = k by omega]
 simp
theorem app_sp0 {A B vs : List IV} {k : Nat} (h : k + vs.length ≤ A.length) : isplice (A ++ B) k vs = isplice A k vs ++ B := by
 unfold isplice
 rw [List.take_append_of_le_length (by omega), List.drop_append_of_le_length (by omega)]
 simp
end
structure Sh where
 cell : Int
 to : BitVec 32
 v : Int
 deriving DecidableEq
def Sh.c (s : Sh) : List IV := [.int .i64 s.cell, m32 s.to, .int .i32 s.v]
structure Rg where
 l : List Cl
 h : l.length = 8
def Rg.set (r : Rg) (i : Nat) (c : Cl) : Rg := ⟨r.l.set i c, by rw [List.length_set]; exact r.h⟩
def Rg.at (r : Rg) (i : Nat) : Cl := r.l.getD i Cl.z
structure Mc where
 bd : Bd
 dice : Int
 touched : BitVec 64
 shows : List Sh
 used : Nat
 err : Nat
 r : Rg
 pc : Nat
structure Me where
 mv : IV
 moves : List Int
 tick : Int
 all : BitVec 32
def mcB (m : Mc) (sh : IV) : List IV := [.int .u64 m.dice, .int .u64 (m.touched.toNat : Int), sh, nI m.used, nI m.err]
def rgc (r : Rg) : List IV := (r.l.map Cl.c).flatten
def mcD (E : Me) (m : Mc) : List IV := [nI m.pc, E.mv, .int .u32 E.tick, m32 E.all, .fn F_vm_Compute [] []]
def mc (E : Me) (m : Mc) (sh : IV) : List IV := bdc m.bd ++ (mcB m sh ++ (rgc m.r ++ mcD E m))
theorem mcB_len (m sh) : (mcB m sh).length = 5 := rfl
theorem rgc_len (r : Rg) : (rgc r).length = 16 := by rw [rgc, flat_cl, r.h]
theorem mc_len (E m sh) : (mc E m sh).length = 123 := by simp only [mc, List.length_append, bdc_len, rgc_len, mcB, mcD, List.length_cons, List.length_nil]
theorem rg2 (r : Rg) : ∀ e ∈ r.l.map Cl.c, e.length = 2 := by
 intro e he
 obtain ⟨y, _, rfl⟩ := List.mem_map.1 he
 rfl
theorem rg_at (r : Rg) {i : Nat} (h : i < 8) : r.at i = r.l[i]'(by rw [r.h]; exact h) := by simp [Rg.at, r.h, h]
theorem rgc_at (r : Rg) {i : Nat} (h : i < 8) : ((rgc r).drop (i * 2)).take 2 = (r.at i).c := by
 have := flat_at (rest := []) (rg2 r) (i := i) (by simp [r.h, h])
 rw [List.append_nil] at this
 rw [rgc, this, rg_at r h]; simp
theorem rgc_set (r : Rg) {i : Nat} (h : i < 8) (c : Cl) : isplice (rgc r) (i * 2) [.int .i32 c.v, m32 c.s] = rgc (r.set i c) := by
 have := flat_splice (rest := []) (vs := [IV.int .i32 c.v, m32 c.s]) (k := 0) (rg2 r) (i := i) (by simp [r.h, h]) (by simp)
 rw [List.append_nil, List.append_nil, Nat.add_zero] at this
 rw [rgc, this, rgc, Rg.set]
 simp only [List.getElem_map, List.map_set]
 rfl
theorem rgc_sets (r : Rg) {i : Nat} (h : i < 8) (s : BitVec 32) : isplice (rgc r) (i * 2 + 1) [m32 s] = rgc (r.set i ⟨(r.at i).v, s⟩) := by
 have := flat_splice (rest := []) (vs := [m32 s]) (k := 1) (rg2 r) (i := i) (by simp [r.h, h]) (by simp)
 rw [List.append_nil, List.append_nil] at this
 rw [rgc, this, rgc, Rg.set, rg_at r h]
 simp only [List.getElem_map, List.map_set]
 rfl
section
variable (E : Me) (m : Mc) (sh : IV)
theorem ld_bd : (mc E m sh).take 97 = bdc m.bd := by
 rw [mc, List.take_append_of_le_length (by rw [bdc_len]; exact Nat.le_refl _), bdc_take]
theorem ld_97 : ((mc E m sh).drop 97).take 1 = [.int .u64 m.dice] := by rw [mc, app_ld (bdc_len m.bd) 0]; rfl
theorem ld_98 : ((mc E m sh).drop 98).take 1 = [.int .u64 (m.touched.toNat : Int)] := by rw [mc, app_ld (bdc_len m.bd) 1]; rfl
theorem ld_99 : ((mc E m sh).drop 99).take 1 = [sh] := by rw [mc, app_ld (bdc_len m.bd) 2]; rfl
theorem ld_100 : ((mc E m sh).drop 100).take 1 = [nI m.used] := by rw [mc, app_ld (bdc_len m.bd) 3]; rfl
theorem ld_101 : ((mc E m sh).drop 101).take 1 = [nI m.err] := by rw [mc, app_ld (bdc_len m.bd) 4]; rfl
theorem ld_r {i : Nat} (h : i < 8) : ((mc E m sh).drop (102 + i * 2)).take 2 = [.int .i32 (m.r.at i).v, m32 (m.r.at i).s] := by
 rw [mc, show 102 + i * 2 = 97 + (5 + i * 2) by omega, app_ld (bdc_len m.bd), app_ld (mcB_len m sh), List.drop_append_of_le_length (by rw [rgc_len]; omega), List.take_append_of_le_length (by rw [List.length_drop, rgc_len]; omega), rgc_at _ h]; rfl
theorem ld_rv {i : Nat} (h : i < 8) : ((mc E m sh).drop (102 + i * 2)).take 1 = [.int .i32 (m.r.at i).v] := by
 have := congrArg (List.take 1) (ld_r E m sh h)
 rw [List.take_take] at this
 exact this
theorem ld_rs {i : Nat} (h : i < 8) : ((mc E m sh).drop (102 + i * 2 + 1)).take 1 = [m32 (m.r.at i).s] := by
 have := congrArg (List.drop 1) (ld_r E m sh h)
 rw [List.drop_take, List.drop_drop] at this
 exact this
theorem ld_118 : ((mc E m sh).drop 118).take 1 = [nI m.pc] := by
 rw [mc, show 118 = 97 + (5 + (16 + 0)) by omega, app_ld (bdc_len m.bd), app_ld (mcB_len m sh), app_ld (rgc_len m.r)]; rfl
theorem ld_119 : ((mc E m sh).drop 119).take 1 = [E.mv] := by
 rw [mc, show 119 = 97 + (5 + (16 + 1)) by omega, app_ld (bdc_len m.bd), app_ld (mcB_len m sh), app_ld (rgc_len m.r)]; rfl
theorem ld_120 : ((mc E m sh).drop 120).take 1 = [.int .u32 E.tick] := by
 rw [mc, show 120 = 97 + (5 + (16 + 2)) by omega, app_ld (bdc_len m.bd), app_ld (mcB_len m sh), app_ld (rgc_len m.r)]; rfl
theorem ld_121 : ((mc E m sh).drop 121).take 1 = [m32 E.all] := by
 rw [mc, show 121 = 97 + (5 + (16 + 3)) by omega, app_ld (bdc_len m.bd), app_ld (mcB_len m sh), app_ld (rgc_len m.r)]; rfl
theorem ld_122 : ((mc E m sh).drop 122).take 1 = [.fn F_vm_Compute [] []] := by
 rw [mc, show 122 = 97 + (5 + (16 + 4)) by omega, app_ld (bdc_len m.bd), app_ld (mcB_len m sh), app_ld (rgc_len m.r)]; rfl
theorem ld_res : (mc E m sh).take 102 = bdc m.bd ++ mcB m sh := by
 rw [mc, ← List.append_assoc, List.take_append_of_le_length (by simp [bdc_len, mcB]), List.take_of_length_le (by simp [bdc_len, mcB])]
theorem st_bd (b : Bd) : isplice (mc E m sh) 0 (bdc b) = mc E { m with bd := b } sh := by
 rw [mc, app_sp0 (by rw [bdc_len, bdc_len]; exact Nat.le_refl _), bdc_all]; rfl
theorem st_97 (d : Int) : isplice (mc E m sh) 97 [.int .u64 d] = mc E { m with dice := d } sh := by
 rw [mc, app_sp (bdc_len m.bd) 0]; rfl
theorem st_98 (d : BitVec 64) : isplice (mc E m sh) 98 [.int .u64 (d.toNat : Int)] = mc E { m with touched := d } sh := by
 rw [mc, app_sp (bdc_len m.bd) 1]; rfl
theorem st_99 (d : IV) : isplice (mc E m sh) 99 [d] = mc E m d := by
 rw [mc, app_sp (bdc_len m.bd) 2]; rfl
theorem st_100 (d : Nat) : isplice (mc E m sh) 100 [nI d] = mc E { m with used := d } sh := by
 rw [mc, app_sp (bdc_len m.bd) 3]; rfl
theorem st_101 (d : Nat) : isplice (mc E m sh) 101 [nI d] = mc E { m with err := d } sh := by
 rw [mc, app_sp (bdc_len m.bd) 4]; rfl
theorem st_r {i : Nat} (h : i < 8) (v : Int) (s : BitVec 32) : isplice (mc E m sh) (102 + i * 2) [.int .i32 v, m32 s] = mc E { m with r := m.r.set i ⟨v, s⟩ } sh := by
 rw [mc, show 102 + i * 2 = 97 + (5 + i * 2) by omega, app_sp (bdc_len m.bd), app_sp (mcB_len m sh), app_sp0 (by rw [rgc_len]; simp; omega), rgc_set _ h ⟨v, s⟩]; rfl
theorem st_rs {i : Nat} (h : i < 8) (s : BitVec 32) : isplice (mc E m sh) (102 + i * 2 + 1) [m32 s] = mc E { m with r := m.r.set i ⟨(m.r.at i).v, s⟩ } sh := by
 rw [mc, show 102 + i * 2 + 1 = 97 + (5 + (i * 2 + 1)) by omega, app_sp (bdc_len m.bd), app_sp (mcB_len m sh), app_sp0 (by rw [rgc_len]; simp; omega), rgc_sets _ h s]; rfl
theorem st_118 (d : Nat) : isplice (mc E m sh) 118 [nI d] = mc E { m with pc := d } sh := by
 rw [mc, show 118 = 97 + (5 + (16 + 0)) by omega, app_sp (bdc_len m.bd), app_sp (mcB_len m sh), app_sp (rgc_len m.r)]; rfl
end
theorem b8 {i : Nat} (h : i < 8) : i < 8 ∧ 102 + i * 2 ≤ 121 ∧ 102 + i * 2 ≤ 122 ∧ 102 + i * 2 + 1 ≤ 122 ∧ 102 + i * 2 + 2 ≤ 123 ∧ 102 + i * 2 + 1 ≤ 123 := by omega
attribute [go_sem] mc_len ld_bd ld_97 ld_98 ld_99 ld_100 ld_101 ld_118 ld_119 ld_120 ld_121 ld_122 ld_res st_bd st_97 st_98 st_99 st_100 st_101 st_118 set_get
def MAt (E : Me) (J : JH) (b : Nat) (sh : IV) (m : Mc) : Prop := J[b]? = some (.cells 0 (mc E m sh) false) ∧ b ∉ blk sh ∧ Grow J sh 3 (m.shows.map Sh.c).flatten
def MOut (E : Me) (b : Nat) (J : JH) (sh : IV) (J' : JH) (m : Mc) : Prop := ∃ sh', MAt E J' b sh' m ∧ Upd b J sh J' sh'
theorem MAt.push {E : Me} {J : JH} {b : Nat} {sh : IV} {m : Mc} (X : IB) (h : MAt E J b sh m) : MAt E (J.push X) b sh m :=
 ⟨by rw [Array.getElem?_push, if_neg (Nat.ne_of_lt (lt_get h.1))]; exact h.1, h.2.1, h.2.2.fr (S := []) (.push _ _ _) (by simp)⟩
theorem MAt.set {E : Me} {J : JH} {b : Nat} {sh : IV} {m : Mc} (h : MAt E J b sh m) (m' : Mc) (hs : m'.shows = m.shows) : MAt E (J.setIfInBounds b (.cells 0 (mc E m' sh) false)) b sh m' :=
 ⟨set_get J (lt_get h.1), h.2.1, by
  rw [hs]
  refine h.2.2.fr (Fr.set J _ (S := [b]) (by simp)) fun c hc hm => ?_
  rw [List.mem_singleton] at hm
  exact h.2.1 (hm ▸ hc)⟩
theorem Upd.set {b : Nat} {J : JH} {s : IV} (X : IB) : Upd b J s (J.setIfInBounds b X) s := ⟨.set _ _ (by simp), fun c h => .inl h⟩
theorem MOut.refl {E : Me} {J : JH} {b : Nat} {sh : IV} {m : Mc} (h : MAt E J b sh m) : MOut E b J sh J m := ⟨sh, h, .refl⟩
theorem MOut.set {E : Me} {J : JH} {b : Nat} {sh : IV} {m : Mc} (h : MAt E J b sh m) (m' : Mc) (hs : m'.shows = m.shows) : MOut E b J sh (J.setIfInBounds b (.cells 0 (mc E m' sh) false)) m' := ⟨sh, h.set m' hs, .set _⟩
theorem MOut.trans {E : Me} {J J1 J2 : JH} {b : Nat} {sh sh1 : IV} {m2 : Mc} (u : Upd b J sh J1 sh1) (k : MOut E b J1 sh1 J2 m2) : MOut E b J sh J2 m2 := by
 obtain ⟨s2, k1, k2⟩ := k
 exact ⟨s2, k1, u.trans k2⟩
end Go.Proofs.YticfcmaigffhmaaGreat.G
namespace Go.Proofs.YticfcmaigffhmaaGreat.G
open Go
variable {E : Me} {J : JH} {b : Nat} {sh : IV} {m : Mc}
theorem open_ok (h : MAt E J b sh m) (r : Nat) (hr : r < 8) : RP (ic BI F_vm_machine_open [.ptr b 0 0, .int .u8 (r : Int)] J) fun v J' => v = .bool (within E.all (m.r.at r).s) ∧ J' = J := by
 refine RP_run fn_vm_machine_open rfl fun K hK => ?_
 have hb := h.1
 unfold l_vm_machine_open
 simp -implicitDefEqProofs only [go_sem, dnW_ite, go_sem_proc, hb, b8 hr, ld_rs E m sh hr, dcp (Within_ok E.all (m.r.at r).s) rfl]
 exact hK _ _ ⟨rfl, rfl⟩
theorem fail_ok (h : MAt E J b sh m) (e : Nat) : RP (ic BI F_vm_machine_fail [.ptr b 0 0, nI e] J) fun v J' => MOut E b J sh J' { m with err := if m.err = 0 then e else m.err } := by
 refine RP_run fn_vm_machine_fail rfl fun K hK => ?_
 have hb := h.1
 unfold l_vm_machine_fail
 by_cases h0 : m.err = 0
 ·have e0 : ((m.err : Int) == 0) = true := by rw [natBeq0]; simpa using h0
  simp -implicitDefEqProofs only [go_sem, dnW_ite, go_sem_proc, hb, e0]
  rw [if_pos h0] at hK
  exact hK _ _ (MOut.set h { m with err := e } rfl)
 ·have e0 : ((m.err : Int) == 0) = false := by rw [natBeq0]; simpa using h0
  simp -implicitDefEqProofs only [go_sem, dnW_ite, go_sem_proc, hb, e0]
  rw [if_neg h0] at hK
  exact hK _ _ (MOut.refl h)
theorem load_ok (h : MAt E J b sh m) (r : Nat) (hr : r < 8) (i : Int) (hi : m.bd.there i = true) : RP (ic BI F_vm_machine_load [.ptr b 0 0, .int .u8 (r : Int), .int .i64 i] J) fun v J' => MOut E b J sh J' { m with r := m.r.set r (m.bd.at i) } := by
 refine RP_run fn_vm_machine_load rfl fun K hK => ?_
 have hb := h.1
 have hin := inb hb
 have hat := At_ok m.bd i
 rw [hi] at hat
 simp only [if_true, Cl.c] at hat
 unfold l_vm_machine_load
 simp -implicitDefEqProofs only [go_sem, dnW_ite, go_sem_proc, hb, b8 hr, st_r E m sh hr, dcp hat (by simp [ipureL, ipure, bdc_pure]), Array.getElem?_push, hin]
 exact hK _ _ (MOut.trans (.push _) (MOut.set (h.push _) { m with r := m.r.set r (m.bd.at i) } rfl))
def bit (i : Int) : BitVec 64 := 1#64 <<< i.toNat
theorem store_ok (h : MAt E J b sh m) (i : Int) (c : Cl) (hi : m.bd.there i = true) : RP (ic BI F_vm_machine_store [.ptr b 0 0, .int .i64 i, .agg [.int .i32 c.v, m32 c.s]] J) fun v J' => MOut E b J sh J' { m with bd := m.bd.put i c, touched := m.touched ||| bit i } := by
 refine RP_run fn_vm_machine_store rfl fun K hK => ?_
 have hb := h.1
 have hin := inb hb
 have hp := Put_ok m.bd i c
 have hi2 := hi
 have hbl := m.bd.h
 simp only [Bd.there, decide_eq_true_eq] at hi2
 rw [hi] at hp
 simp only [if_true, Cl.c] at hp
 unfold l_vm_machine_store
 simp -implicitDefEqProofs only [go_sem, dnW_ite, go_sem_proc, hb, dcp hp (by simp [ipureL, ipure, bdc_pure]), Array.getElem?_push, hin, show ¬ i < 0 by omega, show min i.toNat 64 = i.toNat by omega]
 exact hK _ _ (MOut.trans (.push _) (MOut.set (h.push _) { m with bd := m.bd.put i c, touched := m.touched ||| bit i } rfl))
def named (E : Me) (m : Mc) (x : Cd) : Int × Bool × Nat :=
 if within E.all (m.r.at x.b).s = false then (0, false, 8)
 else if x.n + (m.r.at x.b).v < 0 ∨ (m.bd.l.length : Int) ≤ x.n + (m.r.at x.b).v then (0, false, 7)
 else (x.n + (m.r.at x.b).v, true, 0)
def Rg.ok (r : Rg) : Prop := ∀ i, i < 8 → -2147483648 ≤ (r.at i).v ∧ (r.at i).v < 2147483648
theorem index_ok (h : MAt E J b sh m) (x : Cd) (hx : x.wf) (hxb : x.b < 8) (hr : m.r.ok) (h0 : m.err = 0) : RP (ic BI F_vm_machine_index [.ptr b 0 0, x.e] J) fun v J' => v = .tup [.int .i64 (named E m x).1, .bool (named E m x).2.1] ∧ MOut E b J sh J' { m with err := (named E m x).2.2 } := by
 refine RP_run fn_vm_machine_index rfl fun K hK => ?_
 have hb := h.1
 have hin := inb hb
 obtain ⟨w1, w2, w3, w4, w5, w6⟩ := hx
 obtain ⟨r1, r2⟩ := hr x.b hxb
 have e1 : IntKind.i64.wrap x.n = x.n := wrap_i64 (by omega) (by omega)
 have e2 : IntKind.i64.wrap (m.r.at x.b).v = (m.r.at x.b).v := wrap_i64 (by omega) (by omega)
 have e3 : IntKind.i64.wrap (x.n + (m.r.at x.b).v) = x.n + (m.r.at x.b).v := wrap_i64 (by omega) (by omega)
 unfold l_vm_machine_index Cd.e Cd.cs
 simp -implicitDefEqProofs only [go_sem, dnW_ite, go_sem_proc, hb, b8 hxb, ld_rv E m sh hxb, Array.getElem?_push, hin, e1, e2, e3]
 refine WP_call (open_ok (h.push _) x.b hxb) fun v J' hv => ?_
 obtain ⟨rfl, rfl⟩ := hv
 have fin : ∀ (X : IB) (q : Int × Bool × Nat), named E m x = q → ∀ J', MOut E b (J.push X) sh J' { m with err := q.2.2 } → K (.ret [.int .i64 q.1, .bool q.2.1]) J' := fun X q hq J' h1 => hK _ _ ⟨by rw [hq]; rfl, by rw [hq]; exact MOut.trans (.push X) h1⟩
 cases hw : within E.all (m.r.at x.b).s with
 | false =>
  simp -implicitDefEqProofs only [go_sem, dnW_ite, go_sem_proc]
  refine WP_call (fail_ok (h.push _) 8) fun v J' hv => ?_
  rw [if_pos h0] at hv
  simp -implicitDefEqProofs only [go_sem, dnW_ite, go_sem_proc]
  exact fin _ (0, false, 8) (by simp [named, hw]) _ hv
 | true =>
  by_cases h1 : x.n + (m.r.at x.b).v < 0
  ·simp -implicitDefEqProofs only [go_sem, dnW_ite, go_sem_proc, h1]
   refine WP_call (fail_ok (h.push _) 7) fun v J' hv => ?_
   rw [if_pos h0] at hv
   simp -implicitDefEqProofs only [go_sem, dnW_ite, go_sem_proc]
   exact fin _ (0, false, 7) (by simp [named, hw, h1]) _ hv
  ·by_cases h2 : x.n + (m.r.at x.b).v ≥ (m.bd.l.length : Int)
   ·simp -implicitDefEqProofs only [go_sem, dnW_ite, go_sem_proc, h1, hb, Array.getElem?_push, hin, dcp (Len_ok m.bd) (by simp [ipureL, ipure, bdc_pure]), h2]
    refine WP_call (fail_ok (h.push _) 7) fun v J' hv => ?_
    rw [if_pos h0] at hv
    simp -implicitDefEqProofs only [go_sem, dnW_ite, go_sem_proc]
    exact fin _ (0, false, 7) (by simp [named, hw]; omega) _ hv
   ·simp -implicitDefEqProofs only [go_sem, dnW_ite, go_sem_proc, h1, hb, Array.getElem?_push, hin, dcp (Len_ok m.bd) (by simp [ipureL, ipure, bdc_pure]), h2]
    refine fin (IB.cells 0 x.cs false) (x.n + (m.r.at x.b).v, true, 0) ?_ _ ?_
    ·simp only [named, hw]; rw [if_neg (by decide), if_neg (by omega)]
    ·have := MOut.refl (h.push (IB.cells 0 x.cs false))
     have e : ({ m with err := 0 } : Mc) = m := by cases m; simp_all
     show MOut _ _ _ _ _ { m with err := 0 }
     rw [e]; exact this
end Go.Proofs.YticfcmaigffhmaaGreat.G
namespace Go.Proofs.YticfcmaigffhmaaGreat.G
open Go
def x64 (a b : Int) : Int := IntKind.u64.wrap ((BitVec.ofInt 64 a ^^^ BitVec.ofInt 64 b).toNat : Int)
def mixF (a : Int) : Int :=
 let z := IntKind.u64.wrap (x64 a (a.fdiv (2 ^ min (Int.toNat 30) 64)) * 13787848793156543929)
 let z := IntKind.u64.wrap (x64 z (z.fdiv (2 ^ min (Int.toNat 27) 64)) * 10723151780598845931)
 x64 z (z.fdiv (2 ^ min (Int.toNat 31) 64))
theorem mixed_ok (a : Int) : pc BI F_dice_mixed [.int .u64 a] = some (.int .u64 (mixF a)) := by
 refine pc_intro (gv_none fn_dice_mixed) fn_dice_mixed rfl (J' := #[]) (vs := [.int .u64 (mixF a)]) ?_ rfl
 unfold l_dice_mixed
 simp -implicitDefEqProofs only [dn_o, dn_om, dn_oc, dn_ite, dn_ret, dn_join, dn_goto, iexec, evI_0, evI_succ, evI_int, evI_bool, evI_nilsl, evI_nilp, List.cons_append, List.nil_append, scal2_sc, abin, aun, ilift_some, thenI_some, onIf_bool, onJoin_goto, onJoin_ret, onJoin_ite, thenI_ite, Option.map_some, Option.map_none, decide_eq_true_eq, List.map_cons, List.map_nil, reduceIte, if_true, if_false, Bool.false_eq_true, inew, iload, istore, iwr, ird, icells, ione, one, List.getElem?_toArray, List.getElem?_cons_zero, List.getElem?_cons_succ, List.push_toArray, List.size_toArray, List.length_cons, List.length_nil, List.setIfInBounds_toArray, List.set_cons_zero, List.set_cons_succ, isplice_cons, List.drop_succ_cons, List.drop_zero, List.take_succ_cons, List.take_zero, List.drop_nil, List.take_nil, List.append_nil, List.all_cons, List.all_nil, Bool.and_true, Bool.true_and, Bool.and_self, Nat.zero_add, Nat.add_zero, Nat.reduceAdd, Nat.reduceLeDiff, Nat.reduceMul, Nat.le_refl, true_and, and_true, and_self, List.getElem?_nil, BI_zc, BI_zv, BI_co, zcT, zvT, coT, not_true_eq_false, not_false_eq_true, Bool.not_true, Bool.not_false, stepI', wantsI, ifill, rawB, allC1, ievs, Nat.reduceEqDiff, itup, Nat.le_add_left, Nat.le_add_right, iaggEq, List.foldl, iminI, iminF, imin2, min2, iisNil, isNil, ilen, Option.isNone_none, Option.isNone_some, Nat.zero_le, decide_true, decide_false, ireps, List.replicate, List.flatten_cons, List.flatten_nil, ichk, itouch, ctouch, ilooks, isame, untouched, Option.isSome_some, Bool.or_true, Bool.true_or, List.contains_nil, Int.reduceLT, Int.reduceLE, blkOf, IntKind.bits, iasNat, asNat, Int.toNat_natCast, Int.natCast_nonneg, List.length_map, endP_ret, endP_ite, Int.reduceToNat, iscells, ibnd, islice, capOf, Option.isSome_none, Bool.false_and, Bool.and_false, Bool.or_false, Bool.false_or, bne_self_eq_false, Nat.not_lt_zero, Nat.mul_one, Nat.one_mul, Nat.zero_mul, Nat.mul_zero, onJoin_out, beq_self_eq_true, Nat.sub_zero, Nat.reduceSub, List.length_set, false_implies, implies_true, forall_const]
 rfl
def sn (s : Int) : Int := IntKind.u64.wrap (s + 11400714819323198485)
def nx (s : Int) : Int := IntKind.u32.wrap ((mixF (sn s)).fdiv (2 ^ min (Int.toNat 32) 64))
def dice (s : Int) : IV := .agg [.int .u64 s]
theorem Next_ok (s : Int) : pc BI F_dice_Dice_Next [dice s] = some (.tup [.int .u32 (nx s), dice (sn s)]) := by
 refine pcE fn_dice_Dice_Next rfl fun K hK => ?_
 unfold l_dice_Dice_Next dice
 simp -implicitDefEqProofs only [go_sem, dnW_ite, go_sem_proc, dcp (mixed_ok _) rfl]
 exact hK _ _ (frzE rfl rfl)
def below (s n : Int) : Int := IntKind.u32.wrap ((IntKind.u64.wrap (IntKind.u64.wrap (nx s) * IntKind.u64.wrap n)).fdiv (2 ^ min (Int.toNat 32) 64))
theorem Below_ok (s n : Int) : pc BI F_dice_Dice_Below [dice s, .int .u32 n] = some (.tup [.int .u32 (below s n), dice (sn s)]) := by
 refine pcE fn_dice_Dice_Below rfl fun K hK => ?_
 have h := Next_ok s
 unfold dice at h
 unfold l_dice_Dice_Below dice
 simp -implicitDefEqProofs only [go_sem, dnW_ite, go_sem_proc, dcp h rfl]
 exact hK _ _ (frzE rfl rfl)
def skip (s n : Int) : Int := if n > 0 then IntKind.u64.wrap (s + IntKind.u64.wrap (11400714819323198485 * IntKind.u64.wrap n)) else s
def shufL (s : Int) : Nat → List Int → List Int × Int
 | 0, ys => (ys, s)
 | i + 1, ys => shufL (sn s) i ((ys.set (i + 1) (ys.getD (below s ((i : Int) + 2)).toNat 0)).set (below s ((i : Int) + 2)).toNat (ys.getD (i + 1) 0))
theorem below_rng (s n : Int) (h0 : 0 < n) (h1 : n < 4294967296) : 0 ≤ below s n ∧ below s n < n := by
 have hx := u32_rng ((mixF (sn s)).fdiv (2 ^ min (Int.toNat 32) 64))
 change 0 ≤ nx s ∧ nx s < 4294967296 at hx
 have hxn0 : 0 ≤ nx s * n := Int.mul_nonneg hx.1 (by omega)
 have hxn : nx s * n ≤ 4294967295 * n := Int.mul_le_mul_of_nonneg_right (by omega) (by omega)
 have e1 : below s n = IntKind.u32.wrap ((nx s * n) / 4294967296) := by
  unfold below
  rw [wrap_u64 (x := nx s) hx.1 (by omega), wrap_u64 (x := n) (by omega) (by omega), wrap_u64 (x := nx s * n) hxn0 (by omega)]
  rw [show (2 : Int) ^ min (Int.toNat 32) 64 = 4294967296 from rfl, Int.fdiv_eq_ediv_of_nonneg _ (by omega)]
 rw [e1, wrap_u32 (by omega) (by omega)]
 omega
def shH (s t : Int) (ys : List Int) : JH := [IB.cells 0 [.int .u64 s] false, IB.cells 0 [.int .u64 t] false, IB.cells 0 (ys.map (IV.int .i32)) false].toArray
theorem shuffle_step (t : Int) (n : Nat) (i : Nat) (s kk : Int) (ys : List Int) (hl : ys.length = n) (hi : i + 1 < n) (hr0 : 0 ≤ kk) (hk : kk.toNat < n) (hk2 : kk.toNat < ys.length) (hk3 : kk.toNat + 1 ≤ ys.length) (hi2 : i + 1 < ys.length) (hi3 : i + 1 + 1 ≤ ys.length)
  (h : pc BI F_dice_Dice_Below [.agg [.int .u64 s], .int .u32 ((i : Int) + 2)] = some (.tup [.int .u32 kk, .agg [.int .u64 (sn s)]]))
  (hn : IntKind.u32.wrap (IntKind.i64.wrap (((i + 1 : Nat) : Int) + 1)) = (i : Int) + 2) (hw2 : IntKind.i64.wrap (((i + 1 : Nat) : Int) - 1) = (i : Int)) (hpos : ((i + 1 : Nat) : Int) > 0) :
  dn BI l_dice_Dice_Shuffle_k0 [.ptr 0 0 0, .ptr 1 0 0, .sl 2 0 0 n (UNK + 1) 1, .int .i64 ((i + 1 : Nat) : Int)] (shH s t ys) = some (.goto 1 [.ptr 0 0 0, .ptr 1 0 0, .sl 2 0 0 n (UNK + 1) 1, .int .i64 i], shH (sn s) t ((ys.set (i + 1) (ys.getD kk.toNat 0)).set kk.toNat (ys.getD (i + 1) 0))) := by
 unfold l_dice_Dice_Shuffle_k0 shH
 simp -implicitDefEqProofs only [go_sem, dnW_ite, go_sem_proc, dcp h rfl, hn, hw2, hpos, hr0, hk, hk2, hk3, hi, hi2, hi3, take1_ints, isplice_ints]
theorem shuffle_loop (t : Int) (n : Nat) (hb : n ≤ 1000000) (i : Nat) : ∀ (s : Int) (ys : List Int), ys.length = n → i < n →
  iter (dn BI l_dice_Dice_Shuffle_k0) 1 [.ptr 0 0 0, .ptr 1 0 0, .sl 2 0 0 n (UNK + 1) 1, .int .i64 ((i : Nat) : Int)] (shH s t ys) =
  some (.goto 0 [.ptr 0 0 0, .ptr 1 0 0, .sl 2 0 0 n (UNK + 1) 1], shH (shufL s i ys).2 t (shufL s i ys).1) := by
 induction i with
 | zero =>
  intro s ys hl hi
  refine iter_out ?_ (by decide)
  unfold l_dice_Dice_Shuffle_k0
  simp -implicitDefEqProofs only [go_sem, dnW_ite, go_sem_proc, Int.natCast_zero, Int.lt_irrefl, gt_iff_lt, shufL]
 | succ i ih =>
  intro s ys hl hi
  obtain ⟨hr0, hr1⟩ := below_rng s ((i : Int) + 2) (by omega) (by omega)
  have hn : IntKind.u32.wrap (IntKind.i64.wrap (((i + 1 : Nat) : Int) + 1)) = (i : Int) + 2 := by
   rw [wrap_i64 (by omega) (by omega), wrap_u32 (by omega) (by omega)]; omega
  have hw2 : IntKind.i64.wrap (((i + 1 : Nat) : Int) - 1) = (i : Int) := by rw [wrap_i64 (by omega) (by omega)]; omega
  refine iter_step (shuffle_step t n i s (below s ((i : Int) + 2)) ys hl hi hr0 (by omega) (by omega) (by omega) (by omega) (by omega) (Below_ok s _) hn hw2 (by omega)) ?_
  rw [shufL]
  exact ih _ _ (by simpa using hl) (by omega)
theorem fits4 {n : Nat} (h : n ≤ 1000000) : fits n 4 = true := by
 simp only [fits, Bool.and_eq_true, decide_eq_true_eq]
 omega
theorem Clone32_ok (f : Bool) (xs : List Int) (hne : xs ≠ []) (hb : xs.length ≤ 1000000) (J : JH) :
  ic BI F_slices_Clone_Lint32_int32 [.lst 1 f (xs.map (IV.int .i32))] J = some (.sl J.size 0 0 xs.length (UNK + 1) 1, J.push (IB.cells 0 (xs.map (IV.int .i32)) false)) := by
 have hn : ¬ xs.length = 0 := fun h => hne (List.eq_nil_of_length_eq_zero h)
 refine ic_run fn_slices_Clone_Lint32_int32 rfl (vs := [.sl J.size 0 0 xs.length (UNK + 1) 1]) ?_
 unfold l_slices_Clone_Lint32_int32
 simp -implicitDefEqProofs only [go_sem, dnW_ite, go_sem_proc, appF, iappend, ints_cells, hn, fits4 hb, ints_ione, List.flatMap_nil, ipureL, grp, Nat.lt_irrefl, Nat.zero_lt_one, UNK_pos]
theorem Shuffle_ok (f : Bool) (s : Int) (xs : List Int) (hne : xs ≠ []) (hb : xs.length ≤ 1000000) :
  pc BI F_dice_Dice_Shuffle [dice s, .lst 1 f (xs.map (IV.int .i32))] = some (.tup [.lst 1 false ((shufL s (xs.length - 1) xs).1.map (IV.int .i32)), dice (shufL s (xs.length - 1) xs).2]) := by
 have hpos : 0 < xs.length := List.length_pos_iff.2 hne
 have hw : IntKind.i64.wrap ((xs.length : Int) - 1) = ((xs.length - 1 : Nat) : Int) := by rw [wrap_i64 (by omega) (by omega)]; omega
 refine pc_run fn_dice_Dice_Shuffle rfl ?_
 have hc := fun J => dcr (Clone32_ok f xs hne hb J)
 have hl := shuffle_loop 0 xs.length hb (xs.length - 1) s xs rfl (by omega)
 unfold shH at hl
 unfold l_dice_Dice_Shuffle dice
 simp -implicitDefEqProofs only [dn_o, dn_om, dn_oc, dn_ite, dn_ret, dn_join, dn_goto, iexec, evI_0, evI_succ, evI_int, evI_bool, evI_nilsl, evI_nilp, List.cons_append, List.nil_append, scal2_sc, abin, aun, ilift_some, thenI_some, onIf_bool, onJoin_goto, onJoin_ret, onJoin_ite, thenI_ite, Option.map_some, Option.map_none, decide_eq_true_eq, List.map_cons, List.map_nil, reduceIte, if_true, if_false, Bool.false_eq_true, inew, iload, istore, iwr, ird, icells, ione, one, List.getElem?_toArray, List.getElem?_cons_zero, List.getElem?_cons_succ, List.push_toArray, List.size_toArray, List.length_cons, List.length_nil, List.setIfInBounds_toArray, List.set_cons_zero, List.set_cons_succ, isplice_cons, List.drop_succ_cons, List.drop_zero, List.take_succ_cons, List.take_zero, List.drop_nil, List.take_nil, List.append_nil, List.all_cons, List.all_nil, Bool.and_true, Bool.true_and, Bool.and_self, Nat.zero_add, Nat.add_zero, Nat.reduceAdd, Nat.reduceLeDiff, Nat.reduceMul, Nat.le_refl, true_and, and_true, and_self, List.getElem?_nil, BI_zc, BI_zv, BI_co, zcT, zvT, coT, not_true_eq_false, not_false_eq_true, Bool.not_true, Bool.not_false, stepI', wantsI, ifill, rawB, allC1, ievs, Nat.reduceEqDiff, itup, Nat.le_add_left, Nat.le_add_right, iaggEq, List.foldl, iminI, iminF, imin2, min2, iisNil, isNil, ilen, Option.isNone_none, Option.isNone_some, Nat.zero_le, decide_true, decide_false, ireps, List.replicate, List.flatten_cons, List.flatten_nil, ichk, itouch, ctouch, ilooks, isame, untouched, Option.isSome_some, Bool.or_true, Bool.true_or, List.contains_nil, Int.reduceLT, Int.reduceLE, blkOf, IntKind.bits, iasNat, asNat, Int.toNat_natCast, Int.natCast_nonneg, List.length_map, endP_ret, endP_ite, Int.reduceToNat, iscells, ibnd, islice, capOf, Option.isSome_none, Bool.false_and, Bool.and_false, Bool.or_false, Bool.false_or, bne_self_eq_false, Nat.not_lt_zero, Nat.mul_one, Nat.one_mul, Nat.zero_mul, Nat.mul_zero, onJoin_out, beq_self_eq_true, Nat.sub_zero, Nat.reduceSub, List.length_set, false_implies, implies_true, forall_const, hc, dn_loop, hw, hl]
 have hlen : ∀ (i : Nat) (s : Int) (ys : List Int), (shufL s i ys).1.length = ys.length := by
  intro i
  induction i with
  | zero => intro s ys; rfl
  | succ i ih => intro s ys; rw [shufL, ih]; simp
 have hl2 := hlen (xs.length - 1) s xs
 generalize shufL s (xs.length - 1) xs = r at *
 unfold l_dice_Dice_Shuffle_k1
 simp -implicitDefEqProofs only [dn_o, dn_om, dn_oc, dn_ite, dn_ret, dn_join, dn_goto, iexec, evI_0, evI_succ, evI_int, evI_bool, evI_nilsl, evI_nilp, List.cons_append, List.nil_append, scal2_sc, abin, aun, ilift_some, thenI_some, onIf_bool, onJoin_goto, onJoin_ret, onJoin_ite, thenI_ite, Option.map_some, Option.map_none, decide_eq_true_eq, List.map_cons, List.map_nil, reduceIte, if_true, if_false, Bool.false_eq_true, inew, iload, istore, iwr, ird, icells, ione, one, List.getElem?_toArray, List.getElem?_cons_zero, List.getElem?_cons_succ, List.push_toArray, List.size_toArray, List.length_cons, List.length_nil, List.setIfInBounds_toArray, List.set_cons_zero, List.set_cons_succ, isplice_cons, List.drop_succ_cons, List.drop_zero, List.take_succ_cons, List.take_zero, List.drop_nil, List.take_nil, List.append_nil, List.all_cons, List.all_nil, Bool.and_true, Bool.true_and, Bool.and_self, Nat.zero_add, Nat.add_zero, Nat.reduceAdd, Nat.reduceLeDiff, Nat.reduceMul, Nat.le_refl, true_and, and_true, and_self, List.getElem?_nil, BI_zc, BI_zv, BI_co, zcT, zvT, coT, not_true_eq_false, not_false_eq_true, Bool.not_true, Bool.not_false, stepI', wantsI, ifill, rawB, allC1, ievs, Nat.reduceEqDiff, itup, Nat.le_add_left, Nat.le_add_right, iaggEq, List.foldl, iminI, iminF, imin2, min2, iisNil, isNil, ilen, Option.isNone_none, Option.isNone_some, Nat.zero_le, decide_true, decide_false, ireps, List.replicate, List.flatten_cons, List.flatten_nil, ichk, itouch, ctouch, ilooks, isame, untouched, Option.isSome_some, Bool.or_true, Bool.true_or, List.contains_nil, Int.reduceLT, Int.reduceLE, blkOf, IntKind.bits, iasNat, asNat, Int.toNat_natCast, Int.natCast_nonneg, List.length_map, endP_ret, endP_ite, Int.reduceToNat, iscells, ibnd, islice, capOf, Option.isSome_none, Bool.false_and, Bool.and_false, Bool.or_false, Bool.false_or, bne_self_eq_false, Nat.not_lt_zero, Nat.mul_one, Nat.one_mul, Nat.zero_mul, Nat.mul_zero, onJoin_out, beq_self_eq_true, Nat.sub_zero, Nat.reduceSub, List.length_set, false_implies, implies_true, forall_const]
 rw [frz12, frz_tup (by simp [ipureL, ipure])]
 rw [← hl2]
 simp only [List.mapM_cons, List.mapM_nil]
 rw [frz_sl (by omega) (cs := r.1.map (IV.int .i32)) (by simp [ird]; exact List.take_of_length_le (by simp)) ints_pure ints_ione, frz_pure _ _ (by simp [ipure, ipureL])]
 have hg := grp1 (r.1.map (IV.int .i32))
 rw [List.length_map] at hg
 rw [hg]
 simp [UNK]
variable {E : Me} {J : JH} {b : Nat} {sh : IV} {m : Mc}
theorem MAt.app (h : MAt E J b sh m) {J' : JH} {s' : IV} {cs : List IV} (k1 : Grow J' s' 3 cs) (k2 : Fr J J' (blk sh)) (k3 : ∀ c ∈ blk s', c ∈ blk sh ∨ J.size ≤ c) (m' : Mc) (hm : cs = (m'.shows.map Sh.c).flatten) :
  MOut E b J sh (J'.setIfInBounds b (.cells 0 (mc E m' s') false)) m' := by
 have hlt := lt_get h.1
 have hlt' : b < J'.size := Nat.lt_of_lt_of_le hlt k2.1
 have hn : b ∉ blk s' := fun hb => by
  rcases k3 b hb with hb | hb
  ·exact h.2.1 hb
  ·omega
 subst hm
 refine ⟨s', ⟨set_get J' hlt', hn, k1.fr (Fr.set J' _ (S := [b]) (by simp)) fun c hc hm => ?_⟩, Fr.trans (J1 := J') ⟨k2.1, fun d hd hm => k2.2 d hd (fun h => hm (by simp [h]))⟩ (Fr.set J' _ (S := [b]) (by simp)) (fun d _ hd => ?_), k3⟩
 ·rw [List.mem_singleton] at hm; exact hn (hm ▸ hc)
 ·rw [List.mem_singleton] at hd; simp [hd]
def Sh.one (m : Mc) (x : Cd) (all : BitVec 32) (i : Int) : BitVec 32 := x.mask &&& all &&& ~~~(m.bd.at i).s
def revealF (E : Me) (m : Mc) (x : Cd) : Mc :=
 if (named E m x).2.1 = false then { m with err := (named E m x).2.2 } else
 { m with
  err := (named E m x).2.2
  bd := m.bd.show (named E m x).1 (Sh.one m x E.all (named E m x).1)
  touched := m.touched ||| bit (named E m x).1
  shows := m.shows ++ if Sh.one m x E.all (named E m x).1 = 0#32 then [] else [⟨(named E m x).1, Sh.one m x E.all (named E m x).1, (m.bd.at (named E m x).1).v⟩] }
theorem named_ok {x : Cd} (hn : (named E m x).2.1 = true) : m.bd.there (named E m x).1 = true ∧ (named E m x).2.2 = 0 := by
 simp only [named] at hn ⊢
 split at hn
 ·simp at hn
 ·split at hn
  ·simp at hn
  ·rename_i h1 h2
   rw [if_neg h1, if_neg h2]
   simp only [Bd.there, decide_eq_true_eq, and_true]
   omega
theorem fits16 {n : Nat} (h : n ≤ 1000000) : fits n 16 = true := by
 simp only [fits, Bool.and_eq_true, decide_eq_true_eq]
 omega
theorem reveal_ok (h : MAt E J b sh m) (x : Cd) (hx : x.wf) (hxb : x.b < 8) (hr : m.r.ok) (h0 : m.err = 0) (hs : m.shows.length ≤ 1000) : RP (ic BI F_vm_machine_reveal [.ptr b 0 0, x.e] J) fun v J' => MOut E b J sh J' (revealF E m x) := by
 refine RP_run fn_vm_machine_reveal rfl fun K hK => ?_
 have hb := h.1
 have hin := inb hb
 unfold l_vm_machine_reveal Cd.e Cd.cs
 simp -implicitDefEqProofs only [go_sem, dnW_ite, go_sem_proc, Array.getElem?_push, hin]
 refine WP_call (index_ok (h.push _) x hx hxb hr h0) fun v J1 hv => ?_
 obtain ⟨rfl, sh1, h1, u1⟩ := hv
 have hl1 := u1.1.1
 cases hn : (named E m x).2.1 with
 | false =>
  simp -implicitDefEqProofs only [go_sem, dnW_ite, go_sem_proc]
  refine hK _ _ (MOut.trans (.push _) ⟨sh1, ?_, u1⟩)
  simp only [revealF, hn, if_true]; exact h1
 | true =>
  obtain ⟨ht, he⟩ := named_ok hn
  have hb1 := h1.1
  have hin1 := inb hb1
  have hbx := u1.keep (push_get J _) (by have := lt_get hb; omega) (fun hm => by have := (h.2.2.low _ hm); omega)
  have hin2 := inb hbx
  have hat := At_ok m.bd (named E m x).1
  rw [ht] at hat
  simp only [if_true, Cl.c] at hat
  have hmeet := fun f => Meet_ok x.mask (.lst 1 f [m32 E.all]) [E.all] .lst (by simp)
  simp only [List.foldl] at hmeet
  have hshow := Show_ok m.bd (named E m x).1 (Sh.one m x E.all (named E m x).1)
  rw [ht] at hshow
  simp only [Bool.true_and, if_true] at hshow
  have hless : pc BI F_mask_Mask_Less [m32 (x.mask &&& E.all), m32 (m.bd.at (named E m x).1).s] = some (m32 (Sh.one m x E.all (named E m x).1)) := Less_ok _ _
  have hbl := m.bd.h
  have ht2 := ht
  simp only [Bd.there, decide_eq_true_eq] at ht2
  simp -implicitDefEqProofs only [go_sem, dnW_ite, go_sem_proc, hb1, Array.getElem?_push, hin1, hin2, hbx, dcp hat (by simp [ipureL, ipure, bdc_pure]), ipureL, ipure, grp, mkE, List.headD, dcp (hmeet _) rfl, dcp hless rfl, dcp hshow (by simp [ipureL, ipure, bdc_pure]), show ¬ (named E m x).1 < 0 by omega, show min (named E m x).1.toNat 64 = (named E m x).1.toNat by omega]
  by_cases hz : Sh.one m x E.all (named E m x).1 = 0#32
  ·have hz' : (Sh.one m x E.all (named E m x).1 != 0#32) = false := by simp [hz]
   simp -implicitDefEqProofs only [go_sem, dnW_ite, go_sem_proc, hz']
   refine hK _ _ (MOut.trans (.push _) (MOut.trans u1 (MOut.trans (.push (IB.cells 0 [.int .i32 (m.bd.at (named E m x).1).v, m32 (m.bd.at (named E m x).1).s] false)) ?_)))
   have := MOut.set (h1.push (IB.cells 0 [.int .i32 (m.bd.at (named E m x).1).v, m32 (m.bd.at (named E m x).1).s] false)) (revealF E m x) (by simp [revealF, hn, hz])
   simp only [revealF, hn, hz, if_true, List.append_nil, Bool.true_eq_false, if_false] at this ⊢
   exact this
  ·have hz' : (Sh.one m x E.all (named E m x).1 != 0#32) = true := by simp [hz]
   have hM := (h1.push (IB.cells 0 [.int .i32 (m.bd.at (named E m x).1).v, m32 (m.bd.at (named E m x).1).s] false)).set { m with err := (named E m x).2.2, bd := m.bd.show (named E m x).1 (Sh.one m x E.all (named E m x).1), touched := m.touched ||| bit (named E m x).1 } rfl
   simp -implicitDefEqProofs only [go_sem, dnW_ite, go_sem_proc, hz', Array.getElem?_push, Array.getElem?_setIfInBounds, hin1, hin2]
   have hgl : (m.shows.map Sh.c).flatten.length = m.shows.length * 3 := by
    rw [flat_len (sz := 3)]
    ·simp
    ·intro e he
     obtain ⟨y, _, rfl⟩ := List.mem_map.1 he
     rfl
   refine WP_bind (hM.2.2.app (m := 1) (ds := Sh.c ⟨(named E m x).1, Sh.one m x E.all (named E m x).1, (m.bd.at (named E m x).1).v⟩) (by omega) rfl rfl rfl rfl (fits16 (by rw [hgl]; omega))) fun s' J' hs => ?_
   obtain ⟨k1, k2, k3⟩ := hs
   have hb' := hM.1
   rw [← k2.2 b (lt_get hM.1) h1.2.1] at hb'
   have ki := k1.icells
   have ko := k1.one
   simp -implicitDefEqProofs only [go_sem, dnW_ite, go_sem_proc, hb', ↓ko, ↓ki]
   have := hM.app k1 k2 k3 (revealF E m x) (by simp [revealF, hn, hz])
   have t := MOut.trans (.push _) (MOut.trans u1 (MOut.trans (.push _) (MOut.trans (.set _) this)))
   simp only [revealF, hn, hz, if_false, Bool.true_eq_false] at t hK
   exact hK _ _ t
end Go.Proofs.YticfcmaigffhmaaGreat.G
