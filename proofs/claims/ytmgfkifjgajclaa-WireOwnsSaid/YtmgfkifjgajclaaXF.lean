/- Joined: Q5 to OW7. -/
import Derived.Test.YtmgfkifjgajclaaXE
set_option linter.unusedVariables false
set_option linter.unusedSimpArgs false
set_option maxRecDepth 20000
set_option maxHeartbeats 2000000
namespace Go.Proofs.Ytmgfkifjgajclaa.G
open Go
theorem evI_int {ρ : List IV} {k : IntKind} {n : Int} : evI ρ (.const (.int k n)) = .int k n := rfl
theorem evI_bool {ρ : List IV} {b : Bool} : evI ρ (.const (.bool b)) = .bool b := rfl
theorem evI_nilsl {ρ : List IV} : evI ρ (.const (.slice none 0 0)) = .sc (.slice none 0 0) := rfl
theorem evI_nilp {ρ : List IV} : evI ρ (.const (.pointer none)) = .sc (.pointer none) := rfl
theorem BI_zc (t : TypeId) : BI.zc t = zcT t := rfl
theorem BI_zv (t : TypeId) : BI.zv t = zvT t := rfl
theorem BI_co (t : TypeId) : BI.co t = coT t := rfl
theorem dcp {f : FuncId} {args : List IV} {u : IV} {J : JH} (hp : pc BI f args = some u) (h : ipureL args = true) : doCall (ic BI) .pure f args J = some (u, J) := doCall_pure h hp
theorem ic_run {f : FuncId} {l : LFn} {args : List IV} {vs : List IV} {J J' : JH} (hf : BI.fn f = some l) (hl : args.length = l.np) (h : dn BI l.body args J = some (.ret vs, J')) : ic BI f args J = some (itup vs, J') := ic_intro (gv_none hf) hf hl h
theorem frzP {J : JH} {v : IV} (h : ipure v = true) : frz J DEP v = some v := frz_pure J DEP h
theorem isplice_cons (a : IV) (cs : List IV) (off : Nat) (vs : List IV) : isplice (a :: cs) off vs = (a :: cs).take off ++ vs ++ (a :: cs).drop (off + vs.length) := rfl
theorem isplice_set {cs : List IV} {i : Nat} {v : IV} (h : i < cs.length) : isplice cs i [v] = cs.set i v := by
 unfold isplice
 rw [List.set_eq_take_append_cons_drop, if_pos h]
 simp
theorem isplice_ints {κ : IntKind} {ys : List Int} {i : Nat} {x : Int} (h : i < ys.length) : isplice (ys.map (IV.int κ)) i [IV.int κ x] = (ys.set i x).map (IV.int κ) := by
 rw [isplice_set (by simpa using h), List.map_set]
theorem ints_ione {κ : IntKind} {ys : List Int} : (ys.map (IV.int κ)).all ione = true := by simp [ione, one]
theorem ints_pure {κ : IntKind} {ys : List Int} : ipureL (ys.map (IV.int κ)) = true := ipureL_iff.2 fun x hx => by
 obtain ⟨y, _, rfl⟩ := List.mem_map.1 hx; rfl
theorem ints_cells {κ : IntKind} (ys : List Int) : (ys.map (IV.int κ)).flatMap icells = ys.map (IV.int κ) := by
 induction ys with
 | nil => rfl
 | cons y ys ih => simp only [List.map_cons, List.flatMap_cons, icells, ih]; rfl
theorem grp1 : ∀ (l : List IV), grp 1 l.length l = l
 | [] => rfl
 | x :: l => by simp [grp, mkE, grp1 l]
theorem wrap_i64 {x : Int} (h0 : -9223372036854775808 ≤ x) (h1 : x ≤ 9223372036854775807) : IntKind.i64.wrap x = x := by
 simp only [IntKind.wrap, IntKind.bits, IntKind.signed, if_true]
 simp
 omega
theorem UNK_pos : (0 < UNK) = True := by simp [UNK]
theorem one_lt_UNK : (1 < UNK) = True := by simp [UNK]
theorem lt_UNK {n : Nat} (h : n ≤ 1000000) : (n < UNK) = True := by simp [UNK]; omega
theorem not_UNK_le {n : Nat} (h : n ≤ 1000000) : (UNK ≤ n) = False := by simp [UNK]; omega
theorem frz12 : DEP = 11 + 1 := rfl
theorem frz_sl {J : JH} {k b v off n cap sz : Nat} {cs : List IV} (hsz : 0 < sz) (h : ird J b v off (n * sz) = some cs) (hp : ipureL cs = true) (ho : cs.all ione = true) : frz J (k + 1) (.sl b v off n cap sz) = some (.lst sz (n == cap && decide (cap < UNK)) (grp sz n cs)) := by
 simp only [frz, ipure, Bool.false_eq_true, if_false]
 rw [if_neg (by omega), h]
 simp only [frzL_pure J k hp, ho, if_true]
theorem frz_agg {J : JH} {k : Nat} {vs : List IV} (h : ipureL vs = false) : frz J (k + 1) (.agg vs) = (vs.mapM (frz J k)).map .agg := by
 simp only [frz, ipure, h, Bool.false_eq_true, if_false]
theorem dcf {f : FuncId} {args as : List IV} {u : IV} {J : JH} (ha : args.mapM (frz J DEP) = some as) (hp : pc BI f as = some u) : doCall (ic BI) .pure f args J = some (u, if iscal u then J else markA J (args.flatMap (shows J DEP))) := by
 unfold pc at hp
 simp only [doCall, ha]
 split at hp
 ·rename_i v J1 hc
  simp only [hc, hp]
 ·simp at hp
theorem shows_sl {J : JH} {k b v off n cap sz : Nat} {cs : List IV} (h : ird J b v off (n * sz) = some cs) (hp : ipureL cs = true) : shows J (k + 1) (.sl b v off n cap sz) = [b] := by
 simp only [shows, ipure, Bool.false_eq_true, if_false, h, showsL_pure J k hp]
def WP (r : Option (Out IV × JH)) (P : Out IV → JH → Prop) : Prop := match r with | some (o, J) => P o J | none => False
def RP (r : Option (IV × JH)) (P : IV → JH → Prop) : Prop := match r with | some (v, J) => P v J | none => False
def byOut (G : Nat → List IV → JH → Prop) (R : List IV → JH → Prop) (o : Out IV) (J : JH) : Prop := match o with | .goto j vs => G j vs J | .ret vs => R vs J
theorem byOut_goto {G R j vs J} : byOut G R (.goto j vs) J = G j vs J := rfl
theorem byOut_ret {G R vs J} : byOut G R (.ret vs) J = R vs J := rfl
theorem WP_some {o : Out IV} {J : JH} {P} : WP (some (o, J)) P = P o J := rfl
theorem RP_some {v : IV} {J : JH} {P} : RP (some (v, J)) P = P v J := rfl
theorem WP_ite {c : Prop} [Decidable c] {a b : Option (Out IV × JH)} {P} : WP (if c then a else b) P = if c then WP a P else WP b P := by split <;> rfl
theorem WP_of {r : Option (Out IV × JH)} {P} (h : WP r P) : ∃ o J, r = some (o, J) ∧ P o J := by
 cases r with
 | none => exact h.elim
 | some q => exact ⟨q.1, q.2, rfl, h⟩
theorem RP_of {r : Option (IV × JH)} {P} (h : RP r P) : ∃ v J, r = some (v, J) ∧ P v J := by
 cases r with
 | none => exact h.elim
 | some q => exact ⟨q.1, q.2, rfl, h⟩
noncomputable def thenD (r : Option (IV × JH)) (k : L) (ρ : List IV) : Option (Out IV × JH) := thenI r fun v J' => dn BI k (ρ ++ [v]) J'
noncomputable def onJoinD (l : Nat) (r : Option (Out IV × JH)) (b : L) : Option (Out IV × JH) := onJoin l r fun vs J => dn BI b vs J
noncomputable def onIfD (v : IV) (a b : L) (ρ : List IV) (J : JH) : Option (Out IV × JH) := onIf v (dn BI a ρ J) (dn BI b ρ J)
section
variable {ρ : List IV} {J : JH} {p : SOp} {k : L} {md : Md}
theorem dnW_o : dn BI (o p k) ρ J = thenD (iexec BI (ic BI) .raw ρ p J) k ρ := dn_o
theorem dnW_om : dn BI (om md p k) ρ J = thenD (iexec BI (ic BI) md ρ p J) k ρ := dn_om
theorem dnW_oc {g : Option (Operand × Bool)} {chk} : dn BI (oc g p md chk k) ρ J = thenD (stepI' BI (ic BI) ρ ⟨g, p, md, chk⟩ J) k ρ := dn_oc
theorem dnW_ite {c : Operand} {a b : L} : dn BI (.ite c a b) ρ J = onIfD (evI ρ c) a b ρ J := dn_ite
theorem dnW_join {l : Nat} {a b : L} : dn BI (.join l a b) ρ J = onJoinD l (dn BI a ρ J) b := dn_join
theorem thenD_some {v : IV} : thenD (some (v, J)) k ρ = dn BI k (ρ ++ [v]) J := rfl
theorem thenD_ite {c : Prop} [Decidable c] {a b : Option (IV × JH)} : thenD (if c then a else b) k ρ = if c then thenD a k ρ else thenD b k ρ := by split <;> rfl
theorem onIfD_bool {t : Bool} {a b : L} : onIfD (.sc (.bool t)) a b ρ J = if t = true then dn BI a ρ J else dn BI b ρ J := rfl
theorem onJoinD_out {l j : Nat} {vs : List IV} {b : L} : onJoinD l (some (.goto j vs, J)) b = if j = l then dn BI b vs J else some (.goto j vs, J) := rfl
theorem onJoinD_ret {l : Nat} {vs : List IV} {b : L} : onJoinD l (some (.ret vs, J)) b = some (.ret vs, J) := rfl
theorem onJoinD_ite {l : Nat} {c : Prop} [Decidable c] {a a' : Option (Out IV × JH)} {b : L} : onJoinD l (if c then a else a') b = if c then onJoinD l a b else onJoinD l a' b := by split <;> rfl
end
theorem WP_join {l : Nat} {r : Option (Out IV × JH)} {b : L} {K : Out IV → JH → Prop}
  (h : ∀ K' : Out IV → JH → Prop, (∀ vs J, WP (dn BI b vs J) K → K' (.goto l vs) J) → (∀ j vs J, j ≠ l → K (.goto j vs) J → K' (.goto j vs) J) → (∀ vs J, K (.ret vs) J → K' (.ret vs) J) → WP r K') : WP (onJoinD l r b) K := by
 have h1 := h (fun o J => byOut (fun j vs J => if j = l then WP (dn BI b vs J) K else K (.goto j vs) J) (fun vs J => K (.ret vs) J) o J) (fun vs J h => by simpa [byOut] using h) (fun j vs J hj h => by simpa [byOut, hj] using h) (fun vs J h => h)
 cases r with
 | none => exact h1.elim
 | some q =>
  obtain ⟨o, J⟩ := q
  cases o with
  | goto j vs =>
   simp only [WP_some, byOut_goto] at h1
   simp only [onJoinD, onJoin]
   split at h1
   ·rename_i hj; rw [if_pos hj]; exact h1
   ·rename_i hj; rw [if_neg hj]; exact h1
  | ret vs => exact h1
theorem WP_iter {f : List IV → JH → Option (Out IV × JH)} {l : Nat} {K : Out IV → JH → Prop} (I : Nat → List IV → JH → Prop)
  (hs : ∀ n vs J, I n vs J → ∀ K' : Out IV → JH → Prop, (∀ ws m J', m < n → I m ws J' → K' (.goto l ws) J') → (∀ j ws J', j ≠ l → K (.goto j ws) J' → K' (.goto j ws) J') → (∀ ws J', K (.ret ws) J' → K' (.ret ws) J') → WP (f vs J) K') :
  ∀ n vs J, I n vs J → WP (iter f l vs J) K := by
 intro n
 induction n using Nat.strongRecOn with
 | ind n ih =>
  intro vs J hI
  have h := hs n vs J hI (fun o J' => byOut (fun j ws J' => if j = l then ∃ m, m < n ∧ I m ws J' else K (.goto j ws) J') (fun ws J' => K (.ret ws) J') o J') (fun ws m J' hm hi => by simp only [byOut, if_true]; exact ⟨m, hm, hi⟩) (fun j ws J' hj hk => by simp only [byOut, if_neg hj]; exact hk) (fun ws J' h => h)
  obtain ⟨o, J', hf, hp⟩ := WP_of h
  cases o with
  | goto j ws =>
   simp only [byOut_goto] at hp
   split at hp
   ·rename_i hj
    subst hj
    obtain ⟨m, hm, hi⟩ := hp
    obtain ⟨o2, J2, h2, p2⟩ := WP_of (ih m hm ws J' hi)
    rw [iter_step hf h2]
    exact p2
   ·rename_i hj
    rw [iter_out hf hj]
    exact hp
  | ret ws =>
   rw [iter_ret hf]
   exact hp
theorem WP_loop {f : List IV → JH → Option (Out IV × JH)} {l0 l1 : Nat} {b : L} {K : Out IV → JH → Prop} (hne : l0 ≠ l1) (I : Nat → List IV → JH → Prop)
  (hs : ∀ n vs J, I n vs J → ∀ K' : Out IV → JH → Prop, (∀ ws m J', m < n → I m ws J' → K' (.goto l1 ws) J') → (∀ ws J', WP (dn BI b ws J') K → K' (.goto l0 ws) J') → (∀ ws J', K (.ret ws) J' → K' (.ret ws) J') → WP (f vs J) K') :
  ∀ n vs J, I n vs J → WP (onJoinD l0 (iter f l1 vs J) b) K := fun n vs J hI =>
 WP_join fun K1 g1 _ g3 => WP_iter I (fun n vs J hI K' k1 k2 k3 => hs n vs J hI K' k1 (fun ws J' h => k2 l0 ws J' hne (g1 ws J' h)) (fun ws J' h => k3 ws J' (g3 ws J' h))) n vs J hI
theorem RP_run {f : FuncId} {l : LFn} {args : List IV} {J : JH} {P} (hf : BI.fn f = some l) (hl : args.length = l.np) (h : ∀ K : Out IV → JH → Prop, (∀ vs J', P (itup vs) J' → K (.ret vs) J') → WP (dn BI l.body args J) K) : RP (ic BI f args J) P := by
 obtain ⟨o, J', hd, hp⟩ := WP_of (h (fun o J' => byOut (fun _ _ _ => False) (fun vs J' => P (itup vs) J') o J') (fun vs J' h => h))
 cases o with
 | goto j ws => exact hp.elim
 | ret vs => rw [ic_run hf hl hd]; exact hp
theorem WP_bind {r : Option (IV × JH)} {k : L} {ρ : List IV} {P Q} (h : RP r Q) (hk : ∀ v J', Q v J' → WP (dn BI k (ρ ++ [v]) J') P) : WP (thenD r k ρ) P := by
 obtain ⟨v, J', hc, hq⟩ := RP_of h
 rw [hc]
 exact hk v J' hq
theorem WP_call {f : FuncId} {args : List IV} {J : JH} {k : L} {ρ : List IV} {P Q} (h : RP (ic BI f args J) Q) (hk : ∀ v J', Q v J' → WP (dn BI k (ρ ++ [v]) J') P) : WP (thenD (doCall (ic BI) .raw f args J) k ρ) P := WP_bind h hk
theorem pcW {f : FuncId} {l : LFn} {args : List IV} {P : IV → Prop} (hf : BI.fn f = some l) (hl : args.length = l.np) (h : ∀ K : Out IV → JH → Prop, (∀ vs J' u, frz J' DEP (itup vs) = some u → P u → K (.ret vs) J') → WP (dn BI l.body args #[]) K) : ∃ u, pc BI f args = some u ∧ P u := by
 obtain ⟨o, J', hd, hp⟩ := WP_of (h (fun o J' => byOut (fun _ _ _ => False) (fun vs J' => ∃ u, frz J' DEP (itup vs) = some u ∧ P u) o J') (fun vs J' u h1 h2 => ⟨u, h1, h2⟩))
 cases o with
 | goto j ws => exact hp.elim
 | ret vs =>
  obtain ⟨u, hu, hp⟩ := hp
  exact ⟨u, pc_intro (gv_none hf) hf hl hd hu, hp⟩
theorem pcE {f : FuncId} {l : LFn} {args : List IV} {r : IV} (hf : BI.fn f = some l) (hl : args.length = l.np) (h : ∀ K : Out IV → JH → Prop, (∀ vs J', frz J' DEP (itup vs) = some r → K (.ret vs) J') → WP (dn BI l.body args #[]) K) : pc BI f args = some r := by
 obtain ⟨u, hu, rfl⟩ := pcW (P := fun u => u = r) hf hl (fun K hK => h K fun vs J' h1 => hK vs J' r h1 rfl)
 exact hu
theorem frzE {J : JH} {v w : IV} (h : ipure v = true) (e : v = w) : frz J DEP v = some w := by rw [← e]; exact frzP h
theorem lt_get {α : Type} {J : Array α} {b : Nat} {X : α} (h : J[b]? = some X) : b < J.size := by
 rcases Nat.lt_or_ge b J.size with h1 | h1
 ·exact h1
 ·rw [Array.getElem?_eq_none h1] at h; cases h
theorem inb {α : Type} {J : Array α} {b : Nat} {X : α} (h : J[b]? = some X) : (b < J.size) = True ∧ (b = J.size) = False ∧ (J.size = b) = False ∧ (∀ k, (b < J.size + k) = True) ∧ (∀ k, (b = J.size + k) = False) ∧ (∀ k, (J.size + k = b) = False) := by
 have := lt_get h
 refine ⟨by simp [this], by simp; omega, by simp; omega, fun k => by simp; omega, fun k => by simp; omega, fun k => by simp; omega⟩
def Fr (J J' : JH) (S : List Nat) : Prop := J.size ≤ J'.size ∧ ∀ d, d < J.size → d ∉ S → J'[d]? = J[d]?
theorem Fr.refl (J : JH) (S : List Nat) : Fr J J S := ⟨Nat.le_refl _, fun _ _ _ => rfl⟩
theorem Fr.trans {J J1 J2 : JH} {S T : List Nat} (h : Fr J J1 S) (k : Fr J1 J2 T) (hT : ∀ d, d < J.size → d ∈ T → d ∈ S) : Fr J J2 S :=
 ⟨Nat.le_trans h.1 k.1, fun d hd hn => by rw [k.2 d (Nat.lt_of_lt_of_le hd h.1) (fun ht => hn (hT d hd ht)), h.2 d hd hn]⟩
theorem Fr.push (J : JH) (X : IB) (S : List Nat) : Fr J (J.push X) S := ⟨by simp, fun d hd _ => by rw [Array.getElem?_push, if_neg (Nat.ne_of_lt hd)]⟩
theorem Fr.set (J : JH) {b : Nat} (X : IB) {S : List Nat} (hb : b ∈ S) : Fr J (J.setIfInBounds b X) S := ⟨by simp, fun d hd hn => by
 rw [Array.getElem?_setIfInBounds, if_neg]
 rintro rfl
 exact hn hb⟩
theorem evI_fn {ρ : List IV} {f : FuncId} : evI ρ (.func f) = .fn f [] [] := rfl
def storeF (sz : Nat) (p v : IV) (J : JH) : Option (IV × JH) := istore sz p v J
theorem iexec_store {B : IBook} {C : ICall} {md : Md} {ρ : List IV} {sz : Nat} {x v : Operand} {J : JH} : iexec B C md ρ (.store sz x v) J = storeF sz (evI ρ x) (evI ρ v) J := rfl
theorem storeF_ptr {sz b w off : Nat} {v : IV} {J : JH} : storeF sz (.ptr b w off) v J = if (icells v).length = sz then (match iwr J b w off (icells v) with | some J' => some ((.tup []), J') | none => none) else none := rfl
def lenF (str : Bool) (x : IV) (J : JH) : Option (IV × JH) := match x with
  | .sc (.string s) => if str then ilift (some (.int .i64 s.size)) J else ilift none J
  | v => if str then ilift none J else ilift ((ilen v).map fun n => .int .i64 (n : Nat)) J
theorem iexec_len {B : IBook} {C : ICall} {md : Md} {ρ : List IV} {str : Bool} {x : Operand} {J : JH} : iexec B C md ρ (.len str x) J = lenF str (evI ρ x) J := rfl
theorem lenF_nil {J : JH} : lenF false (.sc (.slice none 0 0)) J = some (.int .i64 0, J) := rfl
theorem lenF_lst {J : JH} {sz : Nat} {f : Bool} {xs : List IV} : lenF false (.lst sz f xs) J = some (.int .i64 (xs.length : Nat), J) := rfl
theorem lenF_sl {J : JH} {b v o n c z : Nat} : lenF false (.sl b v o n c z) J = some (.int .i64 (n : Nat), J) := rfl
theorem lenF_str {J : JH} {s : ByteArray} : lenF true (.sc (.string s)) J = some (.int .i64 s.size, J) := rfl
def iaddrF (sz : Nat) (x i : IV) (J : JH) : Option (IV × JH) := match x, iasNat i with
  | .sl b v o n _ z, some j => if j < n ∧ z = sz then ilift (some (.ptr b v (o + j * sz))) J else ilift none J
  | .lst z _ xs, some j => (match xs[j]? with | some e => if z = sz then ilift (some (.rptr e 0)) J else ilift none J | none => ilift none J)
  | _, _ => ilift none J
theorem iexec_iaddr {B : IBook} {C : ICall} {md : Md} {ρ : List IV} {sz : Nat} {x i : Operand} {J : JH} : iexec B C md ρ (.iaddr sz x i) J = iaddrF sz (evI ρ x) (evI ρ i) J := rfl
theorem iaddrF_lst {sz : Nat} {f : Bool} {xs : List IV} {κ : IntKind} {i : Int} {J : JH} : iaddrF sz (.lst sz f xs) (.int κ i) J = (match iasNat (.int κ i) with | some j => (match xs[j]? with | some e => some (.rptr e 0, J) | none => none) | none => none) := by
 simp only [iaddrF]
 cases iasNat (.int κ i) with
 | none => rfl
 | some j => simp only; cases xs[j]? <;> simp [ilift]
theorem iaddrF_sl {sz : Nat} {b v o n c : Nat} {κ : IntKind} {i : Int} {J : JH} : iaddrF sz (.sl b v o n c sz) (.int κ i) J = (match iasNat (.int κ i) with | some j => if j < n then some (.ptr b v (o + j * sz), J) else none | none => none) := by
 simp only [iaddrF]
 cases iasNat (.int κ i) with
 | none => rfl
 | some j => simp only [and_true]; split <;> rfl
def Ls (sz : Nat) (x : IV) (xs : List IV) : Prop := (x = .sc (.slice none 0 0) ∧ xs = []) ∨ ∃ f, x = .lst sz f xs
def Bs (x : IV) (l : List Int) : Prop := Ls 1 x (l.map (IV.int .u8))
theorem Ls.nil {sz : Nat} : Ls sz (.sc (.slice none 0 0)) [] := .inl ⟨rfl, rfl⟩
theorem Ls.lst {sz : Nat} {f : Bool} {xs : List IV} : Ls sz (.lst sz f xs) xs := .inr ⟨f, rfl⟩
theorem Ls.ilen {sz : Nat} {x : IV} {xs : List IV} (h : Ls sz x xs) : ilen x = some xs.length := by
 rcases h with ⟨rfl, rfl⟩ | ⟨f, rfl⟩ <;> rfl
theorem Ls.cells {sz : Nat} {x : IV} {xs : List IV} (h : Ls sz x xs) (J : JH) : iscells J sz x = some (xs.flatMap icells) := by
 rcases h with ⟨rfl, rfl⟩ | ⟨f, rfl⟩ <;> simp [iscells]
theorem Ls.pure {sz : Nat} {x : IV} {xs : List IV} (h : Ls sz x xs) : ipure x = true := by
 rcases h with ⟨rfl, rfl⟩ | ⟨f, rfl⟩ <;> simp [ipure]
theorem Ls.one {sz : Nat} {x : IV} {xs : List IV} (h : Ls sz x xs) : ione x = true := by
 rcases h with ⟨rfl, rfl⟩ | ⟨f, rfl⟩ <;> simp [ione, Go.Proofs.Ytmgfkifjgajclaa.G.one]
theorem Ls.icells {sz : Nat} {x : IV} {xs : List IV} (h : Ls sz x xs) : icells x = [x] := by
 rcases h with ⟨rfl, rfl⟩ | ⟨f, rfl⟩ <;> simp [Go.Proofs.Ytmgfkifjgajclaa.G.icells]
theorem Ls.ne {sz : Nat} {x : IV} {xs : List IV} (h : Ls sz x xs) (hn : xs ≠ []) : ∃ f, x = .lst sz f xs := by
 rcases h with ⟨rfl, rfl⟩ | h
 ·exact absurd rfl hn
 ·exact h
theorem Ls.get {sz : Nat} {x : IV} {xs : List IV} (h : Ls sz x xs) {i : Nat} (hi : i < xs.length) : ∃ f, x = .lst sz f xs := h.ne fun h => by rw [h] at hi; simp at hi
theorem Ls.lenF {sz : Nat} {x : IV} {xs : List IV} (h : Ls sz x xs) {J : JH} : lenF false x J = some (.int .i64 (xs.length : Nat), J) := by
 rcases h with ⟨rfl, rfl⟩ | ⟨f, rfl⟩ <;> rfl
theorem Ls.at {sz : Nat} {x : IV} {xs : List IV} (h : Ls sz x xs) {i : Nat} (hi : i < xs.length) {J : JH} : iaddrF sz x (.int .i64 (i : Int)) J = some (.rptr xs[i] 0, J) := by
 obtain ⟨f, rfl⟩ := h.get hi
 rw [iaddrF_lst]
 simp [iasNat, asNat, hi]
theorem Bs.lenF {x : IV} {l : List Int} (h : Bs x l) {J : JH} : Go.Proofs.Ytmgfkifjgajclaa.G.lenF false x J = some (.int .i64 (l.length : Nat), J) := by rw [Ls.lenF h]; simp
theorem Bs.at {x : IV} {l : List Int} (h : Bs x l) {i : Nat} (hi : i < l.length) {J : JH} : iaddrF 1 x (.int .i64 (i : Int)) J = some (.rptr (.int .u8 l[i]) 0, J) := by
 rw [Ls.at h (by simpa using hi)]; simp
theorem Bs.len {x : IV} {l : List Int} (h : Bs x l) : Go.Proofs.Ytmgfkifjgajclaa.G.ilen x = some l.length := by rw [Ls.ilen h]; simp
def appF (sz bytes : Nat) (s x : IV) (J : JH) : Option (IV × JH) := if 0 < sz then iappend sz bytes s x J else none
theorem iexec_append {B : IBook} {C : ICall} {md : Md} {ρ : List IV} {sz by' : Nat} {s x : Operand} {J : JH} : iexec B C md ρ (.append sz by' s x) J = appF sz by' (evI ρ s) (evI ρ x) J := by
 simp only [iexec, appF, ilift]
def blk (x : IV) : List Nat := (blkOf x).getD []
def Grow (J : JH) (x : IV) (sz : Nat) (cs : List IV) : Prop := (x = .sc (.slice none 0 0) ∧ cs = []) ∨ ∃ b v n full, x = .sl b v 0 n (UNK + sz) sz ∧ J[b]? = some (.cells v full false) ∧ n * sz ≤ full.length ∧ full.take (n * sz) = cs ∧ irefsL (full.drop (n * sz)) = []
theorem Grow.nil {J : JH} {sz : Nat} : Grow J (.sc (.slice none 0 0)) sz [] := .inl ⟨rfl, rfl⟩
theorem Grow.low {J : JH} {x : IV} {sz : Nat} {cs : List IV} (h : Grow J x sz cs) : ∀ b ∈ blk x, b < J.size := by
 rcases h with ⟨rfl, rfl⟩ | ⟨b, v, n, full, rfl, h1, h2, h3, h4⟩
 ·simp [blk, blkOf]
 ·simp only [blk, blkOf, Option.getD_some, List.mem_singleton, forall_eq]
  exact lt_get h1
theorem Grow.fr {J J' : JH} {x : IV} {sz : Nat} {cs : List IV} {S : List Nat} (h : Grow J x sz cs) (hf : Fr J J' S) (hS : ∀ b ∈ blk x, b ∉ S) : Grow J' x sz cs := by
 rcases h with ⟨rfl, rfl⟩ | ⟨b, v, n, full, rfl, h1, h2, h3, h4⟩
 ·exact .nil
 ·refine .inr ⟨b, v, n, full, rfl, ?_, h2, h3, h4⟩
  rw [hf.2 b (lt_get h1) (hS b (by simp [blk, blkOf]))]
  exact h1
theorem Grow.app {J : JH} {s y : IV} {sz by' m : Nat} {cs ds : List IV} (h : Grow J s sz cs) (hsz : 0 < sz) (hy : iscells J sz y = some ds) (hm : Go.Proofs.Ytmgfkifjgajclaa.G.ilen y = some m) (hd : ds.length = m * sz) (ho : ds.all ione = true) (hf : fits (cs.length + m) by' = true) :
  RP (appF sz by' s y J) fun s' J' => Grow J' s' sz (cs ++ ds) ∧ Fr J J' (blk s) ∧ (∀ b ∈ blk s', b ∈ blk s ∨ J.size ≤ b) := by
 have hfm : ∀ k, k ≤ cs.length + m → fits k by' = true := fun k hk => by
  simp only [fits, Bool.and_eq_true, decide_eq_true_eq] at hf ⊢
  refine ⟨by omega, Nat.le_trans (Nat.mul_le_mul_right by' hk) hf.2⟩
 unfold appF
 rw [if_pos hsz]
 unfold iappend
 simp only [hy, hm]
 rcases h with ⟨rfl, rfl⟩ | ⟨b, v, n, full, rfl, h1, h2, h3, h4⟩
 ·by_cases h0 : m = 0
  ·subst h0
   have : ds = [] := List.eq_nil_of_length_eq_zero (by simpa using hd)
   subst this
   simp only [if_true, RP_some]
   exact ⟨.nil, .refl _ _, fun b hb => .inl hb⟩
  ·simp only [if_neg h0, hfm m (by omega), ho, Bool.and_self, if_true, RP_some]
   refine ⟨.inr ⟨J.size, 0, m, ds, rfl, by simp, by omega, ?_, by rw [List.drop_of_length_le (by omega)]; rfl⟩, Fr.push _ _ _, ?_⟩
   ·rw [List.nil_append, List.take_of_length_le (by omega)]
   ·simp [blk, blkOf]
 ·by_cases h0 : m = 0
  ·subst h0
   have : ds = [] := List.eq_nil_of_length_eq_zero (by simpa using hd)
   subst this
   simp only [if_true, RP_some, List.append_nil]
   exact ⟨.inr ⟨b, v, n, full, rfl, h1, h2, h3, h4⟩, .refl _ _, fun b hb => .inl hb⟩
  ·have hcl : cs.length = n * sz := by rw [← h3, List.length_take]; omega
   have hn : n ≤ cs.length := by rw [hcl]; exact Nat.le_mul_of_pos_right n hsz
   simp only [if_neg h0, hfm (n + m) (by omega), ho, Bool.and_self, and_self, if_true, h1, Nat.zero_add, h2, RP_some, Nat.le_add_right, List.drop_zero, h3]
   refine ⟨.inr ⟨b, v + 1, n + m, cs ++ ds, rfl, ?_, ?_, ?_, by rw [List.drop_of_length_le (by rw [List.length_append, hcl, hd, Nat.add_mul]; exact Nat.le_refl _)]; rfl⟩, Fr.set _ _ (by simp [blk, blkOf]), fun b hb => .inl (by simpa [blk, blkOf] using hb)⟩
   ·simp [lt_get h1]
   ·rw [List.length_append, hcl, hd, Nat.add_mul]; exact Nat.le_refl _
   ·rw [List.take_of_length_le]
    rw [List.length_append, hcl, hd, Nat.add_mul]; exact Nat.le_refl _
theorem Grow.one {J : JH} {s : IV} {sz : Nat} {cs : List IV} (h : Grow J s sz cs) : ione s = true := by
 rcases h with ⟨rfl, rfl⟩ | ⟨b, v, n, full, rfl, h1, h2, h3, h4⟩ <;> simp [ione, Go.Proofs.Ytmgfkifjgajclaa.G.one]
theorem Grow.icells {J : JH} {s : IV} {sz : Nat} {cs : List IV} (h : Grow J s sz cs) : icells s = [s] := by
 rcases h with ⟨rfl, rfl⟩ | ⟨b, v, n, full, rfl, h1, h2, h3, h4⟩ <;> simp [Go.Proofs.Ytmgfkifjgajclaa.G.icells]
theorem grp1' {n : Nat} {l : List IV} (h : n = l.length) : grp 1 n l = l := by subst h; exact grp1 l
theorem Grow.frz1 {J : JH} {s : IV} {cs : List IV} (h : Grow J s 1 cs) (hp : ipureL cs = true) (ho : cs.all ione = true) : ∃ u, frz J DEP s = some u ∧ Ls 1 u cs := by
 rcases h with ⟨rfl, rfl⟩ | ⟨b, v, n, full, rfl, h1, h2, h3, h4⟩
 ·exact ⟨_, frzP rfl, .nil⟩
 ·have hcl : cs.length = n := by rw [← h3, List.length_take]; omega
  refine ⟨_, by rw [frz12, frz_sl (by omega) (cs := cs) (by simp only [ird, h1, true_and, Nat.zero_add, if_pos h2, List.drop_zero, h3]) hp ho, grp1' hcl.symm], .lst⟩
theorem Grow.cells {J : JH} {s : IV} {sz : Nat} {cs : List IV} (h : Grow J s sz cs) : iscells J sz s = some cs := by
 rcases h with ⟨rfl, rfl⟩ | ⟨b, v, n, full, rfl, h1, h2, h3, h4⟩
 ·rfl
 ·simp [iscells, ird, h1, h2, h3]
theorem Grow.lenF {J J' : JH} {s : IV} {sz n : Nat} {cs : List IV} (h : Grow J s sz cs) (hn : cs.length = n * sz) (hsz : 0 < sz) : Go.Proofs.Ytmgfkifjgajclaa.G.lenF false s J' = some (.int .i64 (n : Nat), J') := by
 rcases h with ⟨rfl, rfl⟩ | ⟨b, v, k, full, rfl, h1, h2, h3, h4⟩
 ·have : n = 0 := by
   rcases Nat.eq_zero_or_pos n with h | h
   ·exact h
   ·have := Nat.mul_pos h hsz; simp at hn; omega
  subst this; rfl
 ·have hcl : cs.length = k * sz := by rw [← h3, List.length_take]; omega
  rw [hn] at hcl
  rw [lenF_sl, Nat.eq_of_mul_eq_mul_right hsz hcl]
def LsR {α : Type} (sz : Nat) (R : IV → α → Prop) (x : IV) (as : List α) : Prop := ∃ xs, Ls sz x xs ∧ xs.length = as.length ∧ ∀ i (h : i < xs.length) (h' : i < as.length), R xs[i] as[i]
theorem LsR.lenF {α : Type} {sz : Nat} {R : IV → α → Prop} {x : IV} {as : List α} (h : LsR sz R x as) {J : JH} : Go.Proofs.Ytmgfkifjgajclaa.G.lenF false x J = some (.int .i64 (as.length : Nat), J) := by
 obtain ⟨xs, h1, h2, _⟩ := h
 rw [← h2]; exact h1.lenF
theorem LsR.at {α : Type} {sz : Nat} {R : IV → α → Prop} {x : IV} {as : List α} (h : LsR sz R x as) {i : Nat} (hi : i < as.length) : ∃ e, R e as[i] ∧ ∀ J, iaddrF sz x (.int .i64 (i : Int)) J = some (.rptr e 0, J) := by
 obtain ⟨xs, h1, h2, h3⟩ := h
 exact ⟨xs[i]'(by omega), h3 i (by omega) hi, fun J => h1.at (by omega)⟩
theorem LsR.pure {α : Type} {sz : Nat} {R : IV → α → Prop} {x : IV} {as : List α} (h : LsR sz R x as) : ipure x = true := h.choose_spec.1.pure
theorem LsR.nil {α : Type} {sz : Nat} {R : IV → α → Prop} : LsR sz R (.sc (.slice none 0 0)) [] := ⟨[], .nil, rfl, fun i h => by simp at h⟩
noncomputable def thenC (r : Option (IV × JH)) (J : JH) (chk : List (Option (Operand × Bool) × SOp)) (t : Option (List Nat)) (ρ : List IV) (k : L) : Option (Out IV × JH) := match r with
 | some (v, J') => if chk.all (ichk J J' t ρ) then dn BI k (ρ ++ [v]) J' else none
 | none => none
theorem step_chk {ρ : List IV} {J : JH} {p : SOp} {md : Md} {chk} : stepI' BI (ic BI) ρ ⟨none, p, md, chk⟩ J = (match iexec BI (ic BI) md ρ p J with | some (v, J') => if chk.all (ichk J J' (itouch BI md ρ p J) ρ) then some (v, J') else none | none => none) := rfl
def blkF (x : IV) : Option (List Nat) := Go.Proofs.Ytmgfkifjgajclaa.G.blkOf x
theorem dnW_oca {ρ : List IV} {J : JH} {sz by' : Nat} {s x : Operand} {md : Md} {chk} {k : L} : dn BI (oc none (.append sz by' s x) md chk k) ρ J = thenC (appF sz by' (evI ρ s) (evI ρ x) J) J chk (blkF (evI ρ s)) ρ k := by
 rw [dnW_oc, step_chk, iexec_append]
 have ht : itouch BI md ρ (.append sz by' s x) J = blkOf (evI ρ s) := rfl
 rw [ht]
 unfold thenC blkF
 generalize appF sz by' (evI ρ s) (evI ρ x) J = r
 cases r with
 | none => rfl
 | some q =>
  by_cases hh : chk.all (ichk J q.2 (blkOf (evI ρ s)) ρ) = true
  ·simp only [hh, if_true]; rfl
  ·simp only [hh]; rfl
theorem WP_bindC {r : Option (IV × JH)} {J : JH} {chk} {t : Option (List Nat)} {k : L} {ρ : List IV} {P Q} (h : RP r Q) (hk : ∀ v J', Q v J' → chk.all (ichk J J' t ρ) = true ∧ WP (dn BI k (ρ ++ [v]) J') P) : WP (thenC r J chk t ρ k) P := by
 obtain ⟨v, J', hc, hq⟩ := RP_of h
 obtain ⟨h1, h2⟩ := hk v J' hq
 rw [hc]
 simp only [thenC, h1, if_true]
 exact h2
theorem Grow.blkF {J : JH} {s : IV} {sz : Nat} {cs : List IV} (h : Grow J s sz cs) : blkF s = some (blk s) := by
 rcases h with ⟨rfl, rfl⟩ | ⟨b, v, n, full, rfl, h1, h2, h3, h4⟩ <;> rfl
attribute [go_sem] dnW_ite
end Go.Proofs.Ytmgfkifjgajclaa.G
namespace Go.Proofs.Ytmgfkifjgajclaa.G
open Go
attribute [go_sem ↓] dnW_oca iexec_len iexec_iaddr iexec_append iexec_store
attribute [go_sem] rawB allC1 dn_ret dn_goto iexec evI_0 evI_succ evI_int evI_bool evI_nilsl evI_nilp List.cons_append List.nil_append scal2_sc abin aun ilift_some Option.map_some Option.map_none decide_eq_true_eq List.map_cons List.map_nil if_true if_false Bool.false_eq_true inew iload istore iwr ird icells ione one List.getElem?_toArray List.getElem?_cons_zero List.getElem?_cons_succ List.push_toArray List.size_toArray List.length_cons List.length_nil List.setIfInBounds_toArray List.set_cons_zero List.set_cons_succ isplice_cons List.drop_succ_cons List.drop_zero List.take_succ_cons List.take_zero List.drop_nil List.take_nil List.append_nil List.all_cons List.all_nil Bool.and_true Bool.true_and Bool.and_self Nat.zero_add Nat.add_zero Nat.le_refl true_and and_true and_self List.getElem?_nil BI_zc BI_zv BI_co zcT zvT coT not_true_eq_false not_false_eq_true Bool.not_true Bool.not_false stepI' wantsI ifill ievs itup Nat.le_add_left Nat.le_add_right iaggEq List.foldl iminI iminF imin2 min2 iisNil isNil ilen Option.isNone_none Option.isNone_some Nat.zero_le decide_true decide_false ireps List.replicate List.flatten_cons List.flatten_nil ichk itouch ctouch ilooks isame untouched Option.isSome_some Bool.or_true Bool.true_or List.contains_nil blkOf IntKind.bits iasNat asNat Int.toNat_natCast Int.natCast_nonneg List.length_map iscells ibnd islice capOf Option.isSome_none Bool.false_and Bool.and_false Bool.or_false Bool.false_or bne_self_eq_false Nat.not_lt_zero Nat.mul_one Nat.one_mul Nat.zero_mul Nat.mul_zero beq_self_eq_true Nat.sub_zero List.length_set false_implies implies_true forall_const evI_fn Nat.zero_lt_one dnW_o dnW_om dnW_oc dnW_join thenD_some thenD_ite onIfD_bool onJoinD_out onJoinD_ret onJoinD_ite WP_some WP_ite byOut_goto byOut_ret storeF_ptr lenF_nil lenF_lst lenF_sl lenF_str iaddrF_sl iaddrF_lst
attribute [go_sem_proc] reduceIte Nat.reduceAdd Nat.reduceLeDiff Nat.reduceMul Nat.reduceEqDiff Int.reduceLT Int.reduceLE Int.reduceToNat Nat.reduceSub Nat.reduceLT Int.reduceEq BitVec.reduceOfInt BitVec.reduceOfNat Int.reduceGT Int.reduceGE Int.reduceBEq Int.reduceBNe Nat.reduceGT Nat.reduceBEq Nat.reduceBNe Int.reduceAdd Int.reduceSub Int.reduceNeg
section
variable {α : Type} {sz : Nat}
theorem flat_len : ∀ {X : List (List α)}, (∀ x ∈ X, x.length = sz) → X.flatten.length = X.length * sz
 | [], _ => by simp
 | x :: X, h => by
  rw [List.flatten_cons, List.length_append, h x (by simp), flat_len fun y hy => h y (by simp [hy]), List.length_cons, Nat.succ_mul]
  omega
theorem flat_drop : ∀ {X : List (List α)} {rest : List α} {i : Nat}, (∀ x ∈ X, x.length = sz) → i ≤ X.length → (X.flatten ++ rest).drop (i * sz) = (X.drop i).flatten ++ rest
 | _, _, 0, _, _ => by simp
 | [], _, i + 1, _, h => by simp at h
 | x :: X, rest, i + 1, h, hi => by
  have hx := h x (by simp)
  rw [List.flatten_cons, List.append_assoc, Nat.succ_mul, Nat.add_comm, List.drop_append, hx, List.drop_of_length_le (by omega), List.nil_append, Nat.add_sub_cancel_left, List.drop_succ_cons]
  exact flat_drop (fun y hy => h y (by simp [hy])) (by simpa using hi)
theorem flat_at {X : List (List α)} {rest : List α} {i : Nat} (h : ∀ x ∈ X, x.length = sz) (hi : i < X.length) : ((X.flatten ++ rest).drop (i * sz)).take sz = X[i] := by
 rw [flat_drop h (by omega), List.drop_eq_getElem_cons hi, List.flatten_cons, List.append_assoc, List.take_append_of_le_length (by rw [h _ (List.getElem_mem hi)]; exact Nat.le_refl _), List.take_of_length_le (by rw [h _ (List.getElem_mem hi)]; exact Nat.le_refl _)]
theorem flat_at1 {X : List (List α)} {rest : List α} {i k : Nat} (h : ∀ x ∈ X, x.length = sz) (hi : i < X.length) (hk : k < X[i].length) : ((X.flatten ++ rest).drop (i * sz + k)).take 1 = [X[i][k]] := by
 have hx := h _ (List.getElem_mem hi)
 rw [← List.drop_drop, flat_drop h (by omega), List.drop_eq_getElem_cons hi, List.flatten_cons, List.append_assoc, List.drop_append_of_le_length (by omega), List.drop_eq_getElem_cons hk]
 rfl
theorem flat_take : ∀ {X : List (List α)} {rest : List α} {i : Nat}, (∀ x ∈ X, x.length = sz) → i ≤ X.length → (X.flatten ++ rest).take (i * sz) = (X.take i).flatten
 | _, _, 0, _, _ => by simp
 | [], _, i + 1, _, h => by simp at h
 | x :: X, rest, i + 1, h, hi => by
  have hx := h x (by simp)
  rw [List.flatten_cons, List.append_assoc, Nat.succ_mul, Nat.add_comm, List.take_append, hx, List.take_of_length_le (by omega), Nat.add_sub_cancel_left, List.take_succ_cons, List.flatten_cons]
  rw [flat_take (fun y hy => h y (by simp [hy])) (by simpa using hi)]
theorem flat_splice {X : List (List IV)} {rest vs : List IV} {i k : Nat} (h : ∀ x ∈ X, x.length = sz) (hi : i < X.length) (hk : k + vs.length ≤ sz) : isplice (X.flatten ++ rest) (i * sz + k) vs = (X.set i (isplice X[i] k vs)).flatten ++ rest := by
 have hx := h _ (List.getElem_mem hi)
 have e1 : (X.flatten ++ rest).take (i * sz + k) = (X.take i).flatten ++ X[i].take k := by
  rw [← List.take_append_drop (i * sz) (X.flatten ++ rest), flat_take h (by omega), flat_drop h (by omega)]
  have hl : (X.take i).flatten.length = i * sz := by rw [flat_len (sz := sz) (fun x hx => h x (List.mem_of_mem_take hx)), List.length_take, Nat.min_eq_left (by omega)]
  rw [List.take_append, hl, List.take_of_length_le (by omega), Nat.add_sub_cancel_left, List.drop_eq_getElem_cons hi, List.flatten_cons, List.append_assoc, List.take_append_of_le_length (by omega)]
 have e2 : (X.flatten ++ rest).drop (i * sz + k + vs.length) = X[i].drop (k + vs.length) ++ ((X.drop (i + 1)).flatten ++ rest) := by
  rw [Nat.add_assoc, ← List.drop_drop, flat_drop h (by omega), List.drop_eq_getElem_cons hi, List.flatten_cons, List.append_assoc, List.drop_append_of_le_length (by omega)]
 unfold isplice
 rw [e1, e2, List.set_eq_take_append_cons_drop, if_pos hi]
 simp [List.flatten_append]
end
def SlX (J : JH) (x : IV) (sz : Nat) (X : List (List IV)) : Prop := (∀ e ∈ X, e.length = sz) ∧ ((x = .sc (.slice none 0 0) ∧ X = []) ∨ ∃ b v rest, x = .sl b v 0 X.length (UNK + sz) sz ∧ J[b]? = some (.cells v (X.flatten ++ rest) false) ∧ irefsL rest = [])
theorem SlX.grow {J : JH} {x : IV} {sz : Nat} {X : List (List IV)} (h : SlX J x sz X) : Grow J x sz X.flatten := by
 obtain ⟨h1, ⟨rfl, rfl⟩ | ⟨b, v, rest, rfl, h2, h5⟩⟩ := h
 ·exact .nil
 ·refine .inr ⟨b, v, _, _, rfl, h2, ?_, ?_, by rw [flat_drop h1 (Nat.le_refl _), List.drop_length]; exact h5⟩
  ·rw [List.length_append, flat_len h1]; omega
  ·rw [flat_take h1 (Nat.le_refl _), List.take_length]
theorem Grow.slx {J : JH} {x : IV} {sz : Nat} {X : List (List IV)} (h : Grow J x sz X.flatten) (h1 : ∀ e ∈ X, e.length = sz) (hsz : 0 < sz) : SlX J x sz X := by
 refine ⟨h1, ?_⟩
 have hl := flat_len h1
 rcases h with ⟨rfl, h2⟩ | ⟨b, v, n, full, rfl, h2, h3, h4, h5⟩
 ·left
  rw [h2] at hl
  have : X.length = 0 := by
   rcases Nat.eq_zero_or_pos X.length with h | h
   ·exact h
   ·have := Nat.mul_pos h hsz; simp at hl; omega
  exact ⟨rfl, List.eq_nil_of_length_eq_zero this⟩
 ·right
  have hn : n = X.length := by
   have : (full.take (n * sz)).length = n * sz := by rw [List.length_take]; omega
   rw [h4, hl] at this
   exact (Nat.eq_of_mul_eq_mul_right hsz this).symm
  subst hn
  refine ⟨b, v, full.drop (X.length * sz), rfl, ?_, h5⟩
  rw [h2, ← h4, List.take_append_drop]
mutual
theorem irefs_pure : (v : IV) → ipure v = true → irefs v = []
 | .sc _, _ => by simp [irefs]
 | .agg cs, h => by
  simp only [ipure] at h
  simp only [irefs]
  exact irefsL_pure cs h
 | .tup cs, h => by
  simp only [ipure] at h
  simp only [irefs]
  exact irefsL_pure cs h
 | .fn _ a b, h => by
  simp only [ipure, Bool.and_eq_true] at h
  simp only [irefs, irefsL_pure a h.1, irefsL_pure b h.2, List.append_nil]
 | .lst _ _ _, _ => by simp [irefs]
 | .rptr _ _, _ => by simp [irefs]
 | .ptr _ _ _, h => by simp [ipure] at h
 | .map _, h => by simp [ipure] at h
 | .sl _ _ _ _ _ _, h => by simp [ipure] at h
theorem irefsL_pure : (l : List IV) → ipureL l = true → irefsL l = []
 | [], _ => by simp [irefsL]
 | v :: l, h => by
  simp only [ipureL, Bool.and_eq_true] at h
  simp only [irefsL, irefs_pure v h.1, irefsL_pure l h.2, List.append_nil]
end
end Go.Proofs.Ytmgfkifjgajclaa.G
namespace Go.Proofs.Ytmgfkifjgajclaa.G
open Go
theorem ofInt_nat {w : Nat} (x : BitVec w) : BitVec.ofInt w (x.toNat : Int) = x := by
 rw [BitVec.ofInt_natCast]; simp
theorem wrapB8 (x : BitVec 8) : IntKind.u8.wrap (x.toNat : Int) = x.toNat := by
 have := x.isLt
 simp only [IntKind.wrap, IntKind.bits, IntKind.signed]; simp; omega
theorem wrapB16 (x : BitVec 16) : IntKind.u16.wrap (x.toNat : Int) = x.toNat := by
 have := x.isLt
 simp only [IntKind.wrap, IntKind.bits, IntKind.signed]; simp; omega
theorem wrapB32 (x : BitVec 32) : IntKind.u32.wrap (x.toNat : Int) = x.toNat := by
 have := x.isLt
 simp only [IntKind.wrap, IntKind.bits, IntKind.signed]; simp; omega
theorem wrapB64 (x : BitVec 64) : IntKind.u64.wrap (x.toNat : Int) = x.toNat := by
 have := x.isLt
 simp only [IntKind.wrap, IntKind.bits, IntKind.signed]; simp; omega
theorem beqB {w : Nat} (x y : BitVec w) : ((x.toNat : Int) == (y.toNat : Int)) = (x == y) := by
 rw [Bool.eq_iff_iff]; simp only [beq_iff_eq]; exact ⟨fun h => BitVec.eq_of_toNat_eq (by omega), fun h => by rw [h]⟩
theorem bneB {w : Nat} (x y : BitVec w) : ((x.toNat : Int) != (y.toNat : Int)) = (x != y) := by
 simp only [bne, beqB]
theorem beqB0 {w : Nat} (x : BitVec w) : ((x.toNat : Int) == 0) = (x == 0#w) := by
 have := beqB x 0#w; simpa using this
theorem bneB0 {w : Nat} (x : BitVec w) : ((x.toNat : Int) != 0) = (x != 0#w) := by
 simp only [bne, beqB0]
theorem wrapS {i n : Nat} (h : i < n) (hn : n ≤ 9223372036854775807) : IntKind.i64.wrap ((i : Int) + 1) = ((i + 1 : Nat) : Int) := by
 rw [wrap_i64 (by omega) (by omega)]; omega
abbrev nI (n : Nat) : IV := .int .i64 (n : Int)
theorem WP_range {f : List IV → JH → Option (Out IV × JH)} {l0 l1 : Nat} {b : L} {K : Out IV → JH → Prop} (hne : l0 ≠ l1) (N : Nat) (S : Nat → List IV → JH → Prop)
  (hs : ∀ i vs J, S i vs J → i ≤ N → ∀ K' : Out IV → JH → Prop, (i < N → ∀ ws J', S (i + 1) ws J' → K' (.goto l1 ws) J') → (∀ ws J', WP (dn BI b ws J') K → K' (.goto l0 ws) J') → (∀ ws J', K (.ret ws) J' → K' (.ret ws) J') → WP (f vs J) K')
  {vs : List IV} {J : JH} (h0 : S 0 vs J) : WP (onJoinD l0 (iter f l1 vs J) b) K :=
 WP_loop hne (fun m vs J => ∃ i, i + m = N ∧ S i vs J) (by
  rintro m vs J ⟨i, hi, h⟩ K' g1 g2 g3
  exact hs i vs J h (by omega) K' (fun hl ws J' h' => g1 ws (m - 1) J' (by omega) ⟨i + 1, by omega, h'⟩) g2 g3) N vs J ⟨0, by omega, h0⟩
theorem WP_rangeT {f : List IV → JH → Option (Out IV × JH)} {l1 : Nat} {K : Out IV → JH → Prop} (N : Nat) (S : Nat → List IV → JH → Prop)
  (hs : ∀ i vs J, S i vs J → i ≤ N → ∀ K' : Out IV → JH → Prop, (i < N → ∀ ws J', S (i + 1) ws J' → K' (.goto l1 ws) J') → (∀ j ws J', j ≠ l1 → K (.goto j ws) J' → K' (.goto j ws) J') → (∀ ws J', K (.ret ws) J' → K' (.ret ws) J') → WP (f vs J) K')
  {vs : List IV} {J : JH} (h0 : S 0 vs J) : WP (iter f l1 vs J) K :=
 WP_iter (fun m vs J => ∃ i, i + m = N ∧ S i vs J) (by
  rintro m vs J ⟨i, hi, h⟩ K' g1 g2 g3
  exact hs i vs J h (by omega) K' (fun hl ws J' h' => g1 ws (m - 1) J' (by omega) ⟨i + 1, by omega, h'⟩) g2 g3) N vs J ⟨0, by omega, h0⟩
theorem pcN (n : Nat) {f : FuncId} {args : List IV} {v u : IV} {J : JH} (h : icall BI n f args #[] = some (v, J)) (hf : frz J DEP v = some u) : pc BI f args = some u := by unfold pc; rw [lim_ic h]; exact hf
theorem convB8 {w : Nat} (x : BitVec w) : IntKind.u8.wrap (x.toNat : Int) = ((x.setWidth 8).toNat : Int) := by
 simp only [IntKind.wrap, IntKind.bits, IntKind.signed, BitVec.toNat_setWidth]; simp
theorem convB16 {w : Nat} (x : BitVec w) : IntKind.u16.wrap (x.toNat : Int) = ((x.setWidth 16).toNat : Int) := by
 simp only [IntKind.wrap, IntKind.bits, IntKind.signed, BitVec.toNat_setWidth]; simp
theorem convB32 {w : Nat} (x : BitVec w) : IntKind.u32.wrap (x.toNat : Int) = ((x.setWidth 32).toNat : Int) := by
 simp only [IntKind.wrap, IntKind.bits, IntKind.signed, BitVec.toNat_setWidth]; simp
theorem convB64 {w : Nat} (x : BitVec w) : IntKind.u64.wrap (x.toNat : Int) = ((x.setWidth 64).toNat : Int) := by
 simp only [IntKind.wrap, IntKind.bits, IntKind.signed, BitVec.toNat_setWidth]; simp
theorem i64B8 (x : BitVec 8) : IntKind.i64.wrap (x.toNat : Int) = (x.toNat : Int) := by have := x.isLt; exact wrap_i64 (by omega) (by omega)
theorem i64B16 (x : BitVec 16) : IntKind.i64.wrap (x.toNat : Int) = (x.toNat : Int) := by have := x.isLt; exact wrap_i64 (by omega) (by omega)
theorem i64B32 (x : BitVec 32) : IntKind.i64.wrap (x.toNat : Int) = (x.toNat : Int) := by have := x.isLt; exact wrap_i64 (by omega) (by omega)
theorem fdivB {w : Nat} (x : BitVec w) (k : Nat) : (x.toNat : Int).fdiv (2 ^ k) = ((x >>> k).toNat : Int) := by
 rw [show ((2 : Int) ^ k) = ((2 ^ k : Nat) : Int) by simp, Int.fdiv_eq_ediv_of_nonneg _ (Int.natCast_nonneg _), BitVec.toNat_ushiftRight, Nat.shiftRight_eq_div_pow]
 simp
theorem addB32 (x y : BitVec 32) : IntKind.u32.wrap ((x.toNat : Int) + (y.toNat : Int)) = ((x + y).toNat : Int) := by
 simp only [IntKind.wrap, IntKind.bits, IntKind.signed, BitVec.toNat_add]; simp
theorem mulB32 (x y : BitVec 32) : IntKind.u32.wrap ((x.toNat : Int) * (y.toNat : Int)) = ((x * y).toNat : Int) := by
 simp only [IntKind.wrap, IntKind.bits, IntKind.signed, BitVec.toNat_mul]; simp
theorem addB32c (x : BitVec 32) (c : Nat) : IntKind.u32.wrap ((x.toNat : Int) + no_index (@OfNat.ofNat Int c instOfNat)) = ((x + BitVec.ofNat 32 c).toNat : Int) := by
 simp only [IntKind.wrap, IntKind.bits, IntKind.signed, BitVec.toNat_add, BitVec.toNat_ofNat]
 show ((x.toNat : Int) + (c : Int)) % _ = _
 simp
theorem mulB32c (x : BitVec 32) (c : Nat) : IntKind.u32.wrap ((x.toNat : Int) * no_index (@OfNat.ofNat Int c instOfNat)) = ((x * BitVec.ofNat 32 c).toNat : Int) := by
 simp only [IntKind.wrap, IntKind.bits, IntKind.signed, BitVec.toNat_mul, BitVec.toNat_ofNat]
 show ((x.toNat : Int) * (c : Int)) % _ = _
 simp [Int.mul_emod]
theorem shlB32 (x : BitVec 32) (k : Nat) : IntKind.u32.wrap ((x.toNat : Int) * 2 ^ k) = ((x <<< k).toNat : Int) := by
 simp only [IntKind.wrap, IntKind.bits, IntKind.signed, BitVec.toNat_shiftLeft, Nat.shiftLeft_eq]; simp
theorem shlB64 (x : BitVec 64) (k : Nat) : IntKind.u64.wrap ((x.toNat : Int) * 2 ^ k) = ((x <<< k).toNat : Int) := by
 simp only [IntKind.wrap, IntKind.bits, IntKind.signed, BitVec.toNat_shiftLeft, Nat.shiftLeft_eq]; simp
theorem shl1B32 (k : Nat) : IntKind.u32.wrap (1 * 2 ^ k) = ((1#32 <<< k).toNat : Int) := shlB32 1#32 k
theorem shl1B64 (k : Nat) : IntKind.u64.wrap (1 * 2 ^ k) = ((1#64 <<< k).toNat : Int) := shlB64 1#64 k
theorem notB32 (x : BitVec 32) : aun .xor (.int .u32 (x.toNat : Int)) = some (.int .u32 ((~~~x).toNat : Int)) := by
 have e : BitVec.ofInt 32 IntKind.u32.max = BitVec.allOnes 32 := by decide
 simp only [aun, IntKind.bits, IntKind.signed, Bool.false_eq_true, if_false, ofInt_nat]
 rw [e]
 have e2 : BitVec.allOnes 32 ^^^ x = ~~~x := BitVec.allOnes_xor
 have e3 := wrapB32 (~~~x)
 rw [← e2] at e3 ⊢
 exact congrArg (fun z => some (Value.int .u32 z)) e3
theorem band8 (x y : BitVec 8) : abin .and (.int .u8 (x.toNat : Int)) (.int .u8 (y.toNat : Int)) = some (.int .u8 ((x &&& y).toNat : Int)) := by
 show some (Value.int .u8 (IntKind.u8.wrap ((BitVec.ofInt 8 (x.toNat : Int) &&& BitVec.ofInt 8 (y.toNat : Int)).toNat : Int))) = _
 rw [ofInt_nat, ofInt_nat, wrapB8]
theorem band8c (x : BitVec 8) (c : Nat) : abin .and (.int .u8 (x.toNat : Int)) (.int .u8 (no_index (@OfNat.ofNat Int c instOfNat))) = some (.int .u8 ((x &&& BitVec.ofNat 8 c).toNat : Int)) := by
 show some (Value.int .u8 (IntKind.u8.wrap ((BitVec.ofInt 8 (x.toNat : Int) &&& BitVec.ofInt 8 ((c : Nat) : Int)).toNat : Int))) = _
 rw [ofInt_nat, BitVec.ofInt_natCast, wrapB8]
theorem bor8 (x y : BitVec 8) : abin .or (.int .u8 (x.toNat : Int)) (.int .u8 (y.toNat : Int)) = some (.int .u8 ((x ||| y).toNat : Int)) := by
 show some (Value.int .u8 (IntKind.u8.wrap ((BitVec.ofInt 8 (x.toNat : Int) ||| BitVec.ofInt 8 (y.toNat : Int)).toNat : Int))) = _
 rw [ofInt_nat, ofInt_nat, wrapB8]
theorem bor8c (x : BitVec 8) (c : Nat) : abin .or (.int .u8 (x.toNat : Int)) (.int .u8 (no_index (@OfNat.ofNat Int c instOfNat))) = some (.int .u8 ((x ||| BitVec.ofNat 8 c).toNat : Int)) := by
 show some (Value.int .u8 (IntKind.u8.wrap ((BitVec.ofInt 8 (x.toNat : Int) ||| BitVec.ofInt 8 ((c : Nat) : Int)).toNat : Int))) = _
 rw [ofInt_nat, BitVec.ofInt_natCast, wrapB8]
theorem bxor8 (x y : BitVec 8) : abin .xor (.int .u8 (x.toNat : Int)) (.int .u8 (y.toNat : Int)) = some (.int .u8 ((x ^^^ y).toNat : Int)) := by
 show some (Value.int .u8 (IntKind.u8.wrap ((BitVec.ofInt 8 (x.toNat : Int) ^^^ BitVec.ofInt 8 (y.toNat : Int)).toNat : Int))) = _
 rw [ofInt_nat, ofInt_nat, wrapB8]
theorem bxor8c (x : BitVec 8) (c : Nat) : abin .xor (.int .u8 (x.toNat : Int)) (.int .u8 (no_index (@OfNat.ofNat Int c instOfNat))) = some (.int .u8 ((x ^^^ BitVec.ofNat 8 c).toNat : Int)) := by
 show some (Value.int .u8 (IntKind.u8.wrap ((BitVec.ofInt 8 (x.toNat : Int) ^^^ BitVec.ofInt 8 ((c : Nat) : Int)).toNat : Int))) = _
 rw [ofInt_nat, BitVec.ofInt_natCast, wrapB8]
theorem bandNot8 (x y : BitVec 8) : abin .andNot (.int .u8 (x.toNat : Int)) (.int .u8 (y.toNat : Int)) = some (.int .u8 ((x &&& ~~~y).toNat : Int)) := by
 show some (Value.int .u8 (IntKind.u8.wrap ((BitVec.ofInt 8 (x.toNat : Int) &&& ~~~ BitVec.ofInt 8 (y.toNat : Int)).toNat : Int))) = _
 rw [ofInt_nat, ofInt_nat, wrapB8]
theorem band16 (x y : BitVec 16) : abin .and (.int .u16 (x.toNat : Int)) (.int .u16 (y.toNat : Int)) = some (.int .u16 ((x &&& y).toNat : Int)) := by
 show some (Value.int .u16 (IntKind.u16.wrap ((BitVec.ofInt 16 (x.toNat : Int) &&& BitVec.ofInt 16 (y.toNat : Int)).toNat : Int))) = _
 rw [ofInt_nat, ofInt_nat, wrapB16]
theorem band16c (x : BitVec 16) (c : Nat) : abin .and (.int .u16 (x.toNat : Int)) (.int .u16 (no_index (@OfNat.ofNat Int c instOfNat))) = some (.int .u16 ((x &&& BitVec.ofNat 16 c).toNat : Int)) := by
 show some (Value.int .u16 (IntKind.u16.wrap ((BitVec.ofInt 16 (x.toNat : Int) &&& BitVec.ofInt 16 ((c : Nat) : Int)).toNat : Int))) = _
 rw [ofInt_nat, BitVec.ofInt_natCast, wrapB16]
theorem bor16 (x y : BitVec 16) : abin .or (.int .u16 (x.toNat : Int)) (.int .u16 (y.toNat : Int)) = some (.int .u16 ((x ||| y).toNat : Int)) := by
 show some (Value.int .u16 (IntKind.u16.wrap ((BitVec.ofInt 16 (x.toNat : Int) ||| BitVec.ofInt 16 (y.toNat : Int)).toNat : Int))) = _
 rw [ofInt_nat, ofInt_nat, wrapB16]
theorem bor16c (x : BitVec 16) (c : Nat) : abin .or (.int .u16 (x.toNat : Int)) (.int .u16 (no_index (@OfNat.ofNat Int c instOfNat))) = some (.int .u16 ((x ||| BitVec.ofNat 16 c).toNat : Int)) := by
 show some (Value.int .u16 (IntKind.u16.wrap ((BitVec.ofInt 16 (x.toNat : Int) ||| BitVec.ofInt 16 ((c : Nat) : Int)).toNat : Int))) = _
 rw [ofInt_nat, BitVec.ofInt_natCast, wrapB16]
theorem bxor16 (x y : BitVec 16) : abin .xor (.int .u16 (x.toNat : Int)) (.int .u16 (y.toNat : Int)) = some (.int .u16 ((x ^^^ y).toNat : Int)) := by
 show some (Value.int .u16 (IntKind.u16.wrap ((BitVec.ofInt 16 (x.toNat : Int) ^^^ BitVec.ofInt 16 (y.toNat : Int)).toNat : Int))) = _
 rw [ofInt_nat, ofInt_nat, wrapB16]
theorem bxor16c (x : BitVec 16) (c : Nat) : abin .xor (.int .u16 (x.toNat : Int)) (.int .u16 (no_index (@OfNat.ofNat Int c instOfNat))) = some (.int .u16 ((x ^^^ BitVec.ofNat 16 c).toNat : Int)) := by
 show some (Value.int .u16 (IntKind.u16.wrap ((BitVec.ofInt 16 (x.toNat : Int) ^^^ BitVec.ofInt 16 ((c : Nat) : Int)).toNat : Int))) = _
 rw [ofInt_nat, BitVec.ofInt_natCast, wrapB16]
theorem bandNot16 (x y : BitVec 16) : abin .andNot (.int .u16 (x.toNat : Int)) (.int .u16 (y.toNat : Int)) = some (.int .u16 ((x &&& ~~~y).toNat : Int)) := by
 show some (Value.int .u16 (IntKind.u16.wrap ((BitVec.ofInt 16 (x.toNat : Int) &&& ~~~ BitVec.ofInt 16 (y.toNat : Int)).toNat : Int))) = _
 rw [ofInt_nat, ofInt_nat, wrapB16]
theorem band32 (x y : BitVec 32) : abin .and (.int .u32 (x.toNat : Int)) (.int .u32 (y.toNat : Int)) = some (.int .u32 ((x &&& y).toNat : Int)) := by
 show some (Value.int .u32 (IntKind.u32.wrap ((BitVec.ofInt 32 (x.toNat : Int) &&& BitVec.ofInt 32 (y.toNat : Int)).toNat : Int))) = _
 rw [ofInt_nat, ofInt_nat, wrapB32]
theorem band32c (x : BitVec 32) (c : Nat) : abin .and (.int .u32 (x.toNat : Int)) (.int .u32 (no_index (@OfNat.ofNat Int c instOfNat))) = some (.int .u32 ((x &&& BitVec.ofNat 32 c).toNat : Int)) := by
 show some (Value.int .u32 (IntKind.u32.wrap ((BitVec.ofInt 32 (x.toNat : Int) &&& BitVec.ofInt 32 ((c : Nat) : Int)).toNat : Int))) = _
 rw [ofInt_nat, BitVec.ofInt_natCast, wrapB32]
theorem bor32 (x y : BitVec 32) : abin .or (.int .u32 (x.toNat : Int)) (.int .u32 (y.toNat : Int)) = some (.int .u32 ((x ||| y).toNat : Int)) := by
 show some (Value.int .u32 (IntKind.u32.wrap ((BitVec.ofInt 32 (x.toNat : Int) ||| BitVec.ofInt 32 (y.toNat : Int)).toNat : Int))) = _
 rw [ofInt_nat, ofInt_nat, wrapB32]
theorem bor32c (x : BitVec 32) (c : Nat) : abin .or (.int .u32 (x.toNat : Int)) (.int .u32 (no_index (@OfNat.ofNat Int c instOfNat))) = some (.int .u32 ((x ||| BitVec.ofNat 32 c).toNat : Int)) := by
 show some (Value.int .u32 (IntKind.u32.wrap ((BitVec.ofInt 32 (x.toNat : Int) ||| BitVec.ofInt 32 ((c : Nat) : Int)).toNat : Int))) = _
 rw [ofInt_nat, BitVec.ofInt_natCast, wrapB32]
theorem bxor32 (x y : BitVec 32) : abin .xor (.int .u32 (x.toNat : Int)) (.int .u32 (y.toNat : Int)) = some (.int .u32 ((x ^^^ y).toNat : Int)) := by
 show some (Value.int .u32 (IntKind.u32.wrap ((BitVec.ofInt 32 (x.toNat : Int) ^^^ BitVec.ofInt 32 (y.toNat : Int)).toNat : Int))) = _
 rw [ofInt_nat, ofInt_nat, wrapB32]
theorem bxor32c (x : BitVec 32) (c : Nat) : abin .xor (.int .u32 (x.toNat : Int)) (.int .u32 (no_index (@OfNat.ofNat Int c instOfNat))) = some (.int .u32 ((x ^^^ BitVec.ofNat 32 c).toNat : Int)) := by
 show some (Value.int .u32 (IntKind.u32.wrap ((BitVec.ofInt 32 (x.toNat : Int) ^^^ BitVec.ofInt 32 ((c : Nat) : Int)).toNat : Int))) = _
 rw [ofInt_nat, BitVec.ofInt_natCast, wrapB32]
theorem bandNot32 (x y : BitVec 32) : abin .andNot (.int .u32 (x.toNat : Int)) (.int .u32 (y.toNat : Int)) = some (.int .u32 ((x &&& ~~~y).toNat : Int)) := by
 show some (Value.int .u32 (IntKind.u32.wrap ((BitVec.ofInt 32 (x.toNat : Int) &&& ~~~ BitVec.ofInt 32 (y.toNat : Int)).toNat : Int))) = _
 rw [ofInt_nat, ofInt_nat, wrapB32]
theorem band64 (x y : BitVec 64) : abin .and (.int .u64 (x.toNat : Int)) (.int .u64 (y.toNat : Int)) = some (.int .u64 ((x &&& y).toNat : Int)) := by
 show some (Value.int .u64 (IntKind.u64.wrap ((BitVec.ofInt 64 (x.toNat : Int) &&& BitVec.ofInt 64 (y.toNat : Int)).toNat : Int))) = _
 rw [ofInt_nat, ofInt_nat, wrapB64]
theorem band64c (x : BitVec 64) (c : Nat) : abin .and (.int .u64 (x.toNat : Int)) (.int .u64 (no_index (@OfNat.ofNat Int c instOfNat))) = some (.int .u64 ((x &&& BitVec.ofNat 64 c).toNat : Int)) := by
 show some (Value.int .u64 (IntKind.u64.wrap ((BitVec.ofInt 64 (x.toNat : Int) &&& BitVec.ofInt 64 ((c : Nat) : Int)).toNat : Int))) = _
 rw [ofInt_nat, BitVec.ofInt_natCast, wrapB64]
theorem bor64 (x y : BitVec 64) : abin .or (.int .u64 (x.toNat : Int)) (.int .u64 (y.toNat : Int)) = some (.int .u64 ((x ||| y).toNat : Int)) := by
 show some (Value.int .u64 (IntKind.u64.wrap ((BitVec.ofInt 64 (x.toNat : Int) ||| BitVec.ofInt 64 (y.toNat : Int)).toNat : Int))) = _
 rw [ofInt_nat, ofInt_nat, wrapB64]
theorem bor64c (x : BitVec 64) (c : Nat) : abin .or (.int .u64 (x.toNat : Int)) (.int .u64 (no_index (@OfNat.ofNat Int c instOfNat))) = some (.int .u64 ((x ||| BitVec.ofNat 64 c).toNat : Int)) := by
 show some (Value.int .u64 (IntKind.u64.wrap ((BitVec.ofInt 64 (x.toNat : Int) ||| BitVec.ofInt 64 ((c : Nat) : Int)).toNat : Int))) = _
 rw [ofInt_nat, BitVec.ofInt_natCast, wrapB64]
theorem bxor64 (x y : BitVec 64) : abin .xor (.int .u64 (x.toNat : Int)) (.int .u64 (y.toNat : Int)) = some (.int .u64 ((x ^^^ y).toNat : Int)) := by
 show some (Value.int .u64 (IntKind.u64.wrap ((BitVec.ofInt 64 (x.toNat : Int) ^^^ BitVec.ofInt 64 (y.toNat : Int)).toNat : Int))) = _
 rw [ofInt_nat, ofInt_nat, wrapB64]
theorem bxor64c (x : BitVec 64) (c : Nat) : abin .xor (.int .u64 (x.toNat : Int)) (.int .u64 (no_index (@OfNat.ofNat Int c instOfNat))) = some (.int .u64 ((x ^^^ BitVec.ofNat 64 c).toNat : Int)) := by
 show some (Value.int .u64 (IntKind.u64.wrap ((BitVec.ofInt 64 (x.toNat : Int) ^^^ BitVec.ofInt 64 ((c : Nat) : Int)).toNat : Int))) = _
 rw [ofInt_nat, BitVec.ofInt_natCast, wrapB64]
theorem bandNot64 (x y : BitVec 64) : abin .andNot (.int .u64 (x.toNat : Int)) (.int .u64 (y.toNat : Int)) = some (.int .u64 ((x &&& ~~~y).toNat : Int)) := by
 show some (Value.int .u64 (IntKind.u64.wrap ((BitVec.ofInt 64 (x.toNat : Int) &&& ~~~ BitVec.ofInt 64 (y.toNat : Int)).toNat : Int))) = _
 rw [ofInt_nat, ofInt_nat, wrapB64]
def copyF (sz : Nat) (d s : IV) (J : JH) : Option (IV × JH) := icopy sz d s J
theorem iexec_copy {B : IBook} {C : ICall} {md : Md} {ρ : List IV} {sz : Nat} {d s : Operand} {J : JH} : iexec B C md ρ (.copy sz d s) J = copyF sz (evI ρ d) (evI ρ s) J := rfl
theorem push_set {α : Type} (J : Array α) (X Y : α) : (J.push X).setIfInBounds J.size Y = J.push Y := by
 rcases J with ⟨l⟩
 simp
theorem push_get {α : Type} (J : Array α) (X : α) : (J.push X)[J.size]? = some X := by simp
theorem set_get {α : Type} (J : Array α) {b : Nat} {X : α} (h : b < J.size) : (J.setIfInBounds b X)[b]? = some X := by simp [h]
theorem set_set {α : Type} (J : Array α) {b : Nat} {X Y : α} : (J.setIfInBounds b X).setIfInBounds b Y = J.setIfInBounds b Y := by
 rcases J with ⟨l⟩
 simp
theorem pcK (n : Nat) {f : FuncId} {args : List IV} {u : IV} (h : (match icall BI n f args #[] with | some (v, J) => frz J DEP v | none => none) = some u) : pc BI f args = some u := by
 split at h
 ·rename_i v J hc
  exact pcN n hc h
 ·simp at h
theorem s11 (n : Nat) : n + 1 + 1 = n + 2 := rfl
theorem s12 (n : Nat) : n + 1 + 2 = n + 3 := rfl
theorem s13 (n : Nat) : n + 1 + 3 = n + 4 := rfl
theorem s22 (n : Nat) : n + 2 + 2 = n + 4 := rfl
theorem s23 (n : Nat) : n + 2 + 3 = n + 5 := rfl
theorem s21 (n : Nat) : n + 2 + 1 = n + 3 := rfl
theorem s31 (n : Nat) : n + 3 + 1 = n + 4 := rfl
theorem s41 (n : Nat) : n + 4 + 1 = n + 5 := rfl
theorem s51 (n : Nat) : n + 5 + 1 = n + 6 := rfl
theorem ite_max {a b : Int} : (if b > a then b else a) = max a b := by split <;> omega
theorem ite_min {a b : Int} : (if b < a then b else a) = min a b := by split <;> omega
attribute [go_sem] push_set push_get Array.size_push Array.size_setIfInBounds set_set
attribute [go_sem] s11 s12 s13 s22 s23 s21 s31 s41 s51 Nat.left_eq_add Nat.add_eq_left List.contains_cons
attribute [go_sem ↓] iexec_copy notB32 band8 band8c bor8 bor8c bxor8 bxor8c bandNot8 band16 band16c bor16 bor16c bxor16 bxor16c bandNot16 band32 band32c bor32 bor32c bxor32 bxor32c bandNot32 band64 band64c bor64 bor64c bxor64 bxor64c bandNot64
attribute [go_sem] lt_UNK not_UNK_le UNK_pos one_lt_UNK Nat.min_eq_left Nat.min_eq_right convB8 convB16 convB32 convB64 i64B8 i64B16 i64B32 fdivB addB32 mulB32 addB32c mulB32c shlB32 shlB64 shl1B32 shl1B64 BitVec.setWidth_eq ite_max ite_min ofInt_nat wrapB8 wrapB16 wrapB32 wrapB64 beqB bneB beqB0 bneB0
theorem Fr.mark (J : JH) (l S : List Nat) (h : ∀ d ∈ l, d ∈ S) : Fr J (markA J l) S := ⟨by rw [markA_size]; exact Nat.le_refl _, fun d _ hn => by rw [markA_get, if_neg fun hm => hn (h d hm)]⟩
theorem Grow.shows {J : JH} {s : IV} {sz : Nat} {cs : List IV} (h : Grow J s sz cs) (hp : ipureL cs = true) : ∀ d ∈ Go.Proofs.Ytmgfkifjgajclaa.G.shows J DEP s, d ∈ blk s := by
 rcases h with ⟨rfl, rfl⟩ | ⟨b, v, n, full, rfl, h1, h2, h3, h4⟩
 ·intro d hd
  rw [shows_pure J DEP rfl] at hd
  cases hd
 ·intro d hd
  rw [frz12, shows_sl (cs := cs) (by simp [ird, h1, h2, h3]) hp] at hd
  exact hd
theorem Grow.fr0 {J J' : JH} {x : IV} {sz : Nat} {cs : List IV} (h : Grow J x sz cs) (hf : Fr J J' []) : Grow J' x sz cs := h.fr hf (by simp)
theorem frz_aggL {J : JH} {k : Nat} {l us : List IV} (h : l.mapM (frz J k) = some us) : frz J (k + 1) (.agg l) = some (.agg us) := by
 by_cases hp : ipureL l = true
 ·rw [frzL_pure J k hp] at h
  cases h
  exact frz_pure J _ (by simp only [ipure, hp])
 ·rw [frz_agg (by simpa using hp), h]; rfl
theorem grp_flat {sz : Nat} : ∀ {X : List (List IV)}, (∀ x ∈ X, x.length = sz) → grp sz X.length X.flatten = X.map (mkE sz)
 | [], _ => rfl
 | x :: X, h => by
  have hx := h x (by simp)
  rw [List.length_cons, grp, List.flatten_cons, List.take_append_of_le_length (by omega), List.take_of_length_le (by omega), List.drop_append_of_le_length (by omega), List.drop_of_length_le (by omega), List.nil_append, grp_flat fun y hy => h y (by simp [hy])]
  rfl
def sliceF (sz : Nat) (x : IV) (lo hi mx : Option IV) (J : JH) : Option (IV × JH) := ilift (islice sz x lo hi mx) J
theorem iexec_slice {B : IBook} {C : ICall} {md : Md} {ρ : List IV} {sz : Nat} {x : Operand} {lo hi mx : Option Operand} {J : JH} : iexec B C md ρ (.slice sz x lo hi mx) J = sliceF sz (evI ρ x) (lo.map (evI ρ)) (hi.map (evI ρ)) (mx.map (evI ρ)) J := rfl
theorem sliceF_sl {sz b v o n c z : Nat} {lo hi mx : Option IV} {J : JH} : sliceF sz (.sl b v o n c z) lo hi mx J = ilift (islice sz (.sl b v o n c z) lo hi mx) J := rfl
attribute [go_sem ↓] iexec_slice
attribute [go_sem] sliceF_sl
theorem Ls.slice {sz : Nat} {x : IV} {xs : List IV} (hx : Ls sz x xs) {h : Nat} (hh : h ≤ xs.length) : ∃ y, (∀ J, sliceF sz x none (some (nI h)) none J = some (y, J)) ∧ Ls sz y (xs.take h) := by
 rcases hx with ⟨rfl, rfl⟩ | ⟨f, rfl⟩
 ·obtain rfl : h = 0 := by simpa using hh
  exact ⟨_, fun J => rfl, .nil⟩
 ·refine ⟨_, fun J => ?_, .lst (f := (f && h == xs.length))⟩
  simp only [sliceF, islice, Option.isSome_none, Option.isNone_some, Bool.and_false, bne_self_eq_false, Bool.or_false, Bool.false_eq_true, if_false, ibnd, iasNat, asNat, Int.natCast_nonneg, if_true, Int.toNat_natCast, Nat.zero_le, hh, Nat.le_refl, true_and, List.drop_zero, Nat.sub_zero, Bool.false_and, Bool.false_or, Option.isNone_none, Bool.and_true, false_implies, and_self, ilift]
def Clip (J J' : JH) (s : IV) (sz : Nat) (X : List (List IV)) : Prop := (X = [] ∧ s = .lst sz true [] ∧ J' = J) ∨ (X ≠ [] ∧ s = .sl J.size 0 0 X.length (UNK + sz) sz ∧ J' = J.push (.cells 0 X.flatten false))
theorem Clip.frz {J J' : JH} {s : IV} {sz : Nat} {X : List (List IV)} (h : Clip J J' s sz X) (hsz : 0 < sz) (hX : ∀ x ∈ X, x.length = sz) (hp : ipureL X.flatten = true) (ho : X.flatten.all ione = true) : ∃ u, (∀ k, frz J' (k + 1) s = some u) ∧ Ls sz u (X.map (mkE sz)) := by
 rcases h with ⟨rfl, rfl, rfl⟩ | ⟨hne, rfl, rfl⟩
 ·exact ⟨_, fun k => frz_pure _ _ rfl, .lst⟩
 ·refine ⟨.lst sz (X.length == UNK + sz && decide (UNK + sz < UNK)) (X.map (mkE sz)), fun k => ?_, .lst⟩
  rw [frz_sl (cs := X.flatten) hsz ?_ hp ho, grp_flat hX]
  simp only [ird, push_get, true_and, Nat.zero_add, List.drop_zero]
  rw [if_pos (by rw [flat_len hX]; exact Nat.le_refl _), List.take_of_length_le (by rw [flat_len hX]; exact Nat.le_refl _)]
theorem Clip.fr {J J' : JH} {s : IV} {sz : Nat} {X : List (List IV)} (h : Clip J J' s sz X) : Fr J J' [] := by
 rcases h with ⟨_, _, rfl⟩ | ⟨_, _, rfl⟩
 ·exact .refl _ _
 ·exact .push _ _ _
theorem Clip.lenF {J J' : JH} {s : IV} {sz : Nat} {X : List (List IV)} (h : Clip J J' s sz X) (J2 : JH) : Go.Proofs.Ytmgfkifjgajclaa.G.lenF false s J2 = some (nI X.length, J2) := by
 rcases h with ⟨rfl, rfl, _⟩ | ⟨_, rfl, _⟩ <;> rfl
attribute [go_sem] Nat.add_lt_add_iff_left Nat.add_left_cancel_iff Nat.lt_add_right_iff_pos Array.getElem?_push Array.getElem?_setIfInBounds
theorem gpN {J : JH} {d : Nat} {X : IB} {r : Option IB} (h : d < J.size) (k : J[d]? = r) : (J.push X)[d]? = r := by rw [Array.getElem?_push, if_neg (by omega)]; exact k
def RawX (J : JH) (s : IV) (sz : Nat) (X : List (List IV)) : Prop := ∃ b v c, s = .sl b v 0 X.length c sz ∧ J[b]? = some (.cells v X.flatten false)
theorem RawX.fr {J J' : JH} {s : IV} {sz : Nat} {X : List (List IV)} {S : List Nat} (h : RawX J s sz X) (hf : Fr J J' S) (hs : ∀ d ∈ blk s, d ∉ S) : RawX J' s sz X := by
 obtain ⟨b, v, c, rfl, hb⟩ := h
 exact ⟨b, v, c, rfl, by rw [hf.2 b (lt_get hb) (hs b (by simp [blk, blkOf]))]; exact hb⟩
theorem RawX.low {J : JH} {s : IV} {sz : Nat} {X : List (List IV)} (h : RawX J s sz X) : ∀ d ∈ blk s, d < J.size := by
 obtain ⟨b, v, c, rfl, hb⟩ := h
 intro d hd; simp [blk, blkOf] at hd; subst hd; exact lt_get hb
theorem RawX.lenF {J : JH} {s : IV} {sz : Nat} {X : List (List IV)} (h : RawX J s sz X) (J2 : JH) : Go.Proofs.Ytmgfkifjgajclaa.G.lenF false s J2 = some (nI X.length, J2) := by
 obtain ⟨b, v, c, rfl, hb⟩ := h; rfl
theorem RawX.rd {J : JH} {b v c sz : Nat} {X : List (List IV)} (hb : J[b]? = some (.cells v X.flatten false)) (hX : ∀ x ∈ X, x.length = sz) : ird J b v 0 (X.length * sz) = some X.flatten := by
 have hl := flat_len hX
 simp only [ird, hb, true_and, Nat.zero_add, List.drop_zero]
 rw [if_pos (by omega), List.take_of_length_le (by omega)]
theorem RawX.frz {J : JH} {s : IV} {sz : Nat} {X : List (List IV)} (h : RawX J s sz X) (hsz : 0 < sz) (hX : ∀ x ∈ X, x.length = sz) (hp : ipureL X.flatten = true) (ho : X.flatten.all ione = true) : ∃ u, (∀ k, Go.Proofs.Ytmgfkifjgajclaa.G.frz J (k + 1) s = some u) ∧ Ls sz u (X.map (mkE sz)) := by
 obtain ⟨b, v, c, rfl, hb⟩ := h
 refine ⟨_, fun k => frz_sl hsz (RawX.rd (c := c) hb hX) hp ho, ?_⟩
 rw [grp_flat hX]; exact .lst
theorem RawX.shows {J : JH} {s : IV} {sz : Nat} {X : List (List IV)} (h : RawX J s sz X) (hX : ∀ x ∈ X, x.length = sz) (hp : ipureL X.flatten = true) : ∀ d ∈ Go.Proofs.Ytmgfkifjgajclaa.G.shows J DEP s, d ∈ blk s := by
 obtain ⟨b, v, c, rfl, hb⟩ := h
 intro d hd
 rw [frz12, shows_sl (RawX.rd (c := c) hb hX) hp] at hd
 exact hd
inductive FA (J : JH) (S : List Nat) : List IV → List IV → Prop where
 | nil : FA J S [] []
 | pure {v : IV} {vs us : List IV} : ipure v = true → FA J S vs us → FA J S (v :: vs) (v :: us)
 | raw {v u : IV} {vs us : List IV} : frz J DEP v = some u → (∀ d ∈ shows J DEP v, d ∈ S) → FA J S vs us → FA J S (v :: vs) (u :: us)
theorem FA.mapM {J : JH} {S : List Nat} {vs us : List IV} (h : FA J S vs us) : vs.mapM (frz J DEP) = some us := by
 induction h with
 | nil => rfl
 | pure hv _ ih => rw [List.mapM_cons, frz_pure J _ hv, ih]; rfl
 | raw hv _ _ ih => rw [List.mapM_cons, hv, ih]; rfl
def KeepC (J J' : JH) : Prop := ∀ (d w : Nat) (cs : List IV) (f : Bool), J[d]? = some (IB.cells w cs f) → ∃ f', J'[d]? = some (IB.cells w cs f')
theorem KeepC.refl (J : JH) : KeepC J J := fun d w cs f h => ⟨f, h⟩
theorem KeepC.mark (J : JH) (l : List Nat) : KeepC J (markA J l) := fun d w cs f h => by
 rw [markA_get]
 by_cases hm : d ∈ l
 ·rw [if_pos hm, h]; exact ⟨true, rfl⟩
 ·rw [if_neg hm, h]; exact ⟨f, rfl⟩
theorem KeepC.rd {J J' : JH} (h : KeepC J J') {b v off n : Nat} {cs : List IV} (hr : ird J b v off n = some cs) : ird J' b v off n = some cs := by
 unfold ird at hr ⊢
 cases hb : J[b]? with
 | none => rw [hb] at hr; simp at hr
 | some X =>
  rw [hb] at hr
  cases X with
  | cells w c f =>
   obtain ⟨f', hf⟩ := h b w c f hb
   rw [hf]; exact hr
  | map _ _ => simp at hr
theorem KeepC.cells {J J' : JH} (h : KeepC J J') {sz : Nat} {x : IV} {cs : List IV} (hr : iscells J sz x = some cs) : iscells J' sz x = some cs := by
 unfold iscells at hr ⊢
 split at hr
 ·exact hr
 ·exact h.rd hr
 ·exact hr
 ·cases hr
def ones (κ : IntKind) (l : List Int) : List (List IV) := l.map fun v => [IV.int κ v]
abbrev uB (P : List Int) : List IV := P.map (IV.int .u8)
def Own (J : JH) (c : Nat) (x : IV) : Prop := ∃ q P, x = .sl q 0 0 P.length (UNK + 1) 1 ∧ J[q]? = some (.cells 0 (uB P) false) ∧ q ≠ c
theorem Own.fr {J J' : JH} {c : Nat} {x : IV} (h : Own J c x) (hf : Fr J J' [c]) : Own J' c x := by
 obtain ⟨q, P, rfl, h1, h2⟩ := h
 exact ⟨q, P, rfl, by rw [hf.2 q (lt_get h1) (by simpa using h2)]; exact h1, h2⟩
theorem Own.one {J : JH} {c : Nat} {x : IV} (h : Own J c x) : ione x = true := by
 obtain ⟨q, P, rfl, _⟩ := h; rfl
theorem Own.icells {J : JH} {c : Nat} {x : IV} (h : Own J c x) : icells x = [x] := by
 obtain ⟨q, P, rfl, _⟩ := h; rfl
theorem uB_rd {J : JH} {q : Nat} {P : List Int} (h : J[q]? = some (.cells 0 (uB P) false)) : ird J q 0 0 (P.length * 1) = some (uB P) := by
 simp only [ird, h, true_and, Nat.zero_add, List.drop_zero, Nat.mul_one]
 rw [if_pos (by simp), List.take_of_length_le (by simp)]
theorem uB_frz {J : JH} {q cap : Nat} {P : List Int} (h : J[q]? = some (.cells 0 (uB P) false)) (k : Nat) : frz J (k + 1) (.sl q 0 0 P.length cap 1) = some (.lst 1 (P.length == cap && decide (cap < UNK)) (uB P)) := by
 rw [frz_sl (by decide) (uB_rd h) ints_pure ints_ione, grp1' (by simp)]
theorem Own.frz {J : JH} {c : Nat} {x : IV} (h : Own J c x) : ∃ u, (∀ k, Go.Proofs.Ytmgfkifjgajclaa.G.frz J (k + 1) x = some u) ∧ ione u = true := by
 obtain ⟨q, P, rfl, h1, _⟩ := h
 exact ⟨_, fun k => uB_frz h1 k, rfl⟩
theorem fits1b {n : Nat} (h : n ≤ 1000000) : fits n 1 = true := by
 simp only [fits, maxLen, Bool.and_eq_true, decide_eq_true_eq]; omega
theorem CloneB_ok {J : JH} {q : Nat} {P : List Int} (h : J[q]? = some (.cells 0 (uB P) false)) (hne : P ≠ []) (hb : P.length ≤ 1000000) :
  RP (ic BI F_bytes_Clone [.sl q 0 0 P.length (UNK + 1) 1] J) fun v J' => v = .sl J.size 0 0 P.length (UNK + 1) 1 ∧ J' = J.push (.cells 0 (uB P) false) := by
 refine RP_run fn_bytes_Clone rfl fun K hK => ?_
 unfold l_bytes_Clone
 have hn : ¬ P.length = 0 := fun h => hne (List.eq_nil_of_length_eq_zero h)
 have ha : appF 1 1 (.lst 1 true []) (.sl q 0 0 P.length (UNK + 1) 1) J = some (.sl J.size 0 0 P.length (UNK + 1) 1, J.push (.cells 0 (uB P) false)) := by
  have hr := uB_rd h
  have hfit : fits P.length 1 = true := fits1b hb
  rw [Nat.mul_one] at hr
  simp [appF, iappend, iscells, hr, ilen, hn, hfit]
  exact fun a ha => rfl
 simp -implicitDefEqProofs only [go_sem, go_sem_proc, iisNil, ipureL, grp, ↓ha]
 exact hK _ _ ⟨rfl, rfl⟩
theorem JoinB_ok (J : JH) {f : Bool} {P : List Int} (hne : P ≠ []) (hb : P.length ≤ 1000000) :
  RP (ic BI F_ref01_Join [.lst 1 true [.lst 1 f (uB P)]] J) fun v J' => v = .sl J.size 0 0 P.length (UNK + 1) 1 ∧ J' = J.push (.cells 0 (uB P) false) := by
 refine RP_run fn_ref01_Join rfl fun K hK => ?_
 unfold l_ref01_Join
 have hn : ¬ P.length = 0 := fun h => hne (List.eq_nil_of_length_eq_zero h)
 have ha : appF 1 1 (.sc (.slice none 0 0)) (.lst 1 f (uB P)) J = some (.sl J.size 0 0 P.length (UNK + 1) 1, J.push (.cells 0 (uB P) false)) := by
  have hfit : fits P.length 1 = true := fits1b hb
  have hcl : (uB P).flatMap icells = uB P := ints_cells _
  simp [appF, iappend, iscells, ilen, hcl, show ¬ P = [] from hne, hfit]
  exact fun a ha => rfl
 simp -implicitDefEqProofs only [go_sem, go_sem_proc, lenF_lst, List.length_cons, List.length_nil, dn_loop]
 refine WP_range (by decide) 1 (fun i vs J' => vs = [if i = 0 then .sc (.slice none 0 0) else .sl J.size 0 0 P.length (UNK + 1) 1, .lst 1 true [.lst 1 f (uB P)], nI 1, nI i] ∧ J' = if i = 0 then J else J.push (.cells 0 (uB P) false)) ?_ ⟨rfl, rfl⟩
 rintro i vs J1 ⟨rfl, rfl⟩ hi K1 g1 g2 g3
 unfold l_ref01_Join_k0
 by_cases h0 : i = 0
 ·subst h0
  simp -implicitDefEqProofs only [go_sem, go_sem_proc, show (((0 : Nat) : Int) < ((1 : Nat) : Int)) by decide, iaddrF_lst, iasNat, asNat, ↓ha, show IntKind.i64.wrap (((0 : Nat) : Int) + 1) = ((1 : Nat) : Int) by decide]
  exact g1 (by decide) _ _ ⟨rfl, rfl⟩
 ·obtain rfl : i = 1 := by omega
  simp -implicitDefEqProofs only [go_sem, go_sem_proc, show ¬ (((1 : Nat) : Int) < ((1 : Nat) : Int)) by decide]
  refine g2 _ _ ?_
  unfold l_ref01_Join_k1
  simp -implicitDefEqProofs only [go_sem, go_sem_proc]
  exact hK _ _ ⟨rfl, rfl⟩
def encY (Y : List (IV × Int)) : List (List IV) := Y.map fun y => [y.1, .int .i64 y.2]
theorem encY_2 (Y : List (IV × Int)) : ∀ e ∈ encY Y, e.length = 2 := by
 intro e he
 obtain ⟨y, _, rfl⟩ := List.mem_map.1 he
 rfl
theorem encY_len (Y : List (IV × Int)) : (encY Y).length = Y.length := by simp [encY]
theorem encY_at {Y : List (IV × Int)} {i : Nat} (h : i < Y.length) (h' : i < (encY Y).length) : (encY Y)[i] = [Y[i].1, .int .i64 Y[i].2] := by simp [encY]
theorem gone_ok (y : IV × Int) (h : ione y.1 = true) : pc BI F_wire_Wire_Take_1 [.agg [y.1, .int .i64 y.2]] = some (.bool (decide (y.2 < 0))) := by
 refine pcE fn_wire_Wire_Take_1 rfl fun K hK => ?_
 unfold l_wire_Wire_Take_1
 simp -implicitDefEqProofs only [dn_ret, dn_goto, iexec, evI_0, evI_succ, evI_int, evI_bool, evI_nilsl, evI_nilp, List.cons_append, List.nil_append, scal2_sc, abin, aun, ilift_some, Option.map_some, Option.map_none, decide_eq_true_eq, List.map_cons, List.map_nil, reduceIte, if_true, if_false, Bool.false_eq_true, inew, iload, istore, iwr, ird, icells, ione, one, List.getElem?_toArray, List.getElem?_cons_zero, List.getElem?_cons_succ, List.push_toArray, List.size_toArray, List.length_cons, List.length_nil, List.setIfInBounds_toArray, List.set_cons_zero, List.set_cons_succ, isplice_cons, List.drop_succ_cons, List.drop_zero, List.take_succ_cons, List.take_zero, List.drop_nil, List.take_nil, List.append_nil, List.all_cons, List.all_nil, Bool.and_true, Bool.true_and, Bool.and_self, Nat.zero_add, Nat.add_zero, Nat.reduceAdd, Nat.reduceLeDiff, Nat.reduceMul, Nat.le_refl, true_and, and_true, and_self, List.getElem?_nil, BI_zc, BI_zv, BI_co, zcT, zvT, coT, not_true_eq_false, not_false_eq_true, Bool.not_true, Bool.not_false, stepI', wantsI, ifill, rawB, allC1, ievs, Nat.reduceEqDiff, itup, Nat.le_add_left, Nat.le_add_right, iaggEq, List.foldl, iminI, iminF, imin2, min2, iisNil, isNil, ilen, Option.isNone_none, Option.isNone_some, Nat.zero_le, decide_true, decide_false, ireps, List.replicate, List.flatten_cons, List.flatten_nil, ichk, itouch, ctouch, ilooks, isame, untouched, Option.isSome_some, Bool.or_true, Bool.true_or, List.contains_nil, Int.reduceLT, Int.reduceLE, blkOf, IntKind.bits, iasNat, asNat, Int.toNat_natCast, Int.natCast_nonneg, List.length_map, Int.reduceToNat, iscells, ibnd, islice, capOf, Option.isSome_none, Bool.false_and, Bool.and_false, Bool.or_false, Bool.false_or, bne_self_eq_false, Nat.not_lt_zero, Nat.mul_one, Nat.one_mul, Nat.zero_mul, Nat.mul_zero, beq_self_eq_true, Nat.sub_zero, Nat.reduceSub, List.length_set, false_implies, implies_true, forall_const, ↓dnW_oca, Nat.reduceLT, evI_fn, Nat.zero_lt_one, dnW_o, dnW_om, dnW_oc, dnW_ite, dnW_join, thenD_some, thenD_ite, onIfD_bool, onJoinD_out, onJoinD_ret, onJoinD_ite, Int.reduceEq, WP_some, WP_ite, byOut_goto, byOut_ret, ↓iexec_len, ↓iexec_iaddr, ↓iexec_append, ↓iexec_store, storeF_ptr, lenF_nil, lenF_lst, lenF_sl, lenF_str, iaddrF_sl, iaddrF_lst, ↓h]
 exact hK _ _ (frzE rfl rfl)
def Yow (J : JH) (c : Nat) (Y : List (IV × Int)) : Prop := ∀ y ∈ Y, Own J c y.1
theorem Yow.fr {J J' : JH} {c : Nat} {Y : List (IV × Int)} (h : Yow J c Y) (hf : Fr J J' [c]) : Yow J' c Y := fun y hy => (h y hy).fr hf
theorem gone_call {J : JH} {c : Nat} {y : IV × Int} (h : Own J c y.1) : doCall (ic BI) .pure F_wire_Wire_Take_1 [.agg [y.1, .int .i64 y.2]] J = some (.bool (decide (y.2 < 0)), J) := by
 obtain ⟨u, hu, ho⟩ := h.frz
 have ha : [IV.agg [y.1, .int .i64 y.2]].mapM (Go.Proofs.Ytmgfkifjgajclaa.G.frz J DEP) = some [.agg [u, .int .i64 y.2]] := by
  have h1 : Go.Proofs.Ytmgfkifjgajclaa.G.frz J DEP (.agg [y.1, .int .i64 y.2]) = some (.agg [u, .int .i64 y.2]) := by
   rw [frz12]
   exact frz_aggL (k := 11) (by rw [List.mapM_cons, List.mapM_cons, hu 10, frz_pure (v := IV.int .i64 y.2) _ _ rfl]; rfl)
  rw [List.mapM_cons, h1]; rfl
 rw [dcf ha (gone_ok (u, y.2) ho), if_pos (show iscal (IV.bool (decide (y.2 < 0))) = true from rfl)]
theorem load2 {Y : List (IV × Int)} {full rest : List IV} (hf : full = (encY Y).flatten ++ rest) {i : Nat} (h : i < Y.length) : (full.drop (i * 2)).take 2 = [Y[i].1, .int .i64 Y[i].2] ∧ i * 2 + 2 ≤ full.length := by
 subst hf
 refine ⟨?_, ?_⟩
 ·rw [flat_at (encY_2 Y) (by rw [encY_len]; exact h), encY_at h]
 ·rw [List.length_append, flat_len (encY_2 Y), encY_len]; omega
theorem md119 : BI.md F_wire_Wire_Take_1 = .pure := rfl
theorem index_step (c v : Nat) (Y : List (IV × Int)) (full rest : List IV) (hf : full = (encY Y).flatten ++ rest) (i : Nat) (hi : i ≤ Y.length) (hb : Y.length ≤ 1000000) (J : JH) (hY : Yow J c Y) (hJ : J[c]? = some (.cells v full false)) (K : Out IV → JH → Prop)
  (h0 : i = Y.length → K (.goto 0 []) J)
  (h1 : ∀ (h : i < Y.length), Y[i].2 < 0 → K (.ret [.int .i64 (i : Int)]) J)
  (h2 : ∀ (h : i < Y.length), ¬ Y[i].2 < 0 → K (.goto 1 [.sl c v 0 Y.length (UNK + 2) 2, .fn F_wire_Wire_Take_1 [] [], .int .i64 ((Y.length : Nat) : Int), .int .i64 ((i + 1 : Nat) : Int)]) J) :
  WP (dn BI l_slices_IndexFunc_Lwire_waiting_wire_waiting_k0 [.sl c v 0 Y.length (UNK + 2) 2, .fn F_wire_Wire_Take_1 [] [], .int .i64 ((Y.length : Nat) : Int), .int .i64 (i : Int)] J) K := by
 by_cases h : i < Y.length
 ·have hw : IntKind.i64.wrap ((i : Int) + 1) = ((i + 1 : Nat) : Int) := by rw [wrap_i64 (by omega) (by omega)]; omega
  obtain ⟨e1, e2⟩ := load2 hf h
  have hg := gone_call (hY _ (List.getElem_mem h))
  unfold l_slices_IndexFunc_Lwire_waiting_wire_waiting_k0
  simp -implicitDefEqProofs only [dn_ret, dn_goto, iexec, evI_0, evI_succ, evI_int, evI_bool, evI_nilsl, evI_nilp, List.cons_append, List.nil_append, scal2_sc, abin, aun, ilift_some, Option.map_some, Option.map_none, decide_eq_true_eq, List.map_cons, List.map_nil, reduceIte, if_true, if_false, Bool.false_eq_true, inew, iload, istore, iwr, ird, icells, ione, one, List.getElem?_toArray, List.getElem?_cons_zero, List.getElem?_cons_succ, List.push_toArray, List.size_toArray, List.length_cons, List.length_nil, List.setIfInBounds_toArray, List.set_cons_zero, List.set_cons_succ, isplice_cons, List.drop_succ_cons, List.drop_zero, List.take_succ_cons, List.take_zero, List.drop_nil, List.take_nil, List.append_nil, List.all_cons, List.all_nil, Bool.and_true, Bool.true_and, Bool.and_self, Nat.zero_add, Nat.add_zero, Nat.reduceAdd, Nat.reduceLeDiff, Nat.reduceMul, Nat.le_refl, true_and, and_true, and_self, List.getElem?_nil, BI_zc, BI_zv, BI_co, zcT, zvT, coT, not_true_eq_false, not_false_eq_true, Bool.not_true, Bool.not_false, stepI', wantsI, ifill, rawB, allC1, ievs, Nat.reduceEqDiff, itup, Nat.le_add_left, Nat.le_add_right, iaggEq, List.foldl, iminI, iminF, imin2, min2, iisNil, isNil, ilen, Option.isNone_none, Option.isNone_some, Nat.zero_le, decide_true, decide_false, ireps, List.replicate, List.flatten_cons, List.flatten_nil, ichk, itouch, ctouch, ilooks, isame, untouched, Option.isSome_some, Bool.or_true, Bool.true_or, List.contains_nil, Int.reduceLT, Int.reduceLE, blkOf, IntKind.bits, iasNat, asNat, Int.toNat_natCast, Int.natCast_nonneg, List.length_map, Int.reduceToNat, iscells, ibnd, islice, capOf, Option.isSome_none, Bool.false_and, Bool.and_false, Bool.or_false, Bool.false_or, bne_self_eq_false, Nat.not_lt_zero, Nat.mul_one, Nat.one_mul, Nat.zero_mul, Nat.mul_zero, beq_self_eq_true, Nat.sub_zero, Nat.reduceSub, List.length_set, false_implies, implies_true, forall_const, ↓dnW_oca, Nat.reduceLT, evI_fn, Nat.zero_lt_one, dnW_o, dnW_om, dnW_oc, dnW_ite, dnW_join, thenD_some, thenD_ite, onIfD_bool, onJoinD_out, onJoinD_ret, onJoinD_ite, Int.reduceEq, WP_some, WP_ite, byOut_goto, byOut_ret, ↓iexec_len, ↓iexec_iaddr, ↓iexec_append, ↓iexec_store, storeF_ptr, lenF_nil, lenF_lst, lenF_sl, lenF_str, iaddrF_sl, iaddrF_lst, show ((i : Int) < (Y.length : Int)) by omega, h, hJ, e1, e2, md119, hg]
  by_cases hl : Y[i].2 < 0
  ·simp -implicitDefEqProofs only [dn_ret, dn_goto, iexec, evI_0, evI_succ, evI_int, evI_bool, evI_nilsl, evI_nilp, List.cons_append, List.nil_append, scal2_sc, abin, aun, ilift_some, Option.map_some, Option.map_none, decide_eq_true_eq, List.map_cons, List.map_nil, reduceIte, if_true, if_false, Bool.false_eq_true, inew, iload, istore, iwr, ird, icells, ione, one, List.getElem?_toArray, List.getElem?_cons_zero, List.getElem?_cons_succ, List.push_toArray, List.size_toArray, List.length_cons, List.length_nil, List.setIfInBounds_toArray, List.set_cons_zero, List.set_cons_succ, isplice_cons, List.drop_succ_cons, List.drop_zero, List.take_succ_cons, List.take_zero, List.drop_nil, List.take_nil, List.append_nil, List.all_cons, List.all_nil, Bool.and_true, Bool.true_and, Bool.and_self, Nat.zero_add, Nat.add_zero, Nat.reduceAdd, Nat.reduceLeDiff, Nat.reduceMul, Nat.le_refl, true_and, and_true, and_self, List.getElem?_nil, BI_zc, BI_zv, BI_co, zcT, zvT, coT, not_true_eq_false, not_false_eq_true, Bool.not_true, Bool.not_false, stepI', wantsI, ifill, rawB, allC1, ievs, Nat.reduceEqDiff, itup, Nat.le_add_left, Nat.le_add_right, iaggEq, List.foldl, iminI, iminF, imin2, min2, iisNil, isNil, ilen, Option.isNone_none, Option.isNone_some, Nat.zero_le, decide_true, decide_false, ireps, List.replicate, List.flatten_cons, List.flatten_nil, ichk, itouch, ctouch, ilooks, isame, untouched, Option.isSome_some, Bool.or_true, Bool.true_or, List.contains_nil, Int.reduceLT, Int.reduceLE, blkOf, IntKind.bits, iasNat, asNat, Int.toNat_natCast, Int.natCast_nonneg, List.length_map, Int.reduceToNat, iscells, ibnd, islice, capOf, Option.isSome_none, Bool.false_and, Bool.and_false, Bool.or_false, Bool.false_or, bne_self_eq_false, Nat.not_lt_zero, Nat.mul_one, Nat.one_mul, Nat.zero_mul, Nat.mul_zero, beq_self_eq_true, Nat.sub_zero, Nat.reduceSub, List.length_set, false_implies, implies_true, forall_const, ↓dnW_oca, Nat.reduceLT, evI_fn, Nat.zero_lt_one, dnW_o, dnW_om, dnW_oc, dnW_ite, dnW_join, thenD_some, thenD_ite, onIfD_bool, onJoinD_out, onJoinD_ret, onJoinD_ite, Int.reduceEq, WP_some, WP_ite, byOut_goto, byOut_ret, ↓iexec_len, ↓iexec_iaddr, ↓iexec_append, ↓iexec_store, storeF_ptr, lenF_nil, lenF_lst, lenF_sl, lenF_str, iaddrF_sl, iaddrF_lst, hl]; exact h1 h hl
  ·simp -implicitDefEqProofs only [dn_ret, dn_goto, iexec, evI_0, evI_succ, evI_int, evI_bool, evI_nilsl, evI_nilp, List.cons_append, List.nil_append, scal2_sc, abin, aun, ilift_some, Option.map_some, Option.map_none, decide_eq_true_eq, List.map_cons, List.map_nil, reduceIte, if_true, if_false, Bool.false_eq_true, inew, iload, istore, iwr, ird, icells, ione, one, List.getElem?_toArray, List.getElem?_cons_zero, List.getElem?_cons_succ, List.push_toArray, List.size_toArray, List.length_cons, List.length_nil, List.setIfInBounds_toArray, List.set_cons_zero, List.set_cons_succ, isplice_cons, List.drop_succ_cons, List.drop_zero, List.take_succ_cons, List.take_zero, List.drop_nil, List.take_nil, List.append_nil, List.all_cons, List.all_nil, Bool.and_true, Bool.true_and, Bool.and_self, Nat.zero_add, Nat.add_zero, Nat.reduceAdd, Nat.reduceLeDiff, Nat.reduceMul, Nat.le_refl, true_and, and_true, and_self, List.getElem?_nil, BI_zc, BI_zv, BI_co, zcT, zvT, coT, not_true_eq_false, not_false_eq_true, Bool.not_true, Bool.not_false, stepI', wantsI, ifill, rawB, allC1, ievs, Nat.reduceEqDiff, itup, Nat.le_add_left, Nat.le_add_right, iaggEq, List.foldl, iminI, iminF, imin2, min2, iisNil, isNil, ilen, Option.isNone_none, Option.isNone_some, Nat.zero_le, decide_true, decide_false, ireps, List.replicate, List.flatten_cons, List.flatten_nil, ichk, itouch, ctouch, ilooks, isame, untouched, Option.isSome_some, Bool.or_true, Bool.true_or, List.contains_nil, Int.reduceLT, Int.reduceLE, blkOf, IntKind.bits, iasNat, asNat, Int.toNat_natCast, Int.natCast_nonneg, List.length_map, Int.reduceToNat, iscells, ibnd, islice, capOf, Option.isSome_none, Bool.false_and, Bool.and_false, Bool.or_false, Bool.false_or, bne_self_eq_false, Nat.not_lt_zero, Nat.mul_one, Nat.one_mul, Nat.zero_mul, Nat.mul_zero, beq_self_eq_true, Nat.sub_zero, Nat.reduceSub, List.length_set, false_implies, implies_true, forall_const, ↓dnW_oca, Nat.reduceLT, evI_fn, Nat.zero_lt_one, dnW_o, dnW_om, dnW_oc, dnW_ite, dnW_join, thenD_some, thenD_ite, onIfD_bool, onJoinD_out, onJoinD_ret, onJoinD_ite, Int.reduceEq, WP_some, WP_ite, byOut_goto, byOut_ret, ↓iexec_len, ↓iexec_iaddr, ↓iexec_append, ↓iexec_store, storeF_ptr, lenF_nil, lenF_lst, lenF_sl, lenF_str, iaddrF_sl, iaddrF_lst, hl, hw]; exact h2 h hl
 ·unfold l_slices_IndexFunc_Lwire_waiting_wire_waiting_k0
  simp -implicitDefEqProofs only [dn_ret, dn_goto, iexec, evI_0, evI_succ, evI_int, evI_bool, evI_nilsl, evI_nilp, List.cons_append, List.nil_append, scal2_sc, abin, aun, ilift_some, Option.map_some, Option.map_none, decide_eq_true_eq, List.map_cons, List.map_nil, reduceIte, if_true, if_false, Bool.false_eq_true, inew, iload, istore, iwr, ird, icells, ione, one, List.getElem?_toArray, List.getElem?_cons_zero, List.getElem?_cons_succ, List.push_toArray, List.size_toArray, List.length_cons, List.length_nil, List.setIfInBounds_toArray, List.set_cons_zero, List.set_cons_succ, isplice_cons, List.drop_succ_cons, List.drop_zero, List.take_succ_cons, List.take_zero, List.drop_nil, List.take_nil, List.append_nil, List.all_cons, List.all_nil, Bool.and_true, Bool.true_and, Bool.and_self, Nat.zero_add, Nat.add_zero, Nat.reduceAdd, Nat.reduceLeDiff, Nat.reduceMul, Nat.le_refl, true_and, and_true, and_self, List.getElem?_nil, BI_zc, BI_zv, BI_co, zcT, zvT, coT, not_true_eq_false, not_false_eq_true, Bool.not_true, Bool.not_false, stepI', wantsI, ifill, rawB, allC1, ievs, Nat.reduceEqDiff, itup, Nat.le_add_left, Nat.le_add_right, iaggEq, List.foldl, iminI, iminF, imin2, min2, iisNil, isNil, ilen, Option.isNone_none, Option.isNone_some, Nat.zero_le, decide_true, decide_false, ireps, List.replicate, List.flatten_cons, List.flatten_nil, ichk, itouch, ctouch, ilooks, isame, untouched, Option.isSome_some, Bool.or_true, Bool.true_or, List.contains_nil, Int.reduceLT, Int.reduceLE, blkOf, IntKind.bits, iasNat, asNat, Int.toNat_natCast, Int.natCast_nonneg, List.length_map, Int.reduceToNat, iscells, ibnd, islice, capOf, Option.isSome_none, Bool.false_and, Bool.and_false, Bool.or_false, Bool.false_or, bne_self_eq_false, Nat.not_lt_zero, Nat.mul_one, Nat.one_mul, Nat.zero_mul, Nat.mul_zero, beq_self_eq_true, Nat.sub_zero, Nat.reduceSub, List.length_set, false_implies, implies_true, forall_const, ↓dnW_oca, Nat.reduceLT, evI_fn, Nat.zero_lt_one, dnW_o, dnW_om, dnW_oc, dnW_ite, dnW_join, thenD_some, thenD_ite, onIfD_bool, onJoinD_out, onJoinD_ret, onJoinD_ite, Int.reduceEq, WP_some, WP_ite, byOut_goto, byOut_ret, ↓iexec_len, ↓iexec_iaddr, ↓iexec_append, ↓iexec_store, storeF_ptr, lenF_nil, lenF_lst, lenF_sl, lenF_str, iaddrF_sl, iaddrF_lst, show ¬ ((i : Int) < (Y.length : Int)) by omega]
  exact h0 (by omega)
theorem index_ok (c v : Nat) (Y : List (IV × Int)) (full rest : List IV) (hf : full = (encY Y).flatten ++ rest) (hb : Y.length ≤ 1000000) (J : JH) (hY : Yow J c Y) (hJ : J[c]? = some (.cells v full false)) :
  RP (ic BI F_slices_IndexFunc_Lwire_waiting_wire_waiting [.sl c v 0 Y.length (UNK + 2) 2, .fn F_wire_Wire_Take_1 [] []] J) fun r J' => J' = J ∧ ((r = .int .i64 (-1) ∧ ∀ y ∈ Y, ¬ y.2 < 0) ∨ ∃ i, ∃ (h : i < Y.length), r = .int .i64 (i : Int) ∧ (∀ y ∈ Y.take i, ¬ y.2 < 0) ∧ Y[i].2 < 0) := by
 refine RP_run fn_slices_IndexFunc_Lwire_waiting_wire_waiting rfl fun K hK => ?_
 unfold l_slices_IndexFunc_Lwire_waiting_wire_waiting
 simp -implicitDefEqProofs only [dn_ret, dn_goto, iexec, evI_0, evI_succ, evI_int, evI_bool, evI_nilsl, evI_nilp, List.cons_append, List.nil_append, scal2_sc, abin, aun, ilift_some, Option.map_some, Option.map_none, decide_eq_true_eq, List.map_cons, List.map_nil, reduceIte, if_true, if_false, Bool.false_eq_true, inew, iload, istore, iwr, ird, icells, ione, one, List.getElem?_toArray, List.getElem?_cons_zero, List.getElem?_cons_succ, List.push_toArray, List.size_toArray, List.length_cons, List.length_nil, List.setIfInBounds_toArray, List.set_cons_zero, List.set_cons_succ, isplice_cons, List.drop_succ_cons, List.drop_zero, List.take_succ_cons, List.take_zero, List.drop_nil, List.take_nil, List.append_nil, List.all_cons, List.all_nil, Bool.and_true, Bool.true_and, Bool.and_self, Nat.zero_add, Nat.add_zero, Nat.reduceAdd, Nat.reduceLeDiff, Nat.reduceMul, Nat.le_refl, true_and, and_true, and_self, List.getElem?_nil, BI_zc, BI_zv, BI_co, zcT, zvT, coT, not_true_eq_false, not_false_eq_true, Bool.not_true, Bool.not_false, stepI', wantsI, ifill, rawB, allC1, ievs, Nat.reduceEqDiff, itup, Nat.le_add_left, Nat.le_add_right, iaggEq, List.foldl, iminI, iminF, imin2, min2, iisNil, isNil, ilen, Option.isNone_none, Option.isNone_some, Nat.zero_le, decide_true, decide_false, ireps, List.replicate, List.flatten_cons, List.flatten_nil, ichk, itouch, ctouch, ilooks, isame, untouched, Option.isSome_some, Bool.or_true, Bool.true_or, List.contains_nil, Int.reduceLT, Int.reduceLE, blkOf, IntKind.bits, iasNat, asNat, Int.toNat_natCast, Int.natCast_nonneg, List.length_map, Int.reduceToNat, iscells, ibnd, islice, capOf, Option.isSome_none, Bool.false_and, Bool.and_false, Bool.or_false, Bool.false_or, bne_self_eq_false, Nat.not_lt_zero, Nat.mul_one, Nat.one_mul, Nat.zero_mul, Nat.mul_zero, beq_self_eq_true, Nat.sub_zero, Nat.reduceSub, List.length_set, false_implies, implies_true, forall_const, ↓dnW_oca, Nat.reduceLT, evI_fn, Nat.zero_lt_one, dnW_o, dnW_om, dnW_oc, dnW_ite, dnW_join, thenD_some, thenD_ite, onIfD_bool, onJoinD_out, onJoinD_ret, onJoinD_ite, Int.reduceEq, WP_some, WP_ite, byOut_goto, byOut_ret, ↓iexec_len, ↓iexec_iaddr, ↓iexec_append, ↓iexec_store, storeF_ptr, lenF_nil, lenF_lst, lenF_sl, lenF_str, iaddrF_sl, iaddrF_lst, dn_loop]
 refine WP_loop (by decide) (fun m vs J' => ∃ i : Nat, i + m = Y.length ∧ J' = J ∧ vs = [.sl c v 0 Y.length (UNK + 2) 2, .fn F_wire_Wire_Take_1 [] [], .int .i64 ((Y.length : Nat) : Int), .int .i64 (i : Int)] ∧ ∀ y ∈ Y.take i, ¬ y.2 < 0) ?_ Y.length _ _ ⟨0, by omega, rfl, rfl, by simp⟩
 rintro m vs J' ⟨i, hi, rfl, rfl, ha⟩ K1 g1 g2 g3
 refine index_step c v Y full rest hf i (by omega) hb _ hY hJ K1 (fun he => ?_) (fun h hl => ?_) (fun h hl => ?_)
 ·refine g2 _ _ ?_
  unfold l_slices_IndexFunc_Lwire_waiting_wire_waiting_k1
  simp -implicitDefEqProofs only [dn_ret, dn_goto, iexec, evI_0, evI_succ, evI_int, evI_bool, evI_nilsl, evI_nilp, List.cons_append, List.nil_append, scal2_sc, abin, aun, ilift_some, Option.map_some, Option.map_none, decide_eq_true_eq, List.map_cons, List.map_nil, reduceIte, if_true, if_false, Bool.false_eq_true, inew, iload, istore, iwr, ird, icells, ione, one, List.getElem?_toArray, List.getElem?_cons_zero, List.getElem?_cons_succ, List.push_toArray, List.size_toArray, List.length_cons, List.length_nil, List.setIfInBounds_toArray, List.set_cons_zero, List.set_cons_succ, isplice_cons, List.drop_succ_cons, List.drop_zero, List.take_succ_cons, List.take_zero, List.drop_nil, List.take_nil, List.append_nil, List.all_cons, List.all_nil, Bool.and_true, Bool.true_and, Bool.and_self, Nat.zero_add, Nat.add_zero, Nat.reduceAdd, Nat.reduceLeDiff, Nat.reduceMul, Nat.le_refl, true_and, and_true, and_self, List.getElem?_nil, BI_zc, BI_zv, BI_co, zcT, zvT, coT, not_true_eq_false, not_false_eq_true, Bool.not_true, Bool.not_false, stepI', wantsI, ifill, rawB, allC1, ievs, Nat.reduceEqDiff, itup, Nat.le_add_left, Nat.le_add_right, iaggEq, List.foldl, iminI, iminF, imin2, min2, iisNil, isNil, ilen, Option.isNone_none, Option.isNone_some, Nat.zero_le, decide_true, decide_false, ireps, List.replicate, List.flatten_cons, List.flatten_nil, ichk, itouch, ctouch, ilooks, isame, untouched, Option.isSome_some, Bool.or_true, Bool.true_or, List.contains_nil, Int.reduceLT, Int.reduceLE, blkOf, IntKind.bits, iasNat, asNat, Int.toNat_natCast, Int.natCast_nonneg, List.length_map, Int.reduceToNat, iscells, ibnd, islice, capOf, Option.isSome_none, Bool.false_and, Bool.and_false, Bool.or_false, Bool.false_or, bne_self_eq_false, Nat.not_lt_zero, Nat.mul_one, Nat.one_mul, Nat.zero_mul, Nat.mul_zero, beq_self_eq_true, Nat.sub_zero, Nat.reduceSub, List.length_set, false_implies, implies_true, forall_const, ↓dnW_oca, Nat.reduceLT, evI_fn, Nat.zero_lt_one, dnW_o, dnW_om, dnW_oc, dnW_ite, dnW_join, thenD_some, thenD_ite, onIfD_bool, onJoinD_out, onJoinD_ret, onJoinD_ite, Int.reduceEq, WP_some, WP_ite, byOut_goto, byOut_ret, ↓iexec_len, ↓iexec_iaddr, ↓iexec_append, ↓iexec_store, storeF_ptr, lenF_nil, lenF_lst, lenF_sl, lenF_str, iaddrF_sl, iaddrF_lst]
  refine hK _ _ ⟨rfl, .inl ⟨rfl, ?_⟩⟩
  rw [List.take_of_length_le (by omega)] at ha
  exact ha
 ·exact g3 _ _ (hK _ _ ⟨rfl, .inr ⟨i, h, rfl, ha, hl⟩⟩)
 ·refine g1 _ (m - 1) _ (by omega) ⟨i + 1, by omega, rfl, rfl, ?_⟩
  rw [List.take_succ_eq_append_getElem h]
  intro y hy
  rcases List.mem_append.1 hy with hy | hy
  ·exact ha y hy
  ·rw [List.mem_singleton] at hy; rw [hy]; exact hl
theorem encY_set {Y : List (IV × Int)} {i : Nat} {y : IV × Int} : (encY Y).set i [y.1, .int .i64 y.2] = encY (Y.set i y) := by simp [encY, List.map_set]
theorem store2 {Y : List (IV × Int)} {full rest : List IV} (hf : full = (encY Y).flatten ++ rest) {i : Nat} (h : i < Y.length) (y : IV × Int) : isplice full (i * 2) [y.1, .int .i64 y.2] = (encY (Y.set i y)).flatten ++ rest := by
 have := flat_splice (rest := rest) (vs := [y.1, .int .i64 y.2]) (k := 0) (encY_2 Y) (i := i) (by rw [encY_len]; exact h) (by simp)
 rw [Nat.add_zero] at this
 rw [hf, this, ← encY_set, encY_at h]
 rfl
theorem delete_step (c v : Nat) (Y : List (IV × Int)) (rest full : List IV) (hf : full = (encY Y).flatten ++ rest) (n : Nat) (hn : Y.length = n) (i j : Nat) (hij : i ≤ j) (hj : j ≤ n) (hb : Y.length ≤ 1000000) (J : JH) (hY : Yow J c Y) (hJ : J[c]? = some (.cells v full false)) (K : Out IV → JH → Prop)
  (h0 : j = n → K (.goto 0 [.sl c v 0 n (UNK + 2) 2, .int .i64 (i : Int)]) J)
  (h1 : ∀ (h : j < Y.length), Y[j].2 < 0 → ∀ J', Fr J J' [] → K (.goto 1 [.sl c v 0 n (UNK + 2) 2, .fn F_wire_Wire_Take_1 [] [], .int .i64 (i : Int), .int .i64 ((j + 1 : Nat) : Int)]) J')
  (h2 : ∀ (h : j < Y.length), ¬ Y[j].2 < 0 → ∀ J', J'[c]? = some (.cells v ((encY (Y.set i Y[j])).flatten ++ rest) false) → Fr J J' [c] → K (.goto 1 [.sl c v 0 n (UNK + 2) 2, .fn F_wire_Wire_Take_1 [] [], .int .i64 ((i + 1 : Nat) : Int), .int .i64 ((j + 1 : Nat) : Int)]) J') :
  WP (dn BI l_slices_DeleteFunc_Lwire_waiting_wire_waiting_k0 [.sl c v 0 n (UNK + 2) 2, .fn F_wire_Wire_Take_1 [] [], .int .i64 (i : Int), .int .i64 (j : Int)] J) K := by
 subst hn
 by_cases h : j < Y.length
 ·have hw : IntKind.i64.wrap ((j : Int) + 1) = ((j + 1 : Nat) : Int) := by rw [wrap_i64 (by omega) (by omega)]; omega
  have hw' : IntKind.i64.wrap ((i : Int) + 1) = ((i + 1 : Nat) : Int) := by rw [wrap_i64 (by omega) (by omega)]; omega
  have hi : i < Y.length := by omega
  obtain ⟨e1, e2⟩ := load2 hf h
  obtain ⟨_, e3⟩ := load2 hf hi
  have e4 := store2 hf hi Y[j]
  have hg := gone_call ((hY _ (List.getElem_mem h)).fr (Fr.push J (.cells 0 [Y[j].1, .int .i64 Y[j].2] false) [c]))
  have o1 := (hY _ (List.getElem_mem h)).one
  have hin := inb hJ
  unfold l_slices_DeleteFunc_Lwire_waiting_wire_waiting_k0
  by_cases hl : Y[j].2 < 0
  ·simp -implicitDefEqProofs only [dn_ret, dn_goto, iexec, evI_0, evI_succ, evI_int, evI_bool, evI_nilsl, evI_nilp, List.cons_append, List.nil_append, scal2_sc, abin, aun, ilift_some, Option.map_some, Option.map_none, decide_eq_true_eq, List.map_cons, List.map_nil, reduceIte, if_true, if_false, Bool.false_eq_true, inew, iload, istore, iwr, ird, icells, ione, one, List.getElem?_toArray, List.getElem?_cons_zero, List.getElem?_cons_succ, List.push_toArray, List.size_toArray, List.length_cons, List.length_nil, List.setIfInBounds_toArray, List.set_cons_zero, List.set_cons_succ, isplice_cons, List.drop_succ_cons, List.drop_zero, List.take_succ_cons, List.take_zero, List.drop_nil, List.take_nil, List.append_nil, List.all_cons, List.all_nil, Bool.and_true, Bool.true_and, Bool.and_self, Nat.zero_add, Nat.add_zero, Nat.reduceAdd, Nat.reduceLeDiff, Nat.reduceMul, Nat.le_refl, true_and, and_true, and_self, List.getElem?_nil, BI_zc, BI_zv, BI_co, zcT, zvT, coT, not_true_eq_false, not_false_eq_true, Bool.not_true, Bool.not_false, stepI', wantsI, ifill, rawB, allC1, ievs, Nat.reduceEqDiff, itup, Nat.le_add_left, Nat.le_add_right, iaggEq, List.foldl, iminI, iminF, imin2, min2, iisNil, isNil, ilen, Option.isNone_none, Option.isNone_some, Nat.zero_le, decide_true, decide_false, ireps, List.replicate, List.flatten_cons, List.flatten_nil, ichk, itouch, ctouch, ilooks, isame, untouched, Option.isSome_some, Bool.or_true, Bool.true_or, List.contains_nil, Int.reduceLT, Int.reduceLE, blkOf, IntKind.bits, iasNat, asNat, Int.toNat_natCast, Int.natCast_nonneg, List.length_map, Int.reduceToNat, iscells, ibnd, islice, capOf, Option.isSome_none, Bool.false_and, Bool.and_false, Bool.or_false, Bool.false_or, bne_self_eq_false, Nat.not_lt_zero, Nat.mul_one, Nat.one_mul, Nat.zero_mul, Nat.mul_zero, beq_self_eq_true, Nat.sub_zero, Nat.reduceSub, List.length_set, false_implies, implies_true, forall_const, ↓dnW_oca, Nat.reduceLT, evI_fn, Nat.zero_lt_one, dnW_o, dnW_om, dnW_oc, dnW_ite, dnW_join, thenD_some, thenD_ite, onIfD_bool, onJoinD_out, onJoinD_ret, onJoinD_ite, Int.reduceEq, WP_some, WP_ite, byOut_goto, byOut_ret, ↓iexec_len, ↓iexec_iaddr, ↓iexec_append, ↓iexec_store, storeF_ptr, lenF_nil, lenF_lst, lenF_sl, lenF_str, iaddrF_sl, iaddrF_lst, show ((j : Int) < (Y.length : Int)) by omega, h, hJ, e1, e2, md119, hg, ↓o1, push_set, Array.getElem?_push, Array.size_push, hin, hl, hw]
   exact h1 h hl _ (.push _ _ _)
  ·simp -implicitDefEqProofs only [dn_ret, dn_goto, iexec, evI_0, evI_succ, evI_int, evI_bool, evI_nilsl, evI_nilp, List.cons_append, List.nil_append, scal2_sc, abin, aun, ilift_some, Option.map_some, Option.map_none, decide_eq_true_eq, List.map_cons, List.map_nil, reduceIte, if_true, if_false, Bool.false_eq_true, inew, iload, istore, iwr, ird, icells, ione, one, List.getElem?_toArray, List.getElem?_cons_zero, List.getElem?_cons_succ, List.push_toArray, List.size_toArray, List.length_cons, List.length_nil, List.setIfInBounds_toArray, List.set_cons_zero, List.set_cons_succ, isplice_cons, List.drop_succ_cons, List.drop_zero, List.take_succ_cons, List.take_zero, List.drop_nil, List.take_nil, List.append_nil, List.all_cons, List.all_nil, Bool.and_true, Bool.true_and, Bool.and_self, Nat.zero_add, Nat.add_zero, Nat.reduceAdd, Nat.reduceLeDiff, Nat.reduceMul, Nat.le_refl, true_and, and_true, and_self, List.getElem?_nil, BI_zc, BI_zv, BI_co, zcT, zvT, coT, not_true_eq_false, not_false_eq_true, Bool.not_true, Bool.not_false, stepI', wantsI, ifill, rawB, allC1, ievs, Nat.reduceEqDiff, itup, Nat.le_add_left, Nat.le_add_right, iaggEq, List.foldl, iminI, iminF, imin2, min2, iisNil, isNil, ilen, Option.isNone_none, Option.isNone_some, Nat.zero_le, decide_true, decide_false, ireps, List.replicate, List.flatten_cons, List.flatten_nil, ichk, itouch, ctouch, ilooks, isame, untouched, Option.isSome_some, Bool.or_true, Bool.true_or, List.contains_nil, Int.reduceLT, Int.reduceLE, blkOf, IntKind.bits, iasNat, asNat, Int.toNat_natCast, Int.natCast_nonneg, List.length_map, Int.reduceToNat, iscells, ibnd, islice, capOf, Option.isSome_none, Bool.false_and, Bool.and_false, Bool.or_false, Bool.false_or, bne_self_eq_false, Nat.not_lt_zero, Nat.mul_one, Nat.one_mul, Nat.zero_mul, Nat.mul_zero, beq_self_eq_true, Nat.sub_zero, Nat.reduceSub, List.length_set, false_implies, implies_true, forall_const, ↓dnW_oca, Nat.reduceLT, evI_fn, Nat.zero_lt_one, dnW_o, dnW_om, dnW_oc, dnW_ite, dnW_join, thenD_some, thenD_ite, onIfD_bool, onJoinD_out, onJoinD_ret, onJoinD_ite, Int.reduceEq, WP_some, WP_ite, byOut_goto, byOut_ret, ↓iexec_len, ↓iexec_iaddr, ↓iexec_append, ↓iexec_store, storeF_ptr, lenF_nil, lenF_lst, lenF_sl, lenF_str, iaddrF_sl, iaddrF_lst, show ((j : Int) < (Y.length : Int)) by omega, h, hi, hJ, e1, e2, e3, e4, md119, hg, ↓o1, push_set, Array.getElem?_push, Array.size_push, hin, hl, hw, hw']
   refine h2 h hl _ ?_ ?_
   ·simp [Nat.lt_succ_of_lt (lt_get hJ)]
   ·exact Fr.trans (Fr.push _ _ [c]) (Fr.set _ _ (S := [c]) (by simp)) (by simp)
 ·unfold l_slices_DeleteFunc_Lwire_waiting_wire_waiting_k0
  simp -implicitDefEqProofs only [dn_ret, dn_goto, iexec, evI_0, evI_succ, evI_int, evI_bool, evI_nilsl, evI_nilp, List.cons_append, List.nil_append, scal2_sc, abin, aun, ilift_some, Option.map_some, Option.map_none, decide_eq_true_eq, List.map_cons, List.map_nil, reduceIte, if_true, if_false, Bool.false_eq_true, inew, iload, istore, iwr, ird, icells, ione, one, List.getElem?_toArray, List.getElem?_cons_zero, List.getElem?_cons_succ, List.push_toArray, List.size_toArray, List.length_cons, List.length_nil, List.setIfInBounds_toArray, List.set_cons_zero, List.set_cons_succ, isplice_cons, List.drop_succ_cons, List.drop_zero, List.take_succ_cons, List.take_zero, List.drop_nil, List.take_nil, List.append_nil, List.all_cons, List.all_nil, Bool.and_true, Bool.true_and, Bool.and_self, Nat.zero_add, Nat.add_zero, Nat.reduceAdd, Nat.reduceLeDiff, Nat.reduceMul, Nat.le_refl, true_and, and_true, and_self, List.getElem?_nil, BI_zc, BI_zv, BI_co, zcT, zvT, coT, not_true_eq_false, not_false_eq_true, Bool.not_true, Bool.not_false, stepI', wantsI, ifill, rawB, allC1, ievs, Nat.reduceEqDiff, itup, Nat.le_add_left, Nat.le_add_right, iaggEq, List.foldl, iminI, iminF, imin2, min2, iisNil, isNil, ilen, Option.isNone_none, Option.isNone_some, Nat.zero_le, decide_true, decide_false, ireps, List.replicate, List.flatten_cons, List.flatten_nil, ichk, itouch, ctouch, ilooks, isame, untouched, Option.isSome_some, Bool.or_true, Bool.true_or, List.contains_nil, Int.reduceLT, Int.reduceLE, blkOf, IntKind.bits, iasNat, asNat, Int.toNat_natCast, Int.natCast_nonneg, List.length_map, Int.reduceToNat, iscells, ibnd, islice, capOf, Option.isSome_none, Bool.false_and, Bool.and_false, Bool.or_false, Bool.false_or, bne_self_eq_false, Nat.not_lt_zero, Nat.mul_one, Nat.one_mul, Nat.zero_mul, Nat.mul_zero, beq_self_eq_true, Nat.sub_zero, Nat.reduceSub, List.length_set, false_implies, implies_true, forall_const, ↓dnW_oca, Nat.reduceLT, evI_fn, Nat.zero_lt_one, dnW_o, dnW_om, dnW_oc, dnW_ite, dnW_join, thenD_some, thenD_ite, onIfD_bool, onJoinD_out, onJoinD_ret, onJoinD_ite, Int.reduceEq, WP_some, WP_ite, byOut_goto, byOut_ret, ↓iexec_len, ↓iexec_iaddr, ↓iexec_append, ↓iexec_store, storeF_ptr, lenF_nil, lenF_lst, lenF_sl, lenF_str, iaddrF_sl, iaddrF_lst, show ¬ ((j : Int) < (Y.length : Int)) by omega]
  exact h0 (by omega)
def keepY (Y : List (IV × Int)) : List (IV × Int) := Y.filter fun y => decide (¬ y.2 < 0)
theorem delete_sl (c v : Nat) (Y : List (IV × Int)) (rest : List IV) (hb : Y.length ≤ 1000000) (J : JH) (hY : Yow J c Y) (hJ : J[c]? = some (.cells v ((encY Y).flatten ++ rest) false)) :
  RP (ic BI F_slices_DeleteFunc_Lwire_waiting_wire_waiting [.sl c v 0 Y.length (UNK + 2) 2, .fn F_wire_Wire_Take_1 [] []] J) fun s' J' => ∃ r', s' = .sl c v 0 (keepY Y).length (UNK + 2) 2 ∧ J'[c]? = some (.cells v ((encY (keepY Y)).flatten ++ r') false) ∧ Fr J J' [c] := by
 refine RP_run fn_slices_DeleteFunc_Lwire_waiting_wire_waiting rfl fun K hK => ?_
 unfold l_slices_DeleteFunc_Lwire_waiting_wire_waiting
 simp -implicitDefEqProofs only [dn_ret, dn_goto, iexec, evI_0, evI_succ, evI_int, evI_bool, evI_nilsl, evI_nilp, List.cons_append, List.nil_append, scal2_sc, abin, aun, ilift_some, Option.map_some, Option.map_none, decide_eq_true_eq, List.map_cons, List.map_nil, reduceIte, if_true, if_false, Bool.false_eq_true, inew, iload, istore, iwr, ird, icells, ione, one, List.getElem?_toArray, List.getElem?_cons_zero, List.getElem?_cons_succ, List.push_toArray, List.size_toArray, List.length_cons, List.length_nil, List.setIfInBounds_toArray, List.set_cons_zero, List.set_cons_succ, isplice_cons, List.drop_succ_cons, List.drop_zero, List.take_succ_cons, List.take_zero, List.drop_nil, List.take_nil, List.append_nil, List.all_cons, List.all_nil, Bool.and_true, Bool.true_and, Bool.and_self, Nat.zero_add, Nat.add_zero, Nat.reduceAdd, Nat.reduceLeDiff, Nat.reduceMul, Nat.le_refl, true_and, and_true, and_self, List.getElem?_nil, BI_zc, BI_zv, BI_co, zcT, zvT, coT, not_true_eq_false, not_false_eq_true, Bool.not_true, Bool.not_false, stepI', wantsI, ifill, rawB, allC1, ievs, Nat.reduceEqDiff, itup, Nat.le_add_left, Nat.le_add_right, iaggEq, List.foldl, iminI, iminF, imin2, min2, iisNil, isNil, ilen, Option.isNone_none, Option.isNone_some, Nat.zero_le, decide_true, decide_false, ireps, List.replicate, List.flatten_cons, List.flatten_nil, ichk, itouch, ctouch, ilooks, isame, untouched, Option.isSome_some, Bool.or_true, Bool.true_or, List.contains_nil, Int.reduceLT, Int.reduceLE, blkOf, IntKind.bits, iasNat, asNat, Int.toNat_natCast, Int.natCast_nonneg, List.length_map, Int.reduceToNat, iscells, ibnd, islice, capOf, Option.isSome_none, Bool.false_and, Bool.and_false, Bool.or_false, Bool.false_or, bne_self_eq_false, Nat.not_lt_zero, Nat.mul_one, Nat.one_mul, Nat.zero_mul, Nat.mul_zero, beq_self_eq_true, Nat.sub_zero, Nat.reduceSub, List.length_set, false_implies, implies_true, forall_const, ↓dnW_oca, Nat.reduceLT, evI_fn, Nat.zero_lt_one, dnW_o, dnW_om, dnW_oc, dnW_ite, dnW_join, thenD_some, thenD_ite, onIfD_bool, onJoinD_out, onJoinD_ret, onJoinD_ite, Int.reduceEq, WP_some, WP_ite, byOut_goto, byOut_ret, ↓iexec_len, ↓iexec_iaddr, ↓iexec_append, ↓iexec_store, storeF_ptr, lenF_nil, lenF_lst, lenF_sl, lenF_str, iaddrF_sl, iaddrF_lst]
 refine WP_call (index_ok c v Y _ rest rfl hb J hY hJ) fun r J1 hr => ?_
 obtain ⟨rfl, hr⟩ := hr
 rcases hr with ⟨rfl, ha⟩ | ⟨i0, hi0, rfl, ha, hlt⟩
 ·simp -implicitDefEqProofs only [dn_ret, dn_goto, iexec, evI_0, evI_succ, evI_int, evI_bool, evI_nilsl, evI_nilp, List.cons_append, List.nil_append, scal2_sc, abin, aun, ilift_some, Option.map_some, Option.map_none, decide_eq_true_eq, List.map_cons, List.map_nil, reduceIte, if_true, if_false, Bool.false_eq_true, inew, iload, istore, iwr, ird, icells, ione, one, List.getElem?_toArray, List.getElem?_cons_zero, List.getElem?_cons_succ, List.push_toArray, List.size_toArray, List.length_cons, List.length_nil, List.setIfInBounds_toArray, List.set_cons_zero, List.set_cons_succ, isplice_cons, List.drop_succ_cons, List.drop_zero, List.take_succ_cons, List.take_zero, List.drop_nil, List.take_nil, List.append_nil, List.all_cons, List.all_nil, Bool.and_true, Bool.true_and, Bool.and_self, Nat.zero_add, Nat.add_zero, Nat.reduceAdd, Nat.reduceLeDiff, Nat.reduceMul, Nat.le_refl, true_and, and_true, and_self, List.getElem?_nil, BI_zc, BI_zv, BI_co, zcT, zvT, coT, not_true_eq_false, not_false_eq_true, Bool.not_true, Bool.not_false, stepI', wantsI, ifill, rawB, allC1, ievs, Nat.reduceEqDiff, itup, Nat.le_add_left, Nat.le_add_right, iaggEq, List.foldl, iminI, iminF, imin2, min2, iisNil, isNil, ilen, Option.isNone_none, Option.isNone_some, Nat.zero_le, decide_true, decide_false, ireps, List.replicate, List.flatten_cons, List.flatten_nil, ichk, itouch, ctouch, ilooks, isame, untouched, Option.isSome_some, Bool.or_true, Bool.true_or, List.contains_nil, Int.reduceLT, Int.reduceLE, blkOf, IntKind.bits, iasNat, asNat, Int.toNat_natCast, Int.natCast_nonneg, List.length_map, Int.reduceToNat, iscells, ibnd, islice, capOf, Option.isSome_none, Bool.false_and, Bool.and_false, Bool.or_false, Bool.false_or, bne_self_eq_false, Nat.not_lt_zero, Nat.mul_one, Nat.one_mul, Nat.zero_mul, Nat.mul_zero, beq_self_eq_true, Nat.sub_zero, Nat.reduceSub, List.length_set, false_implies, implies_true, forall_const, ↓dnW_oca, Nat.reduceLT, evI_fn, Nat.zero_lt_one, dnW_o, dnW_om, dnW_oc, dnW_ite, dnW_join, thenD_some, thenD_ite, onIfD_bool, onJoinD_out, onJoinD_ret, onJoinD_ite, Int.reduceEq, WP_some, WP_ite, byOut_goto, byOut_ret, ↓iexec_len, ↓iexec_iaddr, ↓iexec_append, ↓iexec_store, storeF_ptr, lenF_nil, lenF_lst, lenF_sl, lenF_str, iaddrF_sl, iaddrF_lst, beq_self_eq_true]
  have hk : keepY Y = Y := by
   unfold keepY
   rw [List.filter_eq_self]
   intro y hy
   simpa using ha y hy
  exact hK _ _ ⟨rest, by rw [hk]; rfl, by rw [hk]; exact hJ, .refl _ _⟩
 ·have hne : ((i0 : Int) == -1) = false := by rw [beq_eq_false_iff_ne]; omega
  have hw : IntKind.i64.wrap ((i0 : Int) + 1) = ((i0 + 1 : Nat) : Int) := by rw [wrap_i64 (by omega) (by omega)]; omega
  simp -implicitDefEqProofs only [dn_ret, dn_goto, iexec, evI_0, evI_succ, evI_int, evI_bool, evI_nilsl, evI_nilp, List.cons_append, List.nil_append, scal2_sc, abin, aun, ilift_some, Option.map_some, Option.map_none, decide_eq_true_eq, List.map_cons, List.map_nil, reduceIte, if_true, if_false, Bool.false_eq_true, inew, iload, istore, iwr, ird, icells, ione, one, List.getElem?_toArray, List.getElem?_cons_zero, List.getElem?_cons_succ, List.push_toArray, List.size_toArray, List.length_cons, List.length_nil, List.setIfInBounds_toArray, List.set_cons_zero, List.set_cons_succ, isplice_cons, List.drop_succ_cons, List.drop_zero, List.take_succ_cons, List.take_zero, List.drop_nil, List.take_nil, List.append_nil, List.all_cons, List.all_nil, Bool.and_true, Bool.true_and, Bool.and_self, Nat.zero_add, Nat.add_zero, Nat.reduceAdd, Nat.reduceLeDiff, Nat.reduceMul, Nat.le_refl, true_and, and_true, and_self, List.getElem?_nil, BI_zc, BI_zv, BI_co, zcT, zvT, coT, not_true_eq_false, not_false_eq_true, Bool.not_true, Bool.not_false, stepI', wantsI, ifill, rawB, allC1, ievs, Nat.reduceEqDiff, itup, Nat.le_add_left, Nat.le_add_right, iaggEq, List.foldl, iminI, iminF, imin2, min2, iisNil, isNil, ilen, Option.isNone_none, Option.isNone_some, Nat.zero_le, decide_true, decide_false, ireps, List.replicate, List.flatten_cons, List.flatten_nil, ichk, itouch, ctouch, ilooks, isame, untouched, Option.isSome_some, Bool.or_true, Bool.true_or, List.contains_nil, Int.reduceLT, Int.reduceLE, blkOf, IntKind.bits, iasNat, asNat, Int.toNat_natCast, Int.natCast_nonneg, List.length_map, Int.reduceToNat, iscells, ibnd, islice, capOf, Option.isSome_none, Bool.false_and, Bool.and_false, Bool.or_false, Bool.false_or, bne_self_eq_false, Nat.not_lt_zero, Nat.mul_one, Nat.one_mul, Nat.zero_mul, Nat.mul_zero, beq_self_eq_true, Nat.sub_zero, Nat.reduceSub, List.length_set, false_implies, implies_true, forall_const, ↓dnW_oca, Nat.reduceLT, evI_fn, Nat.zero_lt_one, dnW_o, dnW_om, dnW_oc, dnW_ite, dnW_join, thenD_some, thenD_ite, onIfD_bool, onJoinD_out, onJoinD_ret, onJoinD_ite, Int.reduceEq, WP_some, WP_ite, byOut_goto, byOut_ret, ↓iexec_len, ↓iexec_iaddr, ↓iexec_append, ↓iexec_store, storeF_ptr, lenF_nil, lenF_lst, lenF_sl, lenF_str, iaddrF_sl, iaddrF_lst, hne, dn_loop, hw]
  refine WP_loop (by decide) (fun m vs J' => ∃ (i j : Nat) (Z : List (IV × Int)), j + m = Y.length ∧ i ≤ j ∧ vs = [.sl c v 0 Y.length (UNK + 2) 2, .fn F_wire_Wire_Take_1 [] [], .int .i64 (i : Int), .int .i64 (j : Int)] ∧ Z.length = Y.length ∧ Z.take i = keepY (Y.take j) ∧ Z.drop j = Y.drop j ∧ Yow J' c Z ∧ J'[c]? = some (.cells v ((encY Z).flatten ++ rest) false) ∧ Fr J1 J' [c]) ?_ (Y.length - (i0 + 1)) _ _ ⟨i0, i0 + 1, Y, by omega, by omega, rfl, rfl, ?_, rfl, hY, hJ, .refl _ _⟩
  ·rintro m vs J' ⟨i, j, Z, hm, hij, rfl, hZ, ht, hd, hok, hJ', hfr⟩ K1 g1 g2 g3
   have hst := delete_step c v Z rest _ rfl Y.length hZ i j hij (by omega) (by omega) J' hok hJ' K1
   have hget : ∀ (h : j < Y.length) (h' : j < Z.length), Z[j] = Y[j] := fun h h' => by
    have h1 := List.drop_eq_getElem_cons h
    have h2 := List.drop_eq_getElem_cons h'
    rw [hd, h1] at h2
    exact (List.cons.inj h2).1.symm
   have hdr : ∀ (h : j < Y.length), Z.drop (j + 1) = Y.drop (j + 1) := fun h => by
    rw [← List.drop_drop, hd, List.drop_drop]
   refine hst (fun he => ?_) (fun hz hl J2 hf2 => ?_) (fun hz hl J2 hJ2 hf2 => ?_)
   ·refine g2 _ _ ?_
    have hi : i ≤ Z.length := by omega
    have hk : Z.take i = keepY Y := by rw [ht, List.take_of_length_le (by omega)]
    have hkl : (keepY Y).length = i := by rw [← hk, List.length_take]; omega
    unfold l_slices_DeleteFunc_Lwire_waiting_wire_waiting_k1
    have hin := inb hJ'
    have hil : i ≤ Y.length := by omega
    have hlf : ((encY Z).flatten ++ rest).length = Y.length * 2 + rest.length := by rw [List.length_append, flat_len (encY_2 Z), encY_len, hZ]
    have hrl : ∀ z : List IV, z.length = 2 → (List.replicate (Y.length - i) z).flatten.length = (Y.length - i) * 2 := fun z hz => by simp [hz]
    have hro : ∀ z : List IV, z.all ione = true → (List.replicate (Y.length - i) z).flatten.all ione = true := fun z hz => by
     rw [List.all_eq_true] at hz ⊢
     intro x hx
     obtain ⟨w, hw, hx⟩ := List.mem_flatten.1 hx
     rw [(List.mem_replicate.1 hw).2] at hx
     exact hz x hx
    have htk : ((encY Z).flatten ++ rest).take (i * 2) = (encY (keepY Y)).flatten := by
     rw [flat_take (encY_2 Z) (by rw [encY_len]; exact hi), ← hk]
     simp [encY, List.map_take]
    have hr1 := hrl [IV.sc (.slice none 0 0), IV.sc (.int .i64 0)] rfl
    have hr2 := hro [IV.sc (.slice none 0 0), IV.sc (.int .i64 0)] rfl
    generalize (encY Z).flatten ++ rest = full at *
    have hfl : i * 2 + (Y.length - i) * 2 ≤ full.length := by omega
    by_cases h0 : Y.length - i = 0
    ·simp -implicitDefEqProofs only [dn_ret, dn_goto, iexec, evI_0, evI_succ, evI_int, evI_bool, evI_nilsl, evI_nilp, List.cons_append, List.nil_append, scal2_sc, abin, aun, ilift_some, Option.map_some, Option.map_none, decide_eq_true_eq, List.map_cons, List.map_nil, reduceIte, if_true, if_false, Bool.false_eq_true, inew, iload, istore, iwr, ird, icells, ione, one, List.getElem?_toArray, List.getElem?_cons_zero, List.getElem?_cons_succ, List.push_toArray, List.size_toArray, List.length_cons, List.length_nil, List.setIfInBounds_toArray, List.set_cons_zero, List.set_cons_succ, isplice_cons, List.drop_succ_cons, List.drop_zero, List.take_succ_cons, List.take_zero, List.drop_nil, List.take_nil, List.append_nil, List.all_cons, List.all_nil, Bool.and_true, Bool.true_and, Bool.and_self, Nat.zero_add, Nat.add_zero, Nat.reduceAdd, Nat.reduceLeDiff, Nat.reduceMul, Nat.le_refl, true_and, and_true, and_self, List.getElem?_nil, BI_zc, BI_zv, BI_co, zcT, zvT, coT, not_true_eq_false, not_false_eq_true, Bool.not_true, Bool.not_false, stepI', wantsI, ifill, rawB, allC1, ievs, Nat.reduceEqDiff, itup, Nat.le_add_left, Nat.le_add_right, iaggEq, List.foldl, iminI, iminF, imin2, min2, iisNil, isNil, ilen, Option.isNone_none, Option.isNone_some, Nat.zero_le, decide_true, decide_false, ireps, List.replicate, List.flatten_cons, List.flatten_nil, ichk, itouch, ctouch, ilooks, isame, untouched, Option.isSome_some, Bool.or_true, Bool.true_or, List.contains_nil, Int.reduceLT, Int.reduceLE, blkOf, IntKind.bits, iasNat, asNat, Int.toNat_natCast, Int.natCast_nonneg, List.length_map, Int.reduceToNat, iscells, ibnd, islice, capOf, Option.isSome_none, Bool.false_and, Bool.and_false, Bool.or_false, Bool.false_or, bne_self_eq_false, Nat.not_lt_zero, Nat.mul_one, Nat.one_mul, Nat.zero_mul, Nat.mul_zero, beq_self_eq_true, Nat.sub_zero, Nat.reduceSub, List.length_set, false_implies, implies_true, forall_const, ↓dnW_oca, Nat.reduceLT, evI_fn, Nat.zero_lt_one, dnW_o, dnW_om, dnW_oc, dnW_ite, dnW_join, thenD_some, thenD_ite, onIfD_bool, onJoinD_out, onJoinD_ret, onJoinD_ite, Int.reduceEq, WP_some, WP_ite, byOut_goto, byOut_ret, ↓iexec_len, ↓iexec_iaddr, ↓iexec_append, ↓iexec_store, storeF_ptr, lenF_nil, lenF_lst, lenF_sl, lenF_str, iaddrF_sl, iaddrF_lst, hil, capOf, h0, iclearS]
     refine hK _ _ ⟨full.drop (i * 2), by rw [hkl]; rfl, ?_, hfr⟩
     rw [hJ', ← htk, List.take_append_drop]
    ·simp -implicitDefEqProofs only [dn_ret, dn_goto, iexec, evI_0, evI_succ, evI_int, evI_bool, evI_nilsl, evI_nilp, List.cons_append, List.nil_append, scal2_sc, abin, aun, ilift_some, Option.map_some, Option.map_none, decide_eq_true_eq, List.map_cons, List.map_nil, reduceIte, if_true, if_false, Bool.false_eq_true, inew, iload, istore, iwr, ird, icells, ione, one, List.getElem?_toArray, List.getElem?_cons_zero, List.getElem?_cons_succ, List.push_toArray, List.size_toArray, List.length_cons, List.length_nil, List.setIfInBounds_toArray, List.set_cons_zero, List.set_cons_succ, isplice_cons, List.drop_succ_cons, List.drop_zero, List.take_succ_cons, List.take_zero, List.drop_nil, List.take_nil, List.append_nil, List.all_cons, List.all_nil, Bool.and_true, Bool.true_and, Bool.and_self, Nat.zero_add, Nat.add_zero, Nat.reduceAdd, Nat.reduceLeDiff, Nat.reduceMul, Nat.le_refl, true_and, and_true, and_self, List.getElem?_nil, BI_zc, BI_zv, BI_co, zcT, zvT, coT, not_true_eq_false, not_false_eq_true, Bool.not_true, Bool.not_false, stepI', wantsI, ifill, rawB, allC1, ievs, Nat.reduceEqDiff, itup, Nat.le_add_left, Nat.le_add_right, iaggEq, List.foldl, iminI, iminF, imin2, min2, iisNil, isNil, ilen, Option.isNone_none, Option.isNone_some, Nat.zero_le, decide_true, decide_false, ireps, List.replicate, List.flatten_cons, List.flatten_nil, ichk, itouch, ctouch, ilooks, isame, untouched, Option.isSome_some, Bool.or_true, Bool.true_or, List.contains_nil, Int.reduceLT, Int.reduceLE, blkOf, IntKind.bits, iasNat, asNat, Int.toNat_natCast, Int.natCast_nonneg, List.length_map, Int.reduceToNat, iscells, ibnd, islice, capOf, Option.isSome_none, Bool.false_and, Bool.and_false, Bool.or_false, Bool.false_or, bne_self_eq_false, Nat.not_lt_zero, Nat.mul_one, Nat.one_mul, Nat.zero_mul, Nat.mul_zero, beq_self_eq_true, Nat.sub_zero, Nat.reduceSub, List.length_set, false_implies, implies_true, forall_const, ↓dnW_oca, Nat.reduceLT, evI_fn, Nat.zero_lt_one, dnW_o, dnW_om, dnW_oc, dnW_ite, dnW_join, thenD_some, thenD_ite, onIfD_bool, onJoinD_out, onJoinD_ret, onJoinD_ite, Int.reduceEq, WP_some, WP_ite, byOut_goto, byOut_ret, ↓iexec_len, ↓iexec_iaddr, ↓iexec_append, ↓iexec_store, storeF_ptr, lenF_nil, lenF_lst, lenF_sl, lenF_str, iaddrF_sl, iaddrF_lst, hil, capOf, h0, hJ', iclearS, hr1, hr2, hfl]
     refine hK _ _ ⟨(isplice full (i * 2) (List.replicate (Y.length - i) [IV.sc (.slice none 0 0), IV.sc (.int .i64 0)]).flatten).drop (i * 2), by rw [hkl]; rfl, ?_, hfr.trans (Fr.set _ _ (S := [c]) (by simp)) (by simp)⟩
     rw [← htk]
     have : full.take (i * 2) = (isplice full (i * 2) (List.replicate (Y.length - i) [IV.sc (.slice none 0 0), IV.sc (.int .i64 0)]).flatten).take (i * 2) := by
      unfold isplice
      rw [List.append_assoc, List.take_append_of_le_length (by rw [List.length_take]; omega), List.take_take, Nat.min_self]
     rw [this, List.take_append_drop]
     simp [lt_get hJ']
   ·have h : j < Y.length := by omega
    refine g1 _ (m - 1) _ (by omega) ⟨i, j + 1, Z, by omega, by omega, rfl, hZ, ?_, hdr h, hok.fr ⟨hf2.1, fun d hd _ => hf2.2 d hd (by simp)⟩, ?_, hfr.trans hf2 (by simp)⟩
    ·rw [List.take_succ_eq_append_getElem h, ht]
     have : Y[j].2 < 0 := by rw [← hget h (by omega)]; exact hl
     unfold keepY; rw [List.filter_append]; simp only [List.filter_cons, this]; simp
    ·rw [hf2.2 c (lt_get hJ') (by simp)]; exact hJ'
   ·have hjZ : j < Z.length := by omega
    have h : j < Y.length := by omega
    refine g1 _ (m - 1) _ (by omega) ⟨i + 1, j + 1, Z.set i Z[j], by omega, by omega, rfl, by simpa using hZ, ?_, ?_, ?_, hJ2, hfr.trans hf2 (by simp)⟩
    ·rw [List.take_succ_eq_append_getElem h]
     have h2 : ¬ Y[j].2 < 0 := by rw [← hget h (by omega)]; exact hl
     have h3 : keepY (Y.take j ++ [Y[j]]) = keepY (Y.take j) ++ [Y[j]] := by unfold keepY; rw [List.filter_append]; simp only [List.filter_cons, h2]; simp
     rw [h3, ← ht, List.take_succ_eq_append_getElem (by simp; omega), List.take_set_of_le (Nat.le_refl _), List.getElem_set_self, hget h hjZ]
    ·rw [List.drop_set_of_lt (by omega)]; exact hdr h
    ·intro y hy
     rcases List.mem_or_eq_of_mem_set hy with hy | rfl
     ·exact (hok.fr hf2) y hy
     ·exact (hok.fr hf2) _ (List.getElem_mem hjZ)
  ·rw [List.take_succ_eq_append_getElem hi0]
   have h1 : keepY (Y.take i0) = Y.take i0 := by
    unfold keepY
    rw [List.filter_eq_self]
    intro y hy
    simpa using ha y hy
   have h2 : keepY (Y.take i0 ++ [Y[i0]]) = keepY (Y.take i0) := by unfold keepY; rw [List.filter_append]; simp only [List.filter_cons, hlt]; simp
   rw [h2, h1]
theorem store1 {Y : List (IV × Int)} {full rest : List IV} (hf : full = (encY Y).flatten ++ rest) {i : Nat} (h : i < Y.length) (m : Int) : isplice full (i * 2 + 1) [.int .i64 m] = (encY (Y.set i (Y[i].1, m))).flatten ++ rest := by
 have := flat_splice (rest := rest) (vs := [IV.int .i64 m]) (k := 1) (encY_2 Y) (i := i) (by rw [encY_len]; exact h) (by simp)
 rw [hf, this, ← encY_set, encY_at h]
 rfl
theorem load1 {Y : List (IV × Int)} {full rest : List IV} (hf : full = (encY Y).flatten ++ rest) {i : Nat} (h : i < Y.length) : (full.drop (i * 2)).take 1 = [Y[i].1] ∧ (full.drop (i * 2 + 1)).take 1 = [.int .i64 Y[i].2] ∧ i * 2 + 1 ≤ full.length ∧ i * 2 + 1 + 1 ≤ full.length := by
 have h' : i < (encY Y).length := by rw [encY_len]; exact h
 have e := encY_at h h'
 obtain ⟨_, h2⟩ := load2 hf h
 subst hf
 refine ⟨?_, ?_, by omega, by omega⟩
 ·have := flat_at1 (rest := rest) (k := 0) (encY_2 Y) h' (by rw [e]; simp)
  rw [Nat.add_zero] at this
  rw [this]
  simp [e]
 ·have := flat_at1 (rest := rest) (k := 1) (encY_2 Y) h' (by rw [e]; simp)
  rw [this]
  simp [e]
theorem fits24 {n : Nat} (h : n ≤ 1000000) : fits n 24 = true := by
 simp only [fits, Bool.and_eq_true, decide_eq_true_eq]
 omega
theorem take_step (b c v n i : Nat) (Z : List (IV × Int)) (hn : Z.length = n) (hsm : ∀ y ∈ Z, -10 ≤ y.2 ∧ y.2 ≤ 1000000) (rest full : List IV) (hf : full = (encY Z).flatten ++ rest) (hi : i ≤ n) (hb : n ≤ 100000) (J : JH) (hY : Yow J c Z) (hJb : J[b]? = some (.cells 0 [.sl c v 0 n (UNK + 2) 2] false)) (hJ : J[c]? = some (.cells v full false)) (hbc : b ≠ c) (out : IV) (cs : List IV) (hg : Grow J out 1 cs) (hcs : cs.length ≤ i) (hob : b ∉ blk out) (hoc : c ∉ blk out) (K : Out IV → JH → Prop)
  (h0 : i = n → K (.goto 0 [.ptr b 0 0, out]) J)
  (h1 : ∀ (h : i < Z.length) out' J', Grow J' out' 1 (cs ++ if Z[i].2 = 0 then [Z[i].1] else []) → (∀ d ∈ blk out', d ∈ blk out ∨ J.size ≤ d) → J'[b]? = some (.cells 0 [.sl c v 0 n (UNK + 2) 2] false) → J'[c]? = some (.cells v ((encY (Z.set i (Z[i].1, Z[i].2 - 1))).flatten ++ rest) false) → Fr J J' (c :: blk out) → K (.goto 1 [.ptr b 0 0, out', .int .i64 ((n : Nat) : Int), .int .i64 ((i + 1 : Nat) : Int)]) J') :
  WP (dn BI l_wire_Wire_Take_k1 [.ptr b 0 0, out, .int .i64 ((n : Nat) : Int), .int .i64 (i : Int)] J) K := by
 by_cases h : i < n
 ·have hw : IntKind.i64.wrap ((i : Int) + 1) = ((i + 1 : Nat) : Int) := by rw [wrap_i64 (by omega) (by omega)]; omega
  have hz : i < Z.length := by omega
  obtain ⟨a1, a2, a3, a4⟩ := load1 hf hz
  have a5 := store1 hf hz (Z[i].2 - 1)
  have o1 := (hY _ (List.getElem_mem hz)).one
  obtain ⟨s1, s2⟩ := hsm _ (List.getElem_mem hz)
  have hc1 := (hY _ (List.getElem_mem hz)).icells
  have o2 : ipure Z[i].1 = false := by obtain ⟨q, P, e, _⟩ := hY _ (List.getElem_mem hz); rw [e]; rfl
  have hw2 : IntKind.i64.wrap (Z[i].2 - 1) = Z[i].2 - 1 := wrap_i64 (by omega) (by omega)
  have h1' := h1 hz
  unfold l_wire_Wire_Take_k1 l_wire_Wire_Take_k0
  by_cases hl : Z[i].2 = 0
  ·rw [if_pos hl] at h1'
   have hw3 : IntKind.i64.wrap (0 - 1) = 0 - 1 := rfl
   rw [hl] at hw2 a2 a5 h1'
   simp -implicitDefEqProofs only [dn_ret, dn_goto, iexec, evI_0, evI_succ, evI_int, evI_bool, evI_nilsl, evI_nilp, List.cons_append, List.nil_append, scal2_sc, abin, aun, ilift_some, Option.map_some, Option.map_none, decide_eq_true_eq, List.map_cons, List.map_nil, reduceIte, if_true, if_false, Bool.false_eq_true, inew, iload, istore, iwr, ird, icells, ione, one, List.getElem?_toArray, List.getElem?_cons_zero, List.getElem?_cons_succ, List.push_toArray, List.size_toArray, List.length_cons, List.length_nil, List.setIfInBounds_toArray, List.set_cons_zero, List.set_cons_succ, isplice_cons, List.drop_succ_cons, List.drop_zero, List.take_succ_cons, List.take_zero, List.drop_nil, List.take_nil, List.append_nil, List.all_cons, List.all_nil, Bool.and_true, Bool.true_and, Bool.and_self, Nat.zero_add, Nat.add_zero, Nat.reduceAdd, Nat.reduceLeDiff, Nat.reduceMul, Nat.le_refl, true_and, and_true, and_self, List.getElem?_nil, BI_zc, BI_zv, BI_co, zcT, zvT, coT, not_true_eq_false, not_false_eq_true, Bool.not_true, Bool.not_false, stepI', wantsI, ifill, rawB, allC1, ievs, Nat.reduceEqDiff, itup, Nat.le_add_left, Nat.le_add_right, iaggEq, List.foldl, iminI, iminF, imin2, min2, iisNil, isNil, ilen, Option.isNone_none, Option.isNone_some, Nat.zero_le, decide_true, decide_false, ireps, List.replicate, List.flatten_cons, List.flatten_nil, ichk, itouch, ctouch, ilooks, isame, untouched, Option.isSome_some, Bool.or_true, Bool.true_or, List.contains_nil, Int.reduceLT, Int.reduceLE, blkOf, IntKind.bits, iasNat, asNat, Int.toNat_natCast, Int.natCast_nonneg, List.length_map, Int.reduceToNat, iscells, ibnd, islice, capOf, Option.isSome_none, Bool.false_and, Bool.and_false, Bool.or_false, Bool.false_or, bne_self_eq_false, Nat.not_lt_zero, Nat.mul_one, Nat.one_mul, Nat.zero_mul, Nat.mul_zero, beq_self_eq_true, Nat.sub_zero, Nat.reduceSub, List.length_set, false_implies, implies_true, forall_const, ↓dnW_oca, Nat.reduceLT, evI_fn, Nat.zero_lt_one, dnW_o, dnW_om, dnW_oc, dnW_ite, dnW_join, thenD_some, thenD_ite, onIfD_bool, onJoinD_out, onJoinD_ret, onJoinD_ite, Int.reduceEq, WP_some, WP_ite, byOut_goto, byOut_ret, ↓iexec_len, ↓iexec_iaddr, ↓iexec_append, ↓iexec_store, storeF_ptr, lenF_nil, lenF_lst, lenF_sl, lenF_str, iaddrF_sl, iaddrF_lst, show ((i : Int) < (n : Int)) by omega, h, hJb, hJ, a1, a2, a3, a4, beq_self_eq_true, ↓o1, ↓o2, ↓hc1, ipureL, grp, mkE, List.headD, one_lt_UNK]
   have fp : Fr J (J.push (.cells 0 [Z[i].1] false)) [] := Fr.push _ _ _
   have hgp := hg.fr fp (by simp)
   have hpp := push_get J (.cells 0 [Z[i].1] false)
   have hbp : (J.push (.cells 0 [Z[i].1] false))[b]? = some (.cells 0 [.sl c v 0 n (UNK + 2) 2] false) := by rw [fp.2 _ (lt_get hJb) (by simp)]; exact hJb
   have hcp : (J.push (.cells 0 [Z[i].1] false))[c]? = some (.cells v full false) := by rw [fp.2 _ (lt_get hJ) (by simp)]; exact hJ
   refine WP_join fun K1 g1 g2 g3 => WP_bind (hgp.app (y := .sl J.size 0 0 1 1 1) (m := 1) (ds := [Z[i].1]) (by omega) (by simp [iscells, ird, hpp]) rfl rfl (by rw [List.all_cons, o1]; rfl) (fits24 (n := cs.length + 1) (by omega))) fun out' J' hs => ?_
   obtain ⟨k1, k2, k3⟩ := hs
   simp -implicitDefEqProofs only [dn_ret, dn_goto, iexec, evI_0, evI_succ, evI_int, evI_bool, evI_nilsl, evI_nilp, List.cons_append, List.nil_append, scal2_sc, abin, aun, ilift_some, Option.map_some, Option.map_none, decide_eq_true_eq, List.map_cons, List.map_nil, reduceIte, if_true, if_false, Bool.false_eq_true, inew, iload, istore, iwr, ird, icells, ione, one, List.getElem?_toArray, List.getElem?_cons_zero, List.getElem?_cons_succ, List.push_toArray, List.size_toArray, List.length_cons, List.length_nil, List.setIfInBounds_toArray, List.set_cons_zero, List.set_cons_succ, isplice_cons, List.drop_succ_cons, List.drop_zero, List.take_succ_cons, List.take_zero, List.drop_nil, List.take_nil, List.append_nil, List.all_cons, List.all_nil, Bool.and_true, Bool.true_and, Bool.and_self, Nat.zero_add, Nat.add_zero, Nat.reduceAdd, Nat.reduceLeDiff, Nat.reduceMul, Nat.le_refl, true_and, and_true, and_self, List.getElem?_nil, BI_zc, BI_zv, BI_co, zcT, zvT, coT, not_true_eq_false, not_false_eq_true, Bool.not_true, Bool.not_false, stepI', wantsI, ifill, rawB, allC1, ievs, Nat.reduceEqDiff, itup, Nat.le_add_left, Nat.le_add_right, iaggEq, List.foldl, iminI, iminF, imin2, min2, iisNil, isNil, ilen, Option.isNone_none, Option.isNone_some, Nat.zero_le, decide_true, decide_false, ireps, List.replicate, List.flatten_cons, List.flatten_nil, ichk, itouch, ctouch, ilooks, isame, untouched, Option.isSome_some, Bool.or_true, Bool.true_or, List.contains_nil, Int.reduceLT, Int.reduceLE, blkOf, IntKind.bits, iasNat, asNat, Int.toNat_natCast, Int.natCast_nonneg, List.length_map, Int.reduceToNat, iscells, ibnd, islice, capOf, Option.isSome_none, Bool.false_and, Bool.and_false, Bool.or_false, Bool.false_or, bne_self_eq_false, Nat.not_lt_zero, Nat.mul_one, Nat.one_mul, Nat.zero_mul, Nat.mul_zero, beq_self_eq_true, Nat.sub_zero, Nat.reduceSub, List.length_set, false_implies, implies_true, forall_const, ↓dnW_oca, Nat.reduceLT, evI_fn, Nat.zero_lt_one, dnW_o, dnW_om, dnW_oc, dnW_ite, dnW_join, thenD_some, thenD_ite, onIfD_bool, onJoinD_out, onJoinD_ret, onJoinD_ite, Int.reduceEq, WP_some, WP_ite, byOut_goto, byOut_ret, ↓iexec_len, ↓iexec_iaddr, ↓iexec_append, ↓iexec_store, storeF_ptr, lenF_nil, lenF_lst, lenF_sl, lenF_str, iaddrF_sl, iaddrF_lst]
   refine g1 _ _ ?_
   have hb2 : J'[b]? = some (.cells 0 [.sl c v 0 n (UNK + 2) 2] false) := by rw [k2.2 b (lt_get hbp) hob]; exact hbp
   have hc2 : J'[c]? = some (.cells v full false) := by rw [k2.2 c (lt_get hcp) hoc]; exact hcp
   have hco : c ∉ blk out' := fun hm => by
    rcases k3 c hm with h | h
    ·exact hoc h
    ·have := lt_get hJ; simp at h; omega
   simp -implicitDefEqProofs only [dn_ret, dn_goto, iexec, evI_0, evI_succ, evI_int, evI_bool, evI_nilsl, evI_nilp, List.cons_append, List.nil_append, scal2_sc, abin, aun, ilift_some, Option.map_some, Option.map_none, decide_eq_true_eq, List.map_cons, List.map_nil, reduceIte, if_true, if_false, Bool.false_eq_true, inew, iload, istore, iwr, ird, icells, ione, one, List.getElem?_toArray, List.getElem?_cons_zero, List.getElem?_cons_succ, List.push_toArray, List.size_toArray, List.length_cons, List.length_nil, List.setIfInBounds_toArray, List.set_cons_zero, List.set_cons_succ, isplice_cons, List.drop_succ_cons, List.drop_zero, List.take_succ_cons, List.take_zero, List.drop_nil, List.take_nil, List.append_nil, List.all_cons, List.all_nil, Bool.and_true, Bool.true_and, Bool.and_self, Nat.zero_add, Nat.add_zero, Nat.reduceAdd, Nat.reduceLeDiff, Nat.reduceMul, Nat.le_refl, true_and, and_true, and_self, List.getElem?_nil, BI_zc, BI_zv, BI_co, zcT, zvT, coT, not_true_eq_false, not_false_eq_true, Bool.not_true, Bool.not_false, stepI', wantsI, ifill, rawB, allC1, ievs, Nat.reduceEqDiff, itup, Nat.le_add_left, Nat.le_add_right, iaggEq, List.foldl, iminI, iminF, imin2, min2, iisNil, isNil, ilen, Option.isNone_none, Option.isNone_some, Nat.zero_le, decide_true, decide_false, ireps, List.replicate, List.flatten_cons, List.flatten_nil, ichk, itouch, ctouch, ilooks, isame, untouched, Option.isSome_some, Bool.or_true, Bool.true_or, List.contains_nil, Int.reduceLT, Int.reduceLE, blkOf, IntKind.bits, iasNat, asNat, Int.toNat_natCast, Int.natCast_nonneg, List.length_map, Int.reduceToNat, iscells, ibnd, islice, capOf, Option.isSome_none, Bool.false_and, Bool.and_false, Bool.or_false, Bool.false_or, bne_self_eq_false, Nat.not_lt_zero, Nat.mul_one, Nat.one_mul, Nat.zero_mul, Nat.mul_zero, beq_self_eq_true, Nat.sub_zero, Nat.reduceSub, List.length_set, false_implies, implies_true, forall_const, ↓dnW_oca, Nat.reduceLT, evI_fn, Nat.zero_lt_one, dnW_o, dnW_om, dnW_oc, dnW_ite, dnW_join, thenD_some, thenD_ite, onIfD_bool, onJoinD_out, onJoinD_ret, onJoinD_ite, Int.reduceEq, WP_some, WP_ite, byOut_goto, byOut_ret, ↓iexec_len, ↓iexec_iaddr, ↓iexec_append, ↓iexec_store, storeF_ptr, lenF_nil, lenF_lst, lenF_sl, lenF_str, iaddrF_sl, iaddrF_lst, hb2, hc2, h, a2, a4, hw3, hw]
   rw [a5]
   refine h1' out' _ (k1.fr (Fr.set J' _ (S := [c]) (by simp)) (fun d hd hm => ?_)) (fun d hd => (k3 d hd).imp id fun h => by simp at h; omega) ?_ ?_ (Fr.trans (J1 := J') ⟨Nat.le_trans fp.1 k2.1, fun d hd hm => by rw [k2.2 d (by have := fp.1; omega) fun h => hm (by simp [h]), fp.2 d hd (by simp)]⟩ (Fr.set J' _ (S := [c]) (by simp)) (fun d _ h => by simp at h; simp [h]))
   ·rw [List.mem_singleton] at hm; exact hco (hm ▸ hd)
   ·rw [Array.getElem?_setIfInBounds, if_neg (fun e => hbc e.symm)]; exact hb2
   ·simp [lt_get hc2]
  ·rw [if_neg hl, List.append_nil] at h1'
   have hl' : (Z[i].2 == 0) = false := by simpa using hl
   simp -implicitDefEqProofs only [dn_ret, dn_goto, iexec, evI_0, evI_succ, evI_int, evI_bool, evI_nilsl, evI_nilp, List.cons_append, List.nil_append, scal2_sc, abin, aun, ilift_some, Option.map_some, Option.map_none, decide_eq_true_eq, List.map_cons, List.map_nil, reduceIte, if_true, if_false, Bool.false_eq_true, inew, iload, istore, iwr, ird, icells, ione, one, List.getElem?_toArray, List.getElem?_cons_zero, List.getElem?_cons_succ, List.push_toArray, List.size_toArray, List.length_cons, List.length_nil, List.setIfInBounds_toArray, List.set_cons_zero, List.set_cons_succ, isplice_cons, List.drop_succ_cons, List.drop_zero, List.take_succ_cons, List.take_zero, List.drop_nil, List.take_nil, List.append_nil, List.all_cons, List.all_nil, Bool.and_true, Bool.true_and, Bool.and_self, Nat.zero_add, Nat.add_zero, Nat.reduceAdd, Nat.reduceLeDiff, Nat.reduceMul, Nat.le_refl, true_and, and_true, and_self, List.getElem?_nil, BI_zc, BI_zv, BI_co, zcT, zvT, coT, not_true_eq_false, not_false_eq_true, Bool.not_true, Bool.not_false, stepI', wantsI, ifill, rawB, allC1, ievs, Nat.reduceEqDiff, itup, Nat.le_add_left, Nat.le_add_right, iaggEq, List.foldl, iminI, iminF, imin2, min2, iisNil, isNil, ilen, Option.isNone_none, Option.isNone_some, Nat.zero_le, decide_true, decide_false, ireps, List.replicate, List.flatten_cons, List.flatten_nil, ichk, itouch, ctouch, ilooks, isame, untouched, Option.isSome_some, Bool.or_true, Bool.true_or, List.contains_nil, Int.reduceLT, Int.reduceLE, blkOf, IntKind.bits, iasNat, asNat, Int.toNat_natCast, Int.natCast_nonneg, List.length_map, Int.reduceToNat, iscells, ibnd, islice, capOf, Option.isSome_none, Bool.false_and, Bool.and_false, Bool.or_false, Bool.false_or, bne_self_eq_false, Nat.not_lt_zero, Nat.mul_one, Nat.one_mul, Nat.zero_mul, Nat.mul_zero, beq_self_eq_true, Nat.sub_zero, Nat.reduceSub, List.length_set, false_implies, implies_true, forall_const, ↓dnW_oca, Nat.reduceLT, evI_fn, Nat.zero_lt_one, dnW_o, dnW_om, dnW_oc, dnW_ite, dnW_join, thenD_some, thenD_ite, onIfD_bool, onJoinD_out, onJoinD_ret, onJoinD_ite, Int.reduceEq, WP_some, WP_ite, byOut_goto, byOut_ret, ↓iexec_len, ↓iexec_iaddr, ↓iexec_append, ↓iexec_store, storeF_ptr, lenF_nil, lenF_lst, lenF_sl, lenF_str, iaddrF_sl, iaddrF_lst, show ((i : Int) < (n : Int)) by omega, h, hJb, hJ, a1, a2, a3, a4, a5, hl', ↓o1, ↓o2, ↓hc1, hw2, hw]
   refine h1' out _ (hg.fr (Fr.set J _ (S := [c]) (by simp)) (fun d hd hm => ?_)) (fun d hd => .inl hd) ?_ ?_ (Fr.set J _ (by simp))
   ·rw [List.mem_singleton] at hm; exact hoc (hm ▸ hd)
   ·rw [Array.getElem?_setIfInBounds, if_neg (fun e => hbc e.symm)]; exact hJb
   ·simp [lt_get hJ]
 ·unfold l_wire_Wire_Take_k1
  simp -implicitDefEqProofs only [dn_ret, dn_goto, iexec, evI_0, evI_succ, evI_int, evI_bool, evI_nilsl, evI_nilp, List.cons_append, List.nil_append, scal2_sc, abin, aun, ilift_some, Option.map_some, Option.map_none, decide_eq_true_eq, List.map_cons, List.map_nil, reduceIte, if_true, if_false, Bool.false_eq_true, inew, iload, istore, iwr, ird, icells, ione, one, List.getElem?_toArray, List.getElem?_cons_zero, List.getElem?_cons_succ, List.push_toArray, List.size_toArray, List.length_cons, List.length_nil, List.setIfInBounds_toArray, List.set_cons_zero, List.set_cons_succ, isplice_cons, List.drop_succ_cons, List.drop_zero, List.take_succ_cons, List.take_zero, List.drop_nil, List.take_nil, List.append_nil, List.all_cons, List.all_nil, Bool.and_true, Bool.true_and, Bool.and_self, Nat.zero_add, Nat.add_zero, Nat.reduceAdd, Nat.reduceLeDiff, Nat.reduceMul, Nat.le_refl, true_and, and_true, and_self, List.getElem?_nil, BI_zc, BI_zv, BI_co, zcT, zvT, coT, not_true_eq_false, not_false_eq_true, Bool.not_true, Bool.not_false, stepI', wantsI, ifill, rawB, allC1, ievs, Nat.reduceEqDiff, itup, Nat.le_add_left, Nat.le_add_right, iaggEq, List.foldl, iminI, iminF, imin2, min2, iisNil, isNil, ilen, Option.isNone_none, Option.isNone_some, Nat.zero_le, decide_true, decide_false, ireps, List.replicate, List.flatten_cons, List.flatten_nil, ichk, itouch, ctouch, ilooks, isame, untouched, Option.isSome_some, Bool.or_true, Bool.true_or, List.contains_nil, Int.reduceLT, Int.reduceLE, blkOf, IntKind.bits, iasNat, asNat, Int.toNat_natCast, Int.natCast_nonneg, List.length_map, Int.reduceToNat, iscells, ibnd, islice, capOf, Option.isSome_none, Bool.false_and, Bool.and_false, Bool.or_false, Bool.false_or, bne_self_eq_false, Nat.not_lt_zero, Nat.mul_one, Nat.one_mul, Nat.zero_mul, Nat.mul_zero, beq_self_eq_true, Nat.sub_zero, Nat.reduceSub, List.length_set, false_implies, implies_true, forall_const, ↓dnW_oca, Nat.reduceLT, evI_fn, Nat.zero_lt_one, dnW_o, dnW_om, dnW_oc, dnW_ite, dnW_join, thenD_some, thenD_ite, onIfD_bool, onJoinD_out, onJoinD_ret, onJoinD_ite, Int.reduceEq, WP_some, WP_ite, byOut_goto, byOut_ret, ↓iexec_len, ↓iexec_iaddr, ↓iexec_append, ↓iexec_store, storeF_ptr, lenF_nil, lenF_lst, lenF_sl, lenF_str, iaddrF_sl, iaddrF_lst, show ¬ ((i : Int) < (n : Int)) by omega]
  exact h0 (by omega)
def decY (Y : List (IV × Int)) : List (IV × Int) := Y.map fun y => (y.1, y.2 - 1)
def nowY (Y : List (IV × Int)) : List IV := (Y.filter fun y => decide (y.2 = 0)).map (·.1)
theorem nowY_succ {Y : List (IV × Int)} {i : Nat} (h : i < Y.length) : nowY (Y.take (i + 1)) = nowY (Y.take i) ++ if Y[i].2 = 0 then [Y[i].1] else [] := by
 rw [List.take_succ_eq_append_getElem h]
 unfold nowY
 rw [List.filter_append, List.map_append]
 by_cases hl : Y[i].2 = 0 <;> simp [List.filter_cons, hl]
theorem nowY_len (Y : List (IV × Int)) : (nowY Y).length ≤ Y.length := by
 unfold nowY
 rw [List.length_map]
 exact List.length_filter_le _ _
theorem take_sl (b c v : Nat) (Y : List (IV × Int)) (hsm : ∀ y ∈ Y, 0 ≤ y.2 ∧ y.2 ≤ 1000) (rest : List IV) (hb : Y.length ≤ 100000) (J : JH) (hY : Yow J c Y) (hYb : ∀ y ∈ Y, b ∉ blk y.1) (hJb : J[b]? = some (.cells 0 [.sl c v 0 Y.length (UNK + 2) 2] false)) (hJ : J[c]? = some (.cells v ((encY Y).flatten ++ rest) false)) (hbc : b ≠ c) :
  RP (ic BI F_wire_Wire_Take [.ptr b 0 0] J) fun out J' => ∃ r', J'[b]? = some (.cells 0 [.sl c v 0 (keepY (decY Y)).length (UNK + 2) 2] false) ∧ J'[c]? = some (.cells v ((encY (keepY (decY Y))).flatten ++ r') false) ∧ Grow J' out 1 (nowY Y) ∧ Fr J J' [b, c] ∧ (∀ d ∈ blk out, J.size ≤ d) := by
 refine RP_run fn_wire_Wire_Take rfl fun K hK => ?_
 unfold l_wire_Wire_Take
 simp -implicitDefEqProofs only [dn_ret, dn_goto, iexec, evI_0, evI_succ, evI_int, evI_bool, evI_nilsl, evI_nilp, List.cons_append, List.nil_append, scal2_sc, abin, aun, ilift_some, Option.map_some, Option.map_none, decide_eq_true_eq, List.map_cons, List.map_nil, reduceIte, if_true, if_false, Bool.false_eq_true, inew, iload, istore, iwr, ird, icells, ione, one, List.getElem?_toArray, List.getElem?_cons_zero, List.getElem?_cons_succ, List.push_toArray, List.size_toArray, List.length_cons, List.length_nil, List.setIfInBounds_toArray, List.set_cons_zero, List.set_cons_succ, isplice_cons, List.drop_succ_cons, List.drop_zero, List.take_succ_cons, List.take_zero, List.drop_nil, List.take_nil, List.append_nil, List.all_cons, List.all_nil, Bool.and_true, Bool.true_and, Bool.and_self, Nat.zero_add, Nat.add_zero, Nat.reduceAdd, Nat.reduceLeDiff, Nat.reduceMul, Nat.le_refl, true_and, and_true, and_self, List.getElem?_nil, BI_zc, BI_zv, BI_co, zcT, zvT, coT, not_true_eq_false, not_false_eq_true, Bool.not_true, Bool.not_false, stepI', wantsI, ifill, rawB, allC1, ievs, Nat.reduceEqDiff, itup, Nat.le_add_left, Nat.le_add_right, iaggEq, List.foldl, iminI, iminF, imin2, min2, iisNil, isNil, ilen, Option.isNone_none, Option.isNone_some, Nat.zero_le, decide_true, decide_false, ireps, List.replicate, List.flatten_cons, List.flatten_nil, ichk, itouch, ctouch, ilooks, isame, untouched, Option.isSome_some, Bool.or_true, Bool.true_or, List.contains_nil, Int.reduceLT, Int.reduceLE, blkOf, IntKind.bits, iasNat, asNat, Int.toNat_natCast, Int.natCast_nonneg, List.length_map, Int.reduceToNat, iscells, ibnd, islice, capOf, Option.isSome_none, Bool.false_and, Bool.and_false, Bool.or_false, Bool.false_or, bne_self_eq_false, Nat.not_lt_zero, Nat.mul_one, Nat.one_mul, Nat.zero_mul, Nat.mul_zero, beq_self_eq_true, Nat.sub_zero, Nat.reduceSub, List.length_set, false_implies, implies_true, forall_const, ↓dnW_oca, Nat.reduceLT, evI_fn, Nat.zero_lt_one, dnW_o, dnW_om, dnW_oc, dnW_ite, dnW_join, thenD_some, thenD_ite, onIfD_bool, onJoinD_out, onJoinD_ret, onJoinD_ite, Int.reduceEq, WP_some, WP_ite, byOut_goto, byOut_ret, ↓iexec_len, ↓iexec_iaddr, ↓iexec_append, ↓iexec_store, storeF_ptr, lenF_nil, lenF_lst, lenF_sl, lenF_str, iaddrF_sl, iaddrF_lst, hJb, dn_loop]
 refine WP_loop (by decide) (fun m vs J' => ∃ (i : Nat) (out : IV), i + m = Y.length ∧ vs = [.ptr b 0 0, out, .int .i64 ((Y.length : Nat) : Int), .int .i64 (i : Int)] ∧ J'[b]? = some (.cells 0 [.sl c v 0 Y.length (UNK + 2) 2] false) ∧ J'[c]? = some (.cells v ((encY (decY (Y.take i) ++ Y.drop i)).flatten ++ rest) false) ∧ Grow J' out 1 (nowY (Y.take i)) ∧ Fr J J' [c] ∧ ∀ d ∈ blk out, J.size ≤ d) ?_ Y.length _ _ ⟨0, _, by omega, rfl, hJb, by simpa [decY] using hJ, .nil, .refl _ _, by simp [blk, blkOf]⟩
 rintro m vs J1 ⟨i, out, hi, rfl, hb1, hc1, hg, hfr, hlow⟩ K1 g1 g2 g3
 have hblt := lt_get hJb
 have hclt := lt_get hJ
 have hzl : (decY (Y.take i) ++ Y.drop i).length = Y.length := by simp [decY]; omega
 have hzi : ∀ (h : i < Y.length) (h' : i < (decY (Y.take i) ++ Y.drop i).length), (decY (Y.take i) ++ Y.drop i)[i] = Y[i] := fun h h' => by
  rw [List.getElem_append_right (by simp [decY, Nat.min_le_left])]
  simp [decY, Nat.min_eq_left (Nat.le_of_lt h)]
 have hmem : ∀ y ∈ decY (Y.take i) ++ Y.drop i, ∃ z ∈ Y, y.1 = z.1 ∧ (y.2 = z.2 ∨ y.2 = z.2 - 1) := fun y hy => by
  rcases List.mem_append.1 hy with hy | hy
  ·obtain ⟨z, hz, rfl⟩ := List.mem_map.1 hy
   exact ⟨z, List.mem_of_mem_take hz, rfl, .inr rfl⟩
  ·exact ⟨y, List.mem_of_mem_drop hy, rfl, .inl rfl⟩
 refine take_step b c v Y.length i (decY (Y.take i) ++ Y.drop i) hzl (fun y hy => ?_) rest _ rfl (by omega) hb J1 (fun y hy => ?_) hb1 hc1 hbc out _ hg ?_ (fun h => ?_) (fun h => ?_) K1 (fun he => ?_) (fun hz out' J2 hg2 hb2 hJb2 hJ2 hfr2 => ?_)
 ·obtain ⟨z, hz, _, e2⟩ := hmem y hy
  have := hsm z hz
  omega
 ·obtain ⟨z, hz, e1, _⟩ := hmem y hy; rw [e1]; exact (hY z hz).fr hfr
 ·have := nowY_len (Y.take i); rw [List.length_take] at this; omega
 ·have := hlow b h; omega
 ·have := hlow c h; omega
 ·refine g2 _ _ ?_
  subst he
  rw [List.drop_length, List.append_nil, List.take_length] at hc1
  rw [List.take_length] at hg
  have hd := delete_sl c v (decY Y) rest (by simp [decY]; omega) J1 (fun y hy => by
   obtain ⟨z, hz, rfl⟩ := List.mem_map.1 hy
   exact (hY z hz).fr hfr) hc1
  rw [show (decY Y).length = Y.length by simp [decY]] at hd
  unfold l_wire_Wire_Take_k2
  simp -implicitDefEqProofs only [dn_ret, dn_goto, iexec, evI_0, evI_succ, evI_int, evI_bool, evI_nilsl, evI_nilp, List.cons_append, List.nil_append, scal2_sc, abin, aun, ilift_some, Option.map_some, Option.map_none, decide_eq_true_eq, List.map_cons, List.map_nil, reduceIte, if_true, if_false, Bool.false_eq_true, inew, iload, istore, iwr, ird, icells, ione, one, List.getElem?_toArray, List.getElem?_cons_zero, List.getElem?_cons_succ, List.push_toArray, List.size_toArray, List.length_cons, List.length_nil, List.setIfInBounds_toArray, List.set_cons_zero, List.set_cons_succ, isplice_cons, List.drop_succ_cons, List.drop_zero, List.take_succ_cons, List.take_zero, List.drop_nil, List.take_nil, List.append_nil, List.all_cons, List.all_nil, Bool.and_true, Bool.true_and, Bool.and_self, Nat.zero_add, Nat.add_zero, Nat.reduceAdd, Nat.reduceLeDiff, Nat.reduceMul, Nat.le_refl, true_and, and_true, and_self, List.getElem?_nil, BI_zc, BI_zv, BI_co, zcT, zvT, coT, not_true_eq_false, not_false_eq_true, Bool.not_true, Bool.not_false, stepI', wantsI, ifill, rawB, allC1, ievs, Nat.reduceEqDiff, itup, Nat.le_add_left, Nat.le_add_right, iaggEq, List.foldl, iminI, iminF, imin2, min2, iisNil, isNil, ilen, Option.isNone_none, Option.isNone_some, Nat.zero_le, decide_true, decide_false, ireps, List.replicate, List.flatten_cons, List.flatten_nil, ichk, itouch, ctouch, ilooks, isame, untouched, Option.isSome_some, Bool.or_true, Bool.true_or, List.contains_nil, Int.reduceLT, Int.reduceLE, blkOf, IntKind.bits, iasNat, asNat, Int.toNat_natCast, Int.natCast_nonneg, List.length_map, Int.reduceToNat, iscells, ibnd, islice, capOf, Option.isSome_none, Bool.false_and, Bool.and_false, Bool.or_false, Bool.false_or, bne_self_eq_false, Nat.not_lt_zero, Nat.mul_one, Nat.one_mul, Nat.zero_mul, Nat.mul_zero, beq_self_eq_true, Nat.sub_zero, Nat.reduceSub, List.length_set, false_implies, implies_true, forall_const, ↓dnW_oca, Nat.reduceLT, evI_fn, Nat.zero_lt_one, dnW_o, dnW_om, dnW_oc, dnW_ite, dnW_join, thenD_some, thenD_ite, onIfD_bool, onJoinD_out, onJoinD_ret, onJoinD_ite, Int.reduceEq, WP_some, WP_ite, byOut_goto, byOut_ret, ↓iexec_len, ↓iexec_iaddr, ↓iexec_append, ↓iexec_store, storeF_ptr, lenF_nil, lenF_lst, lenF_sl, lenF_str, iaddrF_sl, iaddrF_lst, hb1]
  refine WP_call hd fun s' J2 hs => ?_
  obtain ⟨r', rfl, hc2, hf2⟩ := hs
  have hb2 : J2[b]? = some (.cells 0 [.sl c v 0 Y.length (UNK + 2) 2] false) := by rw [hf2.2 b (lt_get hb1) (by simpa using hbc)]; exact hb1
  simp -implicitDefEqProofs only [dn_ret, dn_goto, iexec, evI_0, evI_succ, evI_int, evI_bool, evI_nilsl, evI_nilp, List.cons_append, List.nil_append, scal2_sc, abin, aun, ilift_some, Option.map_some, Option.map_none, decide_eq_true_eq, List.map_cons, List.map_nil, reduceIte, if_true, if_false, Bool.false_eq_true, inew, iload, istore, iwr, ird, icells, ione, one, List.getElem?_toArray, List.getElem?_cons_zero, List.getElem?_cons_succ, List.push_toArray, List.size_toArray, List.length_cons, List.length_nil, List.setIfInBounds_toArray, List.set_cons_zero, List.set_cons_succ, isplice_cons, List.drop_succ_cons, List.drop_zero, List.take_succ_cons, List.take_zero, List.drop_nil, List.take_nil, List.append_nil, List.all_cons, List.all_nil, Bool.and_true, Bool.true_and, Bool.and_self, Nat.zero_add, Nat.add_zero, Nat.reduceAdd, Nat.reduceLeDiff, Nat.reduceMul, Nat.le_refl, true_and, and_true, and_self, List.getElem?_nil, BI_zc, BI_zv, BI_co, zcT, zvT, coT, not_true_eq_false, not_false_eq_true, Bool.not_true, Bool.not_false, stepI', wantsI, ifill, rawB, allC1, ievs, Nat.reduceEqDiff, itup, Nat.le_add_left, Nat.le_add_right, iaggEq, List.foldl, iminI, iminF, imin2, min2, iisNil, isNil, ilen, Option.isNone_none, Option.isNone_some, Nat.zero_le, decide_true, decide_false, ireps, List.replicate, List.flatten_cons, List.flatten_nil, ichk, itouch, ctouch, ilooks, isame, untouched, Option.isSome_some, Bool.or_true, Bool.true_or, List.contains_nil, Int.reduceLT, Int.reduceLE, blkOf, IntKind.bits, iasNat, asNat, Int.toNat_natCast, Int.natCast_nonneg, List.length_map, Int.reduceToNat, iscells, ibnd, islice, capOf, Option.isSome_none, Bool.false_and, Bool.and_false, Bool.or_false, Bool.false_or, bne_self_eq_false, Nat.not_lt_zero, Nat.mul_one, Nat.one_mul, Nat.zero_mul, Nat.mul_zero, beq_self_eq_true, Nat.sub_zero, Nat.reduceSub, List.length_set, false_implies, implies_true, forall_const, ↓dnW_oca, Nat.reduceLT, evI_fn, Nat.zero_lt_one, dnW_o, dnW_om, dnW_oc, dnW_ite, dnW_join, thenD_some, thenD_ite, onIfD_bool, onJoinD_out, onJoinD_ret, onJoinD_ite, Int.reduceEq, WP_some, WP_ite, byOut_goto, byOut_ret, ↓iexec_len, ↓iexec_iaddr, ↓iexec_append, ↓iexec_store, storeF_ptr, lenF_nil, lenF_lst, lenF_sl, lenF_str, iaddrF_sl, iaddrF_lst, hb2]
  refine hK _ _ ⟨r', by simp [lt_get hb2], ?_, ?_, ?_, hlow⟩
  ·rw [Array.getElem?_setIfInBounds, if_neg hbc]; exact hc2
  ·refine (hg.fr hf2 fun d hd hm => ?_).fr (Fr.set _ _ (S := [b]) (by simp)) fun d hd hm => ?_
   ·rw [List.mem_singleton] at hm; have := hlow d hd; omega
   ·rw [List.mem_singleton] at hm; have := hlow d hd; omega
  ·exact Fr.trans (J1 := J2) ⟨(hfr.trans hf2 (fun _ _ h => h)).1, fun d hd hm => (hfr.trans hf2 (fun _ _ h => h)).2 d hd (fun h => hm (by simp at h; simp [h]))⟩ (Fr.set _ _ (S := [b, c]) (by simp)) (fun _ _ h => h)
 ·have h : i < Y.length := by omega
  have hy := hzi h hz
  rw [hy] at hg2 hJ2
  refine g1 _ (m - 1) _ (by omega) ⟨i + 1, out', by omega, rfl, hJb2, ?_, ?_, hfr.trans hfr2 (fun d hd hm => ?_), fun d hd => ?_⟩
  ·have : (decY (Y.take i) ++ Y.drop i).set i (Y[i].1, Y[i].2 - 1) = decY (Y.take (i + 1)) ++ Y.drop (i + 1) := by
    rw [List.set_append_right _ _ (by simp [decY, Nat.min_le_left]), List.take_succ_eq_append_getElem h]
    simp only [decY, List.length_map, List.length_take, Nat.min_eq_left (Nat.le_of_lt h), Nat.sub_self, List.map_append, List.map_cons, List.map_nil, List.append_assoc, List.singleton_append]
    rw [List.drop_eq_getElem_cons h, List.set_cons_zero]
   rw [← this]
   exact hJ2
  ·rw [nowY_succ h]; exact hg2
  ·rcases List.mem_cons.1 hm with rfl | hm
   ·simp
   ·have := hlow d hm; omega
  ·rcases hb2 d hd with h | h
   ·exact hlow d h
   ·exact Nat.le_trans hfr.1 h
noncomputable def rchH (J : JH) (l : List IV) : Option (List Nat) := reach J l
theorem dnW_och {ρ : List IV} {J : JH} {f : FuncId} {args : List Operand} {chk} {k : L} : dn BI (oc none (.call f args) .raw chk k) ρ J = thenC (ic BI f (args.map (evI ρ)) J) J chk (rchH J (args.map (evI ρ))) ρ k := by
 rw [dnW_oc, step_chk]
 have h : iexec BI (ic BI) .raw ρ (.call f args) J = ic BI f (args.map (evI ρ)) J := rfl
 have ht : itouch BI .raw ρ (.call f args) J = rchH J (args.map (evI ρ)) := rfl
 rw [h, ht]
 unfold thenC
 generalize ic BI f (args.map (evI ρ)) J = r
 cases r with
 | none => rfl
 | some q =>
  by_cases hh : chk.all (ichk J q.2 (rchH J (args.map (evI ρ))) ρ) = true
  ·simp only [hh, if_true]; rfl
  ·simp only [hh]; rfl
theorem rch_own {J : JH} {m n c : Nat} {P : List Int} (h : J[m]? = some (.cells 0 (uB P) false)) : rchH J [.sl m 0 0 n c 1] = some [m] := by
 have hr : refsB J m = [] := by
  simp only [refsB, h]
  exact irefsL_pure _ ints_pure
 have key : ∀ k, reachN J (k + 1) [m] = [m] := fun k => by simp [reachN, hr]
 have h40 := key 39
 simp only [rchH, reach, irefsL, irefs, List.append_nil, h40]
 simp [hr]
abbrev frI (P : List Int) (q : Nat) : IV := .sl q 0 0 P.length (UNK + 1) 1
def Yof (P : List Int) (E : List (Nat × Int)) : List (IV × Int) := E.map fun e => (frI P e.1, e.2)
structure PI (J0 J : JH) (b : Nat) (s : IV) (P : List Int) (E : List (Nat × Int)) : Prop where
 w : J[b]? = some (.cells 0 [s] false)
 g : Grow J s 2 (encY (Yof P E)).flatten
 low : ∀ d ∈ blk s, J0.size ≤ d
 fr : ∀ e ∈ E, J[e.1]? = some (.cells 0 (uB P) false) ∧ e.1 ∉ blk s ∧ J0.size ≤ e.1
 nd : (E.map (·.1)).Nodup
 f : Fr J0 J [b]
 hb : b < J0.size
theorem PI.get {J0 J : JH} {b : Nat} {s : IV} {P : List Int} {E : List (Nat × Int)} (h : PI J0 J b s P E) {d : Nat} {x : IB} (hd : J0[d]? = some x) (hne : d ≠ b) : J[d]? = some x := by
 rw [h.f.2 d (lt_get hd) (by simpa using hne)]; exact hd
theorem PI.push {J0 J : JH} {b : Nat} {s : IV} {P : List Int} {E : List (Nat × Int)} (h : PI J0 J b s P E) (X : IB) : PI J0 (J.push X) b s P E := by
 have hf := Fr.push J X []
 exact ⟨by rw [hf.2 _ (lt_get h.w) (by simp)]; exact h.w, h.g.fr hf (by simp), h.low, fun e he => ⟨by rw [hf.2 _ (lt_get (h.fr e he).1) (by simp)]; exact (h.fr e he).1, (h.fr e he).2⟩, h.nd, h.f.trans hf (by simp), h.hb⟩
theorem fits32 {n : Nat} (h : n ≤ 1000000) : fits n 32 = true := by
 simp only [fits, maxLen, Bool.and_eq_true, decide_eq_true_eq]; omega
theorem putIn_raw {J0 J : JH} {b i j m : Nat} {s t fa fr : IV} {P : List Int} {E : List (Nat × Int)} {ts : List Int} {lf : Int} (h : PI J0 J b s P E) (hm : J0[m]? = some (.cells 0 (uB P) false)) (hmb : m ≠ b) (hne : P ≠ []) (hP : P.length ≤ 1000000) (ht : Ls 1 t (ts.map (IV.int .i64))) (hj : j < ts.length) (hl : ts.length ≤ 10) (hE : E.length ≤ 100) (K : Out IV → JH → Prop)
  (hK : ∀ J' s' q, PI J0 J' b s' P (E ++ [(q, ts[j])]) → K (.goto 4 [.ptr b 0 0, fa, frI P m, fr, .int .i64 lf, nI i, t, nI ts.length, nI (j + 1)]) J') :
  WP (dn BI l_wire_Wire_Put_k0 [.ptr b 0 0, fa, frI P m, fr, .int .i64 lf, nI i, t, nI ts.length, nI j] J) K := by
 unfold l_wire_Wire_Put_k0
 have hat := ht.at (i := j) (by rw [List.length_map]; exact hj) (J := J)
 rw [List.getElem_map] at hat
 have hw1 := wrapS hj (show ts.length ≤ 9223372036854775807 by omega)
 have hb := h.w
 have hmj := h.get hm hmb
 have hrch := rch_own (n := P.length) (c := UNK + 1) hmj
 have h1 := h.push (.cells 0 (uB P) false)
 have hs1 : isame J (J.push (.cells 0 (uB P) false)) (some [m]) (.range b 0 0 1) = true := by
  simp only [isame, ird, hb, untouched]
  simp [Ne.symm hmb]
 simp -implicitDefEqProofs only [go_sem, go_sem_proc, show ((j : Int) < (ts.length : Int)) by omega, hat, hb, inb hb, ↓dnW_och]
 refine WP_bindC (CloneB_ok hmj hne hP) fun v J1 hv => ?_
 obtain ⟨rfl, rfl⟩ := hv
 refine ⟨by simp -implicitDefEqProofs only [go_sem, go_sem_proc, hrch, ↓hs1], ?_⟩
 have hg := h1.g
 have hq := push_get J (.cells 0 (uB P) false)
 have hsz : (J.push (.cells 0 (uB P) false)).size = J.size + 1 := by simp
 have hlow := h.g.low
 have hnd := h.nd
 have hJ0 := h.f.1
 have hbb := h.hb
 have hlt := lt_get hb
 generalize J.push (.cells 0 (uB P) false) = J1 at *
 have h2 := h1.push (.cells 0 [frI P J.size, .int .i64 ts[j]] false)
 have hr := push_get J1 (.cells 0 [frI P J.size, .int .i64 ts[j]] false)
 have hq2 : (J1.push (.cells 0 [frI P J.size, .int .i64 ts[j]] false))[J.size]? = some (.cells 0 (uB P) false) := gpN (by omega) hq
 simp -implicitDefEqProofs only [go_sem, go_sem_proc, ipureL, ipure, grp]
 generalize J1.push (.cells 0 [frI P J.size, .int .i64 ts[j]] false) = J2 at *
 have hfl : (encY (Yof P E)).flatten.length = E.length * 2 := by rw [flat_len (encY_2 _), encY_len]; simp [Yof]
 refine WP_bind (h2.g.app (y := .sl J1.size 0 0 1 1 2) (m := 1) (ds := [frI P J.size, .int .i64 ts[j]]) (by omega) (by simp [iscells, ird, hr]) rfl rfl rfl (fits32 (n := (encY (Yof P E)).flatten.length + 1) (by omega))) fun s' J3 hs => ?_
 obtain ⟨k1, k2, k3⟩ := hs
 have hlt2 := lt_get h2.w
 have hbs : b ∉ blk s := fun hm => by have := h.low b hm; omega
 have hb3 : J3[b]? = some (.cells 0 [s] false) := by rw [k2.2 b hlt2 hbs]; exact h2.w
 have hlq := lt_get hq2
 have hls := lt_get hr
 have hsl : ∀ d ∈ blk s', J0.size ≤ d := fun d hd => by
  rcases k3 d hd with h3 | h3
  ·exact h.low d h3
  ·omega
 have hbs' : b ∉ blk s' := fun hm => by have := hsl b hm; omega
 have hfs := Fr.set J3 (IB.cells 0 [s'] false) (b := b) (S := [b]) (by simp)
 have e : (encY (Yof P (E ++ [(J.size, ts[j])]))).flatten = (encY (Yof P E)).flatten ++ [frI P J.size, .int .i64 ts[j]] := by simp [Yof, encY]
 simp -implicitDefEqProofs only [go_sem, go_sem_proc, hb3, inb hb3, ↓k1.icells, ↓k1.one, hw1]
 refine hK _ s' J.size ⟨set_get _ (lt_get hb3), ?_, hsl, fun x hx => ?_, ?_, ?_, hbb⟩
 ·rw [e]
  exact k1.fr hfs fun d hd hm => by simp at hm; subst hm; exact hbs' hd
 ·rcases List.mem_append.1 hx with hx | hx
  ·obtain ⟨f1, f2, f3⟩ := h2.fr x hx
   have hl1 := lt_get f1
   have hl0 := lt_get (h.fr x hx).1
   refine ⟨?_, fun hm => ?_, f3⟩
   ·rw [hfs.2 x.1 (by have := k2.1; omega) (by simp; omega), k2.2 x.1 hl1 f2]; exact f1
   ·rcases k3 _ hm with h3 | h3
    ·exact f2 h3
    ·omega
  ·simp at hx; subst hx
   have hqs : J.size ∉ blk s := fun hm => by have := hlow _ hm; omega
   refine ⟨?_, fun hm => ?_, hJ0⟩
   ·rw [hfs.2 J.size (by have := k2.1; omega) (by simp; omega), k2.2 J.size hlq hqs]; exact hq2
   ·rcases k3 _ hm with h3 | h3
    ·exact hqs h3
    ·omega
 ·rw [List.map_append, List.nodup_append]
  refine ⟨hnd, by simp, fun a ha z hz => ?_⟩
  obtain ⟨x, hx, rfl⟩ := List.mem_map.1 ha
  have := lt_get (h.fr x hx).1
  simp at hz; omega
 ·have f3 : Fr J2 J3 (blk s) := k2
  refine Fr.trans (J1 := J3) ⟨by have := h2.f.1; have := k2.1; omega, fun d hd hm => ?_⟩ hfs (fun _ _ h => h)
  rw [k2.2 d (by have := h2.f.1; omega) fun hm => by have := h.low d hm; omega]
  exact h2.f.2 d hd hm
theorem putTimes_raw {J0 J : JH} {b i m nb : Nat} {s t fa fr : IV} {P : List Int} {E : List (Nat × Int)} {ts : List Int} {lf how : Int} (h : PI J0 J b s P E) (hm : J0[m]? = some (.cells 0 (uB P) false)) (hmb : m ≠ b) (hne : P ≠ []) (hP : P.length ≤ 1000000) (ht : Ls 1 t (ts.map (IV.int .i64))) (hl : ts.length ≤ 10) (hE : E.length ≤ 50)
  (hn : J[nb]? = some (.cells 0 [.int .u8 how, .int .u16 0, .int .u32 0] false)) (hc : pc BI F_wire_Fault_times [.agg [.int .u8 how, .int .u16 0, .int .u32 0]] = some t) (K : Out IV → JH → Prop)
  (hK : ∀ J' s' E', PI J0 J' b s' P (E ++ E') → E'.map (·.2) = ts → K (.goto 1 [.ptr b 0 0, fa, fr, .int .i64 lf, nI i]) J') :
  WP (dn BI l_wire_Wire_Put_k1 [.ptr b 0 0, fa, frI P m, .ptr nb 0 0, fr, .int .i64 lf, nI i] J) K := by
 unfold l_wire_Wire_Put_k1
 have htl := ht.lenF (J := J)
 rw [List.length_map] at htl
 simp -implicitDefEqProofs only [go_sem, go_sem_proc, hn, inb hn, dcp hc rfl, htl, dn_loop]
 refine WP_iter (fun k vs J' => ∃ j s' E', k = ts.length - j ∧ j ≤ ts.length ∧ vs = [.ptr b 0 0, fa, frI P m, fr, .int .i64 lf, nI i, t, nI ts.length, nI j] ∧ PI J0 J' b s' P (E ++ E') ∧ E'.map (·.2) = ts.take j) ?_ ts.length _ _ ⟨0, s, [], rfl, Nat.zero_le _, rfl, by simpa using h, by simp⟩
 rintro k vs J1 ⟨j, s', E', rfl, hj, rfl, h1, he⟩ K1 g1 g2 g3
 have hEl : E'.length = j := by have := congrArg List.length he; simp at this; omega
 by_cases hlt : j < ts.length
 ·refine putIn_raw h1 hm hmb hne hP ht hlt hl (by simp; omega) K1 fun J2 s2 q h2 => ?_
  refine g1 _ (ts.length - (j + 1)) _ (by omega) ⟨j + 1, s2, E' ++ [(q, ts[j])], rfl, by omega, rfl, by rw [← List.append_assoc]; exact h2, ?_⟩
  rw [List.map_append, he, List.take_succ_eq_append_getElem hlt]; rfl
 ·unfold l_wire_Wire_Put_k0
  simp -implicitDefEqProofs only [go_sem, go_sem_proc, show ¬ ((j : Int) < (ts.length : Int)) by omega]
  refine g2 _ _ _ (by decide) (hK _ s' E' h1 ?_)
  rw [he, List.take_of_length_le (by omega)]
abbrev fltI (how : Int) : IV := .agg [.int .u8 how, .int .u16 0, .int .u32 0]
theorem Put_raw {J0 : JH} {b m fb : Nat} {P : List Int} (hw : J0[b]? = some (.cells 0 [.sc (.slice none 0 0)] false)) (hm : J0[m]? = some (.cells 0 (uB P) false)) (hf : J0[fb]? = some (.cells 0 [frI P m, frI P m] false)) (hmb : m ≠ b) (hfb : fb ≠ b) (hne : P ≠ []) (hP : P.length ≤ 1000000) :
  RP (ic BI F_wire_Wire_Put [.ptr b 0 0, .sl fb 0 0 2 2 1, .lst 3 true [fltI 2]] J0) fun v J' => ∃ s' q1 q2 q3, PI J0 J' b s' P [(q1, 0), (q2, 0), (q3, 0)] := by
 refine RP_run fn_wire_Wire_Put rfl fun K hK => ?_
 unfold l_wire_Wire_Put
 have p0 : PI J0 J0 b (.sc (.slice none 0 0)) P [] := ⟨hw, .nil, by simp [blk, blkOf], by simp, by simp, .refl _ _, lt_get hw⟩
 have t2 : pc BI F_wire_Fault_times [fltI 2] = some (.lst 1 true [.int .i64 0, .int .i64 0]) := pcK 20 (by kernel_rfl)
 have t0 : pc BI F_wire_Fault_times [fltI 0] = some (.lst 1 true [.int .i64 0]) := pcK 20 (by kernel_rfl)
 simp -implicitDefEqProofs only [go_sem, go_sem_proc, iisNil, lenF_sl, dn_loop]
 refine WP_rangeT 2 (fun i vs J' => vs = [.ptr b 0 0, .lst 3 true [fltI 2], .sl fb 0 0 2 2 1, nI 2, nI i] ∧ ∃ s' E, PI J0 J' b s' P E ∧ E.map (·.2) = List.replicate (if i = 0 then 0 else if i = 1 then 2 else 3) 0) ?_ ⟨rfl, _, [], p0, rfl⟩
 rintro i vs J1 ⟨rfl, s1, E, h1, he⟩ hi K1 g1 g2 g3
 unfold l_wire_Wire_Put_k4
 have hf1 := h1.get hf hfb
 have hn1 := push_get J1 (.cells 0 [.int .u8 0, .int .u16 0, .int .u32 0] false)
 have hpn : ∀ X, (J1.push X)[fb]? = some (.cells 0 [frI P m, frI P m] false) := fun X => gpN (by have := lt_get hf1; omega) hf1
 have hll : E.length ≤ 3 := by have := congrArg List.length he; simp at this; split at this <;> (try split at this) <;> omega
 have h2 := fun X => h1.push X
 -- behind the choice of what becomes of it
 have fin : ∀ (how : Int) (t : IV) (ts : List Int), (how == 4) = false → Ls 1 t (ts.map (IV.int .i64)) → ts.length ≤ 10 → pc BI F_wire_Fault_times [.agg [.int .u8 how, .int .u16 0, .int .u32 0]] = some t → i < 2 →
   E.map (·.2) ++ ts = List.replicate (if i + 1 = 0 then 0 else if i + 1 = 1 then 2 else 3) 0 →
   WP (onJoinD 1 (dn BI l_wire_Wire_Put_k2 [.ptr b 0 0, .lst 3 true [fltI 2], frI P m, .ptr J1.size 0 0, .sl fb 0 0 2 2 1, nI 2, nI i] (J1.push (.cells 0 [.int .u8 how, .int .u16 0, .int .u32 0] false))) l_wire_Wire_Put_k3) K1 := by
  intro how t ts hh ht hl hc hi2 hrep
  refine WP_join fun K2 p1 p2 p3 => ?_
  unfold l_wire_Wire_Put_k2
  have hn := push_get J1 (.cells 0 [.int .u8 how, .int .u16 0, .int .u32 0] false)
  simp -implicitDefEqProofs only [go_sem, go_sem_proc, hn, inb hn, hh]
  refine putTimes_raw (h2 _) hm hmb hne hP ht hl (by omega) hn hc K2 fun J3 s3 E' h3 he' => p1 _ _ ?_
  unfold l_wire_Wire_Put_k3
  simp -implicitDefEqProofs only [go_sem, go_sem_proc, wrapS hi2 (show 2 ≤ 9223372036854775807 by omega)]
  exact g1 hi2 _ _ ⟨rfl, s3, E ++ E', h3, by rw [List.map_append, he']; exact hrep⟩
 by_cases h0 : i = 0
 ·subst h0
  have f := fin 2 _ [0, 0] rfl (.lst (f := true)) (by simp) t2 (by decide) (by rw [he]; rfl)
  simp -implicitDefEqProofs only [go_sem, go_sem_proc, show (((0 : Nat) : Int) < ((2 : Nat) : Int)) by decide, hf1, inb hf1, lenF_lst, iaddrF_lst, iasNat, asNat, show (((0 : Nat) : Int) < ((1 : Nat) : Int)) by decide]
  exact f
 ·by_cases h1' : i = 1
  ·subst h1'
   have f := fin 0 _ [0] rfl (.lst (f := true)) (by simp) t0 (by decide) (by rw [he]; rfl)
   simp -implicitDefEqProofs only [go_sem, go_sem_proc, show (((1 : Nat) : Int) < ((2 : Nat) : Int)) by decide, hf1, inb hf1, lenF_lst, iaddrF_lst, iasNat, asNat, show ¬ (((1 : Nat) : Int) < ((1 : Nat) : Int)) by decide]
   exact f
  ·obtain rfl : i = 2 := by omega
   simp -implicitDefEqProofs only [go_sem, go_sem_proc, show ¬ (((2 : Nat) : Int) < ((2 : Nat) : Int)) by decide]
   have he3 : E.map (·.2) = [0, 0, 0] := he
   obtain ⟨q1, q2, q3, rfl⟩ : ∃ q1 q2 q3, E = [(q1, 0), (q2, 0), (q3, 0)] := by
    match E, he3 with
    | [(q1, _), (q2, _), (q3, _)], h => simp at h; exact ⟨q1, q2, q3, by simp [h]⟩
   exact g3 _ _ (hK _ _ ⟨s1, q1, q2, q3, h1⟩)
theorem Put_none (J : JH) (x y : IV) : RP (ic BI F_wire_Wire_Put [.sc (.pointer none), x, y] J) fun v J' => J' = J := by
 refine RP_run fn_wire_Wire_Put rfl fun K hK => ?_
 unfold l_wire_Wire_Put
 simp -implicitDefEqProofs only [go_sem, go_sem_proc, iisNil, isNil]
 exact hK _ _ rfl
theorem Take_none (J : JH) : RP (ic BI F_wire_Wire_Take [.sc (.pointer none)] J) fun v J' => v = .sc (.slice none 0 0) ∧ J' = J := by
 refine RP_run fn_wire_Wire_Take rfl fun K hK => ?_
 unfold l_wire_Wire_Take
 simp -implicitDefEqProofs only [go_sem, go_sem_proc, iisNil, isNil]
 exact hK _ _ ⟨rfl, rfl⟩
theorem Waiting_none (J : JH) : RP (ic BI F_wire_Wire_Waiting [.sc (.pointer none)] J) fun v J' => v = nI 0 ∧ J' = J := by
 refine RP_run fn_wire_Wire_Waiting rfl fun K hK => ?_
 unfold l_wire_Wire_Waiting
 simp -implicitDefEqProofs only [go_sem, go_sem_proc, iisNil, isNil]
 exact hK _ _ ⟨rfl, rfl⟩
theorem awake18o : pc BI F_law18_awake [] = some (.bool true) := pcK 60 (by kernel_rfl)
theorem fits1 {n : Nat} (h : n ≤ 1000000) : fits n 1 = true := by
 simp only [fits, Bool.and_eq_true, decide_eq_true_eq]
 omega
theorem bSame_step (x y : IV) (as bs : List Int) (hx : Bs x as) (hy : Bs y bs) (hn : as.length = bs.length) (hb : as.length ≤ 1000000) (i : Nat) (hi : i ≤ as.length) (J : JH) (P : Out IV → JH → Prop)
  (h0 : i = as.length → P (.goto 0 []) J)
  (h1 : ∀ (h : i < as.length) (h' : i < bs.length), as[i] = bs[i] → P (.goto 1 [x, y, .int .i64 ((as.length : Nat) : Int), .int .i64 ((i + 1 : Nat) : Int)]) J)
  (h2 : ∀ (h : i < as.length) (h' : i < bs.length), ¬ as[i] = bs[i] → P (.ret [.bool false]) J) :
  WP (dn BI l_ref01_Same_k0 [x, y, .int .i64 ((as.length : Nat) : Int), .int .i64 (i : Int)] J) P := by
 by_cases h : i < as.length
 ·have hj : i < bs.length := by omega
  have hw : IntKind.i64.wrap ((i : Int) + 1) = ((i + 1 : Nat) : Int) := by rw [wrap_i64 (by omega) (by omega)]; omega
  unfold l_ref01_Same_k0
  simp -implicitDefEqProofs only [dn_ret, dn_goto, iexec, evI_0, evI_succ, evI_int, evI_bool, evI_nilsl, evI_nilp, List.cons_append, List.nil_append, scal2_sc, abin, aun, ilift_some, Option.map_some, Option.map_none, decide_eq_true_eq, List.map_cons, List.map_nil, reduceIte, if_true, if_false, Bool.false_eq_true, inew, iload, istore, iwr, ird, icells, ione, one, List.getElem?_toArray, List.getElem?_cons_zero, List.getElem?_cons_succ, List.push_toArray, List.size_toArray, List.length_cons, List.length_nil, List.setIfInBounds_toArray, List.set_cons_zero, List.set_cons_succ, isplice_cons, List.drop_succ_cons, List.drop_zero, List.take_succ_cons, List.take_zero, List.drop_nil, List.take_nil, List.append_nil, List.all_cons, List.all_nil, Bool.and_true, Bool.true_and, Bool.and_self, Nat.zero_add, Nat.add_zero, Nat.reduceAdd, Nat.reduceLeDiff, Nat.reduceMul, Nat.le_refl, true_and, and_true, and_self, List.getElem?_nil, BI_zc, BI_zv, BI_co, zcT, zvT, coT, not_true_eq_false, not_false_eq_true, Bool.not_true, Bool.not_false, stepI', wantsI, ifill, rawB, allC1, ievs, Nat.reduceEqDiff, itup, Nat.le_add_left, Nat.le_add_right, iaggEq, List.foldl, iminI, iminF, imin2, min2, iisNil, isNil, ilen, Option.isNone_none, Option.isNone_some, Nat.zero_le, decide_true, decide_false, ireps, List.replicate, List.flatten_cons, List.flatten_nil, ichk, itouch, ctouch, ilooks, isame, untouched, Option.isSome_some, Bool.or_true, Bool.true_or, List.contains_nil, Int.reduceLT, Int.reduceLE, blkOf, IntKind.bits, iasNat, asNat, Int.toNat_natCast, Int.natCast_nonneg, List.length_map, Int.reduceToNat, iscells, ibnd, islice, capOf, Option.isSome_none, Bool.false_and, Bool.and_false, Bool.or_false, Bool.false_or, bne_self_eq_false, Nat.not_lt_zero, Nat.mul_one, Nat.one_mul, Nat.zero_mul, Nat.mul_zero, beq_self_eq_true, Nat.sub_zero, Nat.reduceSub, List.length_set, false_implies, implies_true, forall_const, ↓dnW_oca, Nat.reduceLT, evI_fn, Nat.zero_lt_one, dnW_o, dnW_om, dnW_oc, dnW_ite, dnW_join, thenD_some, thenD_ite, onIfD_bool, onJoinD_out, onJoinD_ret, onJoinD_ite, Int.reduceEq, WP_some, WP_ite, byOut_goto, byOut_ret, ↓iexec_len, ↓iexec_iaddr, ↓iexec_append, ↓iexec_store, storeF_ptr, lenF_nil, lenF_lst, lenF_sl, lenF_str, iaddrF_sl, iaddrF_lst, show ((i : Int) < (as.length : Int)) by omega, hx.at h, hy.at hj, bne_iff_ne, ne_eq, hw]
  split
  ·rename_i he; exact h2 h hj he
  ·rename_i he; exact h1 h hj (Classical.not_not.1 he)
 ·unfold l_ref01_Same_k0
  simp -implicitDefEqProofs only [dn_ret, dn_goto, iexec, evI_0, evI_succ, evI_int, evI_bool, evI_nilsl, evI_nilp, List.cons_append, List.nil_append, scal2_sc, abin, aun, ilift_some, Option.map_some, Option.map_none, decide_eq_true_eq, List.map_cons, List.map_nil, reduceIte, if_true, if_false, Bool.false_eq_true, inew, iload, istore, iwr, ird, icells, ione, one, List.getElem?_toArray, List.getElem?_cons_zero, List.getElem?_cons_succ, List.push_toArray, List.size_toArray, List.length_cons, List.length_nil, List.setIfInBounds_toArray, List.set_cons_zero, List.set_cons_succ, isplice_cons, List.drop_succ_cons, List.drop_zero, List.take_succ_cons, List.take_zero, List.drop_nil, List.take_nil, List.append_nil, List.all_cons, List.all_nil, Bool.and_true, Bool.true_and, Bool.and_self, Nat.zero_add, Nat.add_zero, Nat.reduceAdd, Nat.reduceLeDiff, Nat.reduceMul, Nat.le_refl, true_and, and_true, and_self, List.getElem?_nil, BI_zc, BI_zv, BI_co, zcT, zvT, coT, not_true_eq_false, not_false_eq_true, Bool.not_true, Bool.not_false, stepI', wantsI, ifill, rawB, allC1, ievs, Nat.reduceEqDiff, itup, Nat.le_add_left, Nat.le_add_right, iaggEq, List.foldl, iminI, iminF, imin2, min2, iisNil, isNil, ilen, Option.isNone_none, Option.isNone_some, Nat.zero_le, decide_true, decide_false, ireps, List.replicate, List.flatten_cons, List.flatten_nil, ichk, itouch, ctouch, ilooks, isame, untouched, Option.isSome_some, Bool.or_true, Bool.true_or, List.contains_nil, Int.reduceLT, Int.reduceLE, blkOf, IntKind.bits, iasNat, asNat, Int.toNat_natCast, Int.natCast_nonneg, List.length_map, Int.reduceToNat, iscells, ibnd, islice, capOf, Option.isSome_none, Bool.false_and, Bool.and_false, Bool.or_false, Bool.false_or, bne_self_eq_false, Nat.not_lt_zero, Nat.mul_one, Nat.one_mul, Nat.zero_mul, Nat.mul_zero, beq_self_eq_true, Nat.sub_zero, Nat.reduceSub, List.length_set, false_implies, implies_true, forall_const, ↓dnW_oca, Nat.reduceLT, evI_fn, Nat.zero_lt_one, dnW_o, dnW_om, dnW_oc, dnW_ite, dnW_join, thenD_some, thenD_ite, onIfD_bool, onJoinD_out, onJoinD_ret, onJoinD_ite, Int.reduceEq, WP_some, WP_ite, byOut_goto, byOut_ret, ↓iexec_len, ↓iexec_iaddr, ↓iexec_append, ↓iexec_store, storeF_ptr, lenF_nil, lenF_lst, lenF_sl, lenF_str, iaddrF_sl, iaddrF_lst, show ¬ ((i : Int) < (as.length : Int)) by omega]
  exact h0 (by omega)
theorem bSame_ok {x y : IV} {as bs : List Int} (hx : Bs x as) (hy : Bs y bs) (hb : as.length ≤ 1000000) : pc BI F_ref01_Same [x, y] = some (.bool (decide (as = bs))) := by
 refine pcE fn_ref01_Same rfl fun K hK => ?_
 ·by_cases hn : as.length = bs.length
  ·unfold l_ref01_Same
   simp -implicitDefEqProofs only [dn_ret, dn_goto, iexec, evI_0, evI_succ, evI_int, evI_bool, evI_nilsl, evI_nilp, List.cons_append, List.nil_append, scal2_sc, abin, aun, ilift_some, Option.map_some, Option.map_none, decide_eq_true_eq, List.map_cons, List.map_nil, reduceIte, if_true, if_false, Bool.false_eq_true, inew, iload, istore, iwr, ird, icells, ione, one, List.getElem?_toArray, List.getElem?_cons_zero, List.getElem?_cons_succ, List.push_toArray, List.size_toArray, List.length_cons, List.length_nil, List.setIfInBounds_toArray, List.set_cons_zero, List.set_cons_succ, isplice_cons, List.drop_succ_cons, List.drop_zero, List.take_succ_cons, List.take_zero, List.drop_nil, List.take_nil, List.append_nil, List.all_cons, List.all_nil, Bool.and_true, Bool.true_and, Bool.and_self, Nat.zero_add, Nat.add_zero, Nat.reduceAdd, Nat.reduceLeDiff, Nat.reduceMul, Nat.le_refl, true_and, and_true, and_self, List.getElem?_nil, BI_zc, BI_zv, BI_co, zcT, zvT, coT, not_true_eq_false, not_false_eq_true, Bool.not_true, Bool.not_false, stepI', wantsI, ifill, rawB, allC1, ievs, Nat.reduceEqDiff, itup, Nat.le_add_left, Nat.le_add_right, iaggEq, List.foldl, iminI, iminF, imin2, min2, iisNil, isNil, ilen, Option.isNone_none, Option.isNone_some, Nat.zero_le, decide_true, decide_false, ireps, List.replicate, List.flatten_cons, List.flatten_nil, ichk, itouch, ctouch, ilooks, isame, untouched, Option.isSome_some, Bool.or_true, Bool.true_or, List.contains_nil, Int.reduceLT, Int.reduceLE, blkOf, IntKind.bits, iasNat, asNat, Int.toNat_natCast, Int.natCast_nonneg, List.length_map, Int.reduceToNat, iscells, ibnd, islice, capOf, Option.isSome_none, Bool.false_and, Bool.and_false, Bool.or_false, Bool.false_or, bne_self_eq_false, Nat.not_lt_zero, Nat.mul_one, Nat.one_mul, Nat.zero_mul, Nat.mul_zero, beq_self_eq_true, Nat.sub_zero, Nat.reduceSub, List.length_set, false_implies, implies_true, forall_const, ↓dnW_oca, Nat.reduceLT, evI_fn, Nat.zero_lt_one, dnW_o, dnW_om, dnW_oc, dnW_ite, dnW_join, thenD_some, thenD_ite, onIfD_bool, onJoinD_out, onJoinD_ret, onJoinD_ite, Int.reduceEq, WP_some, WP_ite, byOut_goto, byOut_ret, ↓iexec_len, ↓iexec_iaddr, ↓iexec_append, ↓iexec_store, storeF_ptr, lenF_nil, lenF_lst, lenF_sl, lenF_str, iaddrF_sl, iaddrF_lst, hx.lenF, hy.lenF, bne_iff_ne, ne_eq, hn, dn_loop]
   rw [← hn]
   refine WP_loop (by decide) (fun m vs J => ∃ i : Nat, i + m = as.length ∧ as.take i = bs.take i ∧ vs = [x, y, .int .i64 ((as.length : Nat) : Int), .int .i64 (i : Int)]) ?_ as.length _ _ ⟨0, by omega, rfl, rfl⟩
   rintro m vs J ⟨i, hm, ht, rfl⟩ K1 g1 g2 g3
   refine bSame_step x y as bs hx hy hn hb i (by omega) J _ (fun he => ?_) (fun h h' he => ?_) (fun h h' he => ?_)
   ·refine g2 _ _ ?_
    unfold l_ref01_Same_k1
    simp -implicitDefEqProofs only [dn_ret, dn_goto, iexec, evI_0, evI_succ, evI_int, evI_bool, evI_nilsl, evI_nilp, List.cons_append, List.nil_append, scal2_sc, abin, aun, ilift_some, Option.map_some, Option.map_none, decide_eq_true_eq, List.map_cons, List.map_nil, reduceIte, if_true, if_false, Bool.false_eq_true, inew, iload, istore, iwr, ird, icells, ione, one, List.getElem?_toArray, List.getElem?_cons_zero, List.getElem?_cons_succ, List.push_toArray, List.size_toArray, List.length_cons, List.length_nil, List.setIfInBounds_toArray, List.set_cons_zero, List.set_cons_succ, isplice_cons, List.drop_succ_cons, List.drop_zero, List.take_succ_cons, List.take_zero, List.drop_nil, List.take_nil, List.append_nil, List.all_cons, List.all_nil, Bool.and_true, Bool.true_and, Bool.and_self, Nat.zero_add, Nat.add_zero, Nat.reduceAdd, Nat.reduceLeDiff, Nat.reduceMul, Nat.le_refl, true_and, and_true, and_self, List.getElem?_nil, BI_zc, BI_zv, BI_co, zcT, zvT, coT, not_true_eq_false, not_false_eq_true, Bool.not_true, Bool.not_false, stepI', wantsI, ifill, rawB, allC1, ievs, Nat.reduceEqDiff, itup, Nat.le_add_left, Nat.le_add_right, iaggEq, List.foldl, iminI, iminF, imin2, min2, iisNil, isNil, ilen, Option.isNone_none, Option.isNone_some, Nat.zero_le, decide_true, decide_false, ireps, List.replicate, List.flatten_cons, List.flatten_nil, ichk, itouch, ctouch, ilooks, isame, untouched, Option.isSome_some, Bool.or_true, Bool.true_or, List.contains_nil, Int.reduceLT, Int.reduceLE, blkOf, IntKind.bits, iasNat, asNat, Int.toNat_natCast, Int.natCast_nonneg, List.length_map, Int.reduceToNat, iscells, ibnd, islice, capOf, Option.isSome_none, Bool.false_and, Bool.and_false, Bool.or_false, Bool.false_or, bne_self_eq_false, Nat.not_lt_zero, Nat.mul_one, Nat.one_mul, Nat.zero_mul, Nat.mul_zero, beq_self_eq_true, Nat.sub_zero, Nat.reduceSub, List.length_set, false_implies, implies_true, forall_const, ↓dnW_oca, Nat.reduceLT, evI_fn, Nat.zero_lt_one, dnW_o, dnW_om, dnW_oc, dnW_ite, dnW_join, thenD_some, thenD_ite, onIfD_bool, onJoinD_out, onJoinD_ret, onJoinD_ite, Int.reduceEq, WP_some, WP_ite, byOut_goto, byOut_ret, ↓iexec_len, ↓iexec_iaddr, ↓iexec_append, ↓iexec_store, storeF_ptr, lenF_nil, lenF_lst, lenF_sl, lenF_str, iaddrF_sl, iaddrF_lst]
    refine hK _ _ (frzE rfl ?_)
    rw [List.take_of_length_le (by omega), List.take_of_length_le (by omega)] at ht
    simp [ht, itup]
   ·refine g1 _ (m - 1) _ (by omega) ⟨i + 1, by omega, by rw [List.take_succ_eq_append_getElem h, List.take_succ_eq_append_getElem h', ht, he], rfl⟩
   ·refine g3 _ _ (hK _ _ (frzE rfl ?_))
    have : as ≠ bs := fun h => he (by simp [h])
    simp [this, itup]
  ·have hne : as ≠ bs := fun h => hn (by rw [h])
   unfold l_ref01_Same
   simp -implicitDefEqProofs only [dn_ret, dn_goto, iexec, evI_0, evI_succ, evI_int, evI_bool, evI_nilsl, evI_nilp, List.cons_append, List.nil_append, scal2_sc, abin, aun, ilift_some, Option.map_some, Option.map_none, decide_eq_true_eq, List.map_cons, List.map_nil, reduceIte, if_true, if_false, Bool.false_eq_true, inew, iload, istore, iwr, ird, icells, ione, one, List.getElem?_toArray, List.getElem?_cons_zero, List.getElem?_cons_succ, List.push_toArray, List.size_toArray, List.length_cons, List.length_nil, List.setIfInBounds_toArray, List.set_cons_zero, List.set_cons_succ, isplice_cons, List.drop_succ_cons, List.drop_zero, List.take_succ_cons, List.take_zero, List.drop_nil, List.take_nil, List.append_nil, List.all_cons, List.all_nil, Bool.and_true, Bool.true_and, Bool.and_self, Nat.zero_add, Nat.add_zero, Nat.reduceAdd, Nat.reduceLeDiff, Nat.reduceMul, Nat.le_refl, true_and, and_true, and_self, List.getElem?_nil, BI_zc, BI_zv, BI_co, zcT, zvT, coT, not_true_eq_false, not_false_eq_true, Bool.not_true, Bool.not_false, stepI', wantsI, ifill, rawB, allC1, ievs, Nat.reduceEqDiff, itup, Nat.le_add_left, Nat.le_add_right, iaggEq, List.foldl, iminI, iminF, imin2, min2, iisNil, isNil, ilen, Option.isNone_none, Option.isNone_some, Nat.zero_le, decide_true, decide_false, ireps, List.replicate, List.flatten_cons, List.flatten_nil, ichk, itouch, ctouch, ilooks, isame, untouched, Option.isSome_some, Bool.or_true, Bool.true_or, List.contains_nil, Int.reduceLT, Int.reduceLE, blkOf, IntKind.bits, iasNat, asNat, Int.toNat_natCast, Int.natCast_nonneg, List.length_map, Int.reduceToNat, iscells, ibnd, islice, capOf, Option.isSome_none, Bool.false_and, Bool.and_false, Bool.or_false, Bool.false_or, bne_self_eq_false, Nat.not_lt_zero, Nat.mul_one, Nat.one_mul, Nat.zero_mul, Nat.mul_zero, beq_self_eq_true, Nat.sub_zero, Nat.reduceSub, List.length_set, false_implies, implies_true, forall_const, ↓dnW_oca, Nat.reduceLT, evI_fn, Nat.zero_lt_one, dnW_o, dnW_om, dnW_oc, dnW_ite, dnW_join, thenD_some, thenD_ite, onIfD_bool, onJoinD_out, onJoinD_ret, onJoinD_ite, Int.reduceEq, WP_some, WP_ite, byOut_goto, byOut_ret, ↓iexec_len, ↓iexec_iaddr, ↓iexec_append, ↓iexec_store, storeF_ptr, lenF_nil, lenF_lst, lenF_sl, lenF_str, iaddrF_sl, iaddrF_lst, hx.lenF, hy.lenF, bne_iff_ne, ne_eq, Int.natCast_inj, hn, hne]
   exact hK _ _ (frzE rfl (by simp [itup, hne]))
theorem cut_step (x out : IV) (l : List Int) (hx : Bs x l) (most : Nat) (i : Nat) (hi : i ≤ l.length) (hb : l.length ≤ 9223372036854775807) (J : JH) (cs : List IV) (hg : Grow J out 1 cs) (hc : cs.length < 1000000) (P : Out IV → JH → Prop)
  (h0 : i = l.length → P (.goto 0 [out]) J)
  (h1 : ∀ (h : i < l.length), i < most → ∀ out' J', Grow J' out' 1 (cs ++ [IV.int .u8 l[i]]) → P (.goto 1 [.int .i64 (most : Int), out', x, .int .i64 ((l.length : Nat) : Int), .int .i64 ((i + 1 : Nat) : Int)]) J')
  (h2 : ∀ (h : i < l.length), ¬ i < most → P (.goto 1 [.int .i64 (most : Int), out, x, .int .i64 ((l.length : Nat) : Int), .int .i64 ((i + 1 : Nat) : Int)]) J) :
  WP (dn BI l_ref01_Cut_k0 [.int .i64 (most : Int), out, x, .int .i64 ((l.length : Nat) : Int), .int .i64 (i : Int)] J) P := by
 by_cases h : i < l.length
 ·have hw : IntKind.i64.wrap ((i : Int) + 1) = ((i + 1 : Nat) : Int) := by rw [wrap_i64 (by omega) (by omega)]; omega
  unfold l_ref01_Cut_k0
  by_cases hm : i < most
  ·simp -implicitDefEqProofs only [dn_ret, dn_goto, iexec, evI_0, evI_succ, evI_int, evI_bool, evI_nilsl, evI_nilp, List.cons_append, List.nil_append, scal2_sc, abin, aun, ilift_some, Option.map_some, Option.map_none, decide_eq_true_eq, List.map_cons, List.map_nil, reduceIte, if_true, if_false, Bool.false_eq_true, inew, iload, istore, iwr, ird, icells, ione, one, List.getElem?_toArray, List.getElem?_cons_zero, List.getElem?_cons_succ, List.push_toArray, List.size_toArray, List.length_cons, List.length_nil, List.setIfInBounds_toArray, List.set_cons_zero, List.set_cons_succ, isplice_cons, List.drop_succ_cons, List.drop_zero, List.take_succ_cons, List.take_zero, List.drop_nil, List.take_nil, List.append_nil, List.all_cons, List.all_nil, Bool.and_true, Bool.true_and, Bool.and_self, Nat.zero_add, Nat.add_zero, Nat.reduceAdd, Nat.reduceLeDiff, Nat.reduceMul, Nat.le_refl, true_and, and_true, and_self, List.getElem?_nil, BI_zc, BI_zv, BI_co, zcT, zvT, coT, not_true_eq_false, not_false_eq_true, Bool.not_true, Bool.not_false, stepI', wantsI, ifill, rawB, allC1, ievs, Nat.reduceEqDiff, itup, Nat.le_add_left, Nat.le_add_right, iaggEq, List.foldl, iminI, iminF, imin2, min2, iisNil, isNil, ilen, Option.isNone_none, Option.isNone_some, Nat.zero_le, decide_true, decide_false, ireps, List.replicate, List.flatten_cons, List.flatten_nil, ichk, itouch, ctouch, ilooks, isame, untouched, Option.isSome_some, Bool.or_true, Bool.true_or, List.contains_nil, Int.reduceLT, Int.reduceLE, blkOf, IntKind.bits, iasNat, asNat, Int.toNat_natCast, Int.natCast_nonneg, List.length_map, Int.reduceToNat, iscells, ibnd, islice, capOf, Option.isSome_none, Bool.false_and, Bool.and_false, Bool.or_false, Bool.false_or, bne_self_eq_false, Nat.not_lt_zero, Nat.mul_one, Nat.one_mul, Nat.zero_mul, Nat.mul_zero, beq_self_eq_true, Nat.sub_zero, Nat.reduceSub, List.length_set, false_implies, implies_true, forall_const, ↓dnW_oca, Nat.reduceLT, evI_fn, Nat.zero_lt_one, dnW_o, dnW_om, dnW_oc, dnW_ite, dnW_join, thenD_some, thenD_ite, onIfD_bool, onJoinD_out, onJoinD_ret, onJoinD_ite, Int.reduceEq, WP_some, WP_ite, byOut_goto, byOut_ret, ↓iexec_len, ↓iexec_iaddr, ↓iexec_append, ↓iexec_store, storeF_ptr, lenF_nil, lenF_lst, lenF_sl, lenF_str, iaddrF_sl, iaddrF_lst, show ((i : Int) < (l.length : Int)) by omega, hx.at h, show ((i : Int) < (most : Int)) by omega, hw, UNK_pos, one_lt_UNK, ipureL, ipure, grp, mkE, List.headD]
   refine WP_bind (hg.app (m := 1) (ds := [IV.int .u8 l[i]]) (by omega) (by simp [iscells, icells]) rfl rfl rfl (fits1 (n := cs.length + 1) (by omega))) fun s' J' hs => ?_
   simp -implicitDefEqProofs only [dn_ret, dn_goto, iexec, evI_0, evI_succ, evI_int, evI_bool, evI_nilsl, evI_nilp, List.cons_append, List.nil_append, scal2_sc, abin, aun, ilift_some, Option.map_some, Option.map_none, decide_eq_true_eq, List.map_cons, List.map_nil, reduceIte, if_true, if_false, Bool.false_eq_true, inew, iload, istore, iwr, ird, icells, ione, one, List.getElem?_toArray, List.getElem?_cons_zero, List.getElem?_cons_succ, List.push_toArray, List.size_toArray, List.length_cons, List.length_nil, List.setIfInBounds_toArray, List.set_cons_zero, List.set_cons_succ, isplice_cons, List.drop_succ_cons, List.drop_zero, List.take_succ_cons, List.take_zero, List.drop_nil, List.take_nil, List.append_nil, List.all_cons, List.all_nil, Bool.and_true, Bool.true_and, Bool.and_self, Nat.zero_add, Nat.add_zero, Nat.reduceAdd, Nat.reduceLeDiff, Nat.reduceMul, Nat.le_refl, true_and, and_true, and_self, List.getElem?_nil, BI_zc, BI_zv, BI_co, zcT, zvT, coT, not_true_eq_false, not_false_eq_true, Bool.not_true, Bool.not_false, stepI', wantsI, ifill, rawB, allC1, ievs, Nat.reduceEqDiff, itup, Nat.le_add_left, Nat.le_add_right, iaggEq, List.foldl, iminI, iminF, imin2, min2, iisNil, isNil, ilen, Option.isNone_none, Option.isNone_some, Nat.zero_le, decide_true, decide_false, ireps, List.replicate, List.flatten_cons, List.flatten_nil, ichk, itouch, ctouch, ilooks, isame, untouched, Option.isSome_some, Bool.or_true, Bool.true_or, List.contains_nil, Int.reduceLT, Int.reduceLE, blkOf, IntKind.bits, iasNat, asNat, Int.toNat_natCast, Int.natCast_nonneg, List.length_map, Int.reduceToNat, iscells, ibnd, islice, capOf, Option.isSome_none, Bool.false_and, Bool.and_false, Bool.or_false, Bool.false_or, bne_self_eq_false, Nat.not_lt_zero, Nat.mul_one, Nat.one_mul, Nat.zero_mul, Nat.mul_zero, beq_self_eq_true, Nat.sub_zero, Nat.reduceSub, List.length_set, false_implies, implies_true, forall_const, ↓dnW_oca, Nat.reduceLT, evI_fn, Nat.zero_lt_one, dnW_o, dnW_om, dnW_oc, dnW_ite, dnW_join, thenD_some, thenD_ite, onIfD_bool, onJoinD_out, onJoinD_ret, onJoinD_ite, Int.reduceEq, WP_some, WP_ite, byOut_goto, byOut_ret, ↓iexec_len, ↓iexec_iaddr, ↓iexec_append, ↓iexec_store, storeF_ptr, lenF_nil, lenF_lst, lenF_sl, lenF_str, iaddrF_sl, iaddrF_lst, hw]
   exact h1 h hm s' J' hs.1
  ·simp -implicitDefEqProofs only [dn_ret, dn_goto, iexec, evI_0, evI_succ, evI_int, evI_bool, evI_nilsl, evI_nilp, List.cons_append, List.nil_append, scal2_sc, abin, aun, ilift_some, Option.map_some, Option.map_none, decide_eq_true_eq, List.map_cons, List.map_nil, reduceIte, if_true, if_false, Bool.false_eq_true, inew, iload, istore, iwr, ird, icells, ione, one, List.getElem?_toArray, List.getElem?_cons_zero, List.getElem?_cons_succ, List.push_toArray, List.size_toArray, List.length_cons, List.length_nil, List.setIfInBounds_toArray, List.set_cons_zero, List.set_cons_succ, isplice_cons, List.drop_succ_cons, List.drop_zero, List.take_succ_cons, List.take_zero, List.drop_nil, List.take_nil, List.append_nil, List.all_cons, List.all_nil, Bool.and_true, Bool.true_and, Bool.and_self, Nat.zero_add, Nat.add_zero, Nat.reduceAdd, Nat.reduceLeDiff, Nat.reduceMul, Nat.le_refl, true_and, and_true, and_self, List.getElem?_nil, BI_zc, BI_zv, BI_co, zcT, zvT, coT, not_true_eq_false, not_false_eq_true, Bool.not_true, Bool.not_false, stepI', wantsI, ifill, rawB, allC1, ievs, Nat.reduceEqDiff, itup, Nat.le_add_left, Nat.le_add_right, iaggEq, List.foldl, iminI, iminF, imin2, min2, iisNil, isNil, ilen, Option.isNone_none, Option.isNone_some, Nat.zero_le, decide_true, decide_false, ireps, List.replicate, List.flatten_cons, List.flatten_nil, ichk, itouch, ctouch, ilooks, isame, untouched, Option.isSome_some, Bool.or_true, Bool.true_or, List.contains_nil, Int.reduceLT, Int.reduceLE, blkOf, IntKind.bits, iasNat, asNat, Int.toNat_natCast, Int.natCast_nonneg, List.length_map, Int.reduceToNat, iscells, ibnd, islice, capOf, Option.isSome_none, Bool.false_and, Bool.and_false, Bool.or_false, Bool.false_or, bne_self_eq_false, Nat.not_lt_zero, Nat.mul_one, Nat.one_mul, Nat.zero_mul, Nat.mul_zero, beq_self_eq_true, Nat.sub_zero, Nat.reduceSub, List.length_set, false_implies, implies_true, forall_const, ↓dnW_oca, Nat.reduceLT, evI_fn, Nat.zero_lt_one, dnW_o, dnW_om, dnW_oc, dnW_ite, dnW_join, thenD_some, thenD_ite, onIfD_bool, onJoinD_out, onJoinD_ret, onJoinD_ite, Int.reduceEq, WP_some, WP_ite, byOut_goto, byOut_ret, ↓iexec_len, ↓iexec_iaddr, ↓iexec_append, ↓iexec_store, storeF_ptr, lenF_nil, lenF_lst, lenF_sl, lenF_str, iaddrF_sl, iaddrF_lst, show ((i : Int) < (l.length : Int)) by omega, hx.at h, show ¬ ((i : Int) < (most : Int)) by omega, hw]
   exact h2 h hm
 ·unfold l_ref01_Cut_k0
  simp -implicitDefEqProofs only [dn_ret, dn_goto, iexec, evI_0, evI_succ, evI_int, evI_bool, evI_nilsl, evI_nilp, List.cons_append, List.nil_append, scal2_sc, abin, aun, ilift_some, Option.map_some, Option.map_none, decide_eq_true_eq, List.map_cons, List.map_nil, reduceIte, if_true, if_false, Bool.false_eq_true, inew, iload, istore, iwr, ird, icells, ione, one, List.getElem?_toArray, List.getElem?_cons_zero, List.getElem?_cons_succ, List.push_toArray, List.size_toArray, List.length_cons, List.length_nil, List.setIfInBounds_toArray, List.set_cons_zero, List.set_cons_succ, isplice_cons, List.drop_succ_cons, List.drop_zero, List.take_succ_cons, List.take_zero, List.drop_nil, List.take_nil, List.append_nil, List.all_cons, List.all_nil, Bool.and_true, Bool.true_and, Bool.and_self, Nat.zero_add, Nat.add_zero, Nat.reduceAdd, Nat.reduceLeDiff, Nat.reduceMul, Nat.le_refl, true_and, and_true, and_self, List.getElem?_nil, BI_zc, BI_zv, BI_co, zcT, zvT, coT, not_true_eq_false, not_false_eq_true, Bool.not_true, Bool.not_false, stepI', wantsI, ifill, rawB, allC1, ievs, Nat.reduceEqDiff, itup, Nat.le_add_left, Nat.le_add_right, iaggEq, List.foldl, iminI, iminF, imin2, min2, iisNil, isNil, ilen, Option.isNone_none, Option.isNone_some, Nat.zero_le, decide_true, decide_false, ireps, List.replicate, List.flatten_cons, List.flatten_nil, ichk, itouch, ctouch, ilooks, isame, untouched, Option.isSome_some, Bool.or_true, Bool.true_or, List.contains_nil, Int.reduceLT, Int.reduceLE, blkOf, IntKind.bits, iasNat, asNat, Int.toNat_natCast, Int.natCast_nonneg, List.length_map, Int.reduceToNat, iscells, ibnd, islice, capOf, Option.isSome_none, Bool.false_and, Bool.and_false, Bool.or_false, Bool.false_or, bne_self_eq_false, Nat.not_lt_zero, Nat.mul_one, Nat.one_mul, Nat.zero_mul, Nat.mul_zero, beq_self_eq_true, Nat.sub_zero, Nat.reduceSub, List.length_set, false_implies, implies_true, forall_const, ↓dnW_oca, Nat.reduceLT, evI_fn, Nat.zero_lt_one, dnW_o, dnW_om, dnW_oc, dnW_ite, dnW_join, thenD_some, thenD_ite, onIfD_bool, onJoinD_out, onJoinD_ret, onJoinD_ite, Int.reduceEq, WP_some, WP_ite, byOut_goto, byOut_ret, ↓iexec_len, ↓iexec_iaddr, ↓iexec_append, ↓iexec_store, storeF_ptr, lenF_nil, lenF_lst, lenF_sl, lenF_str, iaddrF_sl, iaddrF_lst, show ¬ ((i : Int) < (l.length : Int)) by omega]
  exact h0 (by omega)
theorem ints_grow {κ : IntKind} {l : List Int} {k : Nat} (h : k < l.length) : (l.take k).map (IV.int κ) ++ [IV.int κ l[k]] = (l.take (k + 1)).map (IV.int κ) := by
 rw [List.take_succ_eq_append_getElem h, List.map_append]; rfl
theorem bCut_ok {x : IV} {l : List Int} (hx : Bs x l) (most : Nat) (hb : l.length ≤ 9223372036854775807) (hm : most < 1000000) : ∃ y, pc BI F_ref01_Cut [x, .int .i64 (most : Int)] = some y ∧ Bs y (l.take most) := by
 refine pcW fn_ref01_Cut rfl fun K hK => ?_
 unfold l_ref01_Cut
 simp -implicitDefEqProofs only [dn_ret, dn_goto, iexec, evI_0, evI_succ, evI_int, evI_bool, evI_nilsl, evI_nilp, List.cons_append, List.nil_append, scal2_sc, abin, aun, ilift_some, Option.map_some, Option.map_none, decide_eq_true_eq, List.map_cons, List.map_nil, reduceIte, if_true, if_false, Bool.false_eq_true, inew, iload, istore, iwr, ird, icells, ione, one, List.getElem?_toArray, List.getElem?_cons_zero, List.getElem?_cons_succ, List.push_toArray, List.size_toArray, List.length_cons, List.length_nil, List.setIfInBounds_toArray, List.set_cons_zero, List.set_cons_succ, isplice_cons, List.drop_succ_cons, List.drop_zero, List.take_succ_cons, List.take_zero, List.drop_nil, List.take_nil, List.append_nil, List.all_cons, List.all_nil, Bool.and_true, Bool.true_and, Bool.and_self, Nat.zero_add, Nat.add_zero, Nat.reduceAdd, Nat.reduceLeDiff, Nat.reduceMul, Nat.le_refl, true_and, and_true, and_self, List.getElem?_nil, BI_zc, BI_zv, BI_co, zcT, zvT, coT, not_true_eq_false, not_false_eq_true, Bool.not_true, Bool.not_false, stepI', wantsI, ifill, rawB, allC1, ievs, Nat.reduceEqDiff, itup, Nat.le_add_left, Nat.le_add_right, iaggEq, List.foldl, iminI, iminF, imin2, min2, iisNil, isNil, ilen, Option.isNone_none, Option.isNone_some, Nat.zero_le, decide_true, decide_false, ireps, List.replicate, List.flatten_cons, List.flatten_nil, ichk, itouch, ctouch, ilooks, isame, untouched, Option.isSome_some, Bool.or_true, Bool.true_or, List.contains_nil, Int.reduceLT, Int.reduceLE, blkOf, IntKind.bits, iasNat, asNat, Int.toNat_natCast, Int.natCast_nonneg, List.length_map, Int.reduceToNat, iscells, ibnd, islice, capOf, Option.isSome_none, Bool.false_and, Bool.and_false, Bool.or_false, Bool.false_or, bne_self_eq_false, Nat.not_lt_zero, Nat.mul_one, Nat.one_mul, Nat.zero_mul, Nat.mul_zero, beq_self_eq_true, Nat.sub_zero, Nat.reduceSub, List.length_set, false_implies, implies_true, forall_const, ↓dnW_oca, Nat.reduceLT, evI_fn, Nat.zero_lt_one, dnW_o, dnW_om, dnW_oc, dnW_ite, dnW_join, thenD_some, thenD_ite, onIfD_bool, onJoinD_out, onJoinD_ret, onJoinD_ite, Int.reduceEq, WP_some, WP_ite, byOut_goto, byOut_ret, ↓iexec_len, ↓iexec_iaddr, ↓iexec_append, ↓iexec_store, storeF_ptr, lenF_nil, lenF_lst, lenF_sl, lenF_str, iaddrF_sl, iaddrF_lst, hx.lenF, dn_loop]
 refine WP_loop (by decide) (fun m vs J => ∃ i : Nat, i + m = l.length ∧ ∃ out, Grow J out 1 ((l.take (min i most)).map (IV.int .u8)) ∧ vs = [.int .i64 (most : Int), out, x, .int .i64 ((l.length : Nat) : Int), .int .i64 (i : Int)]) ?_ l.length _ _ ⟨0, by omega, _, by simp; exact .nil, rfl⟩
 rintro m vs J ⟨i, hi, out, hg, rfl⟩ K1 g1 g2 g3
 refine cut_step x out l hx most i (by omega) hb J _ hg (by simp; omega) _ (fun he => ?_) (fun h hlt out' J' hg' => ?_) (fun h hlt => ?_)
 ·refine g2 _ _ ?_
  unfold l_ref01_Cut_k1
  simp -implicitDefEqProofs only [dn_ret, dn_goto, iexec, evI_0, evI_succ, evI_int, evI_bool, evI_nilsl, evI_nilp, List.cons_append, List.nil_append, scal2_sc, abin, aun, ilift_some, Option.map_some, Option.map_none, decide_eq_true_eq, List.map_cons, List.map_nil, reduceIte, if_true, if_false, Bool.false_eq_true, inew, iload, istore, iwr, ird, icells, ione, one, List.getElem?_toArray, List.getElem?_cons_zero, List.getElem?_cons_succ, List.push_toArray, List.size_toArray, List.length_cons, List.length_nil, List.setIfInBounds_toArray, List.set_cons_zero, List.set_cons_succ, isplice_cons, List.drop_succ_cons, List.drop_zero, List.take_succ_cons, List.take_zero, List.drop_nil, List.take_nil, List.append_nil, List.all_cons, List.all_nil, Bool.and_true, Bool.true_and, Bool.and_self, Nat.zero_add, Nat.add_zero, Nat.reduceAdd, Nat.reduceLeDiff, Nat.reduceMul, Nat.le_refl, true_and, and_true, and_self, List.getElem?_nil, BI_zc, BI_zv, BI_co, zcT, zvT, coT, not_true_eq_false, not_false_eq_true, Bool.not_true, Bool.not_false, stepI', wantsI, ifill, rawB, allC1, ievs, Nat.reduceEqDiff, itup, Nat.le_add_left, Nat.le_add_right, iaggEq, List.foldl, iminI, iminF, imin2, min2, iisNil, isNil, ilen, Option.isNone_none, Option.isNone_some, Nat.zero_le, decide_true, decide_false, ireps, List.replicate, List.flatten_cons, List.flatten_nil, ichk, itouch, ctouch, ilooks, isame, untouched, Option.isSome_some, Bool.or_true, Bool.true_or, List.contains_nil, Int.reduceLT, Int.reduceLE, blkOf, IntKind.bits, iasNat, asNat, Int.toNat_natCast, Int.natCast_nonneg, List.length_map, Int.reduceToNat, iscells, ibnd, islice, capOf, Option.isSome_none, Bool.false_and, Bool.and_false, Bool.or_false, Bool.false_or, bne_self_eq_false, Nat.not_lt_zero, Nat.mul_one, Nat.one_mul, Nat.zero_mul, Nat.mul_zero, beq_self_eq_true, Nat.sub_zero, Nat.reduceSub, List.length_set, false_implies, implies_true, forall_const, ↓dnW_oca, Nat.reduceLT, evI_fn, Nat.zero_lt_one, dnW_o, dnW_om, dnW_oc, dnW_ite, dnW_join, thenD_some, thenD_ite, onIfD_bool, onJoinD_out, onJoinD_ret, onJoinD_ite, Int.reduceEq, WP_some, WP_ite, byOut_goto, byOut_ret, ↓iexec_len, ↓iexec_iaddr, ↓iexec_append, ↓iexec_store, storeF_ptr, lenF_nil, lenF_lst, lenF_sl, lenF_str, iaddrF_sl, iaddrF_lst]
  subst he
  obtain ⟨u, hu, hl⟩ := hg.frz1 ints_pure ints_ione
  refine hK _ _ u hu ?_
  have : l.take (min l.length most) = l.take most := by
   rcases Nat.le_total l.length most with h | h
   ·rw [Nat.min_eq_left h, List.take_of_length_le (Nat.le_refl _), List.take_of_length_le h]
   ·rw [Nat.min_eq_right h]
  rw [this] at hl
  exact hl
 ·refine g1 _ (m - 1) _ (by omega) ⟨i + 1, by omega, out', ?_, rfl⟩
  rw [Nat.min_eq_left (by omega), ints_grow h] at hg'
  rw [Nat.min_eq_left (by omega)]
  exact hg'
 ·refine g1 _ (m - 1) _ (by omega) ⟨i + 1, by omega, out, ?_, rfl⟩
  rw [Nat.min_eq_right (by omega)] at hg ⊢
  exact hg
theorem up_k0 {J : JH} {m : Nat} {a w : IV} {P : List Int} (hm : J[m]? = some (.cells 0 (uB P) false)) (hb : P.length ≤ 1000000) {k : L} (K : Out IV → JH → Prop)
  (hK : ∀ J', Fr J J' [m] → WP (dn BI k [a, w] J') K) :
  WP (onJoinD 0 (iter (dn BI l_law18_WireOwns_k0) 1 [a, frI P m, w, nI P.length, nI 0] J) k) K := by
 refine WP_range (by decide) P.length (fun i vs J' => vs = [a, frI P m, w, nI P.length, nI i] ∧ ∃ zs : List Int, zs.length = P.length ∧ J'[m]? = some (.cells 0 (uB zs) false) ∧ Fr J J' [m]) ?_ ⟨rfl, P, rfl, hm, .refl _ _⟩
 rintro i vs J1 ⟨rfl, zs, hz, h1, f1⟩ hi K1 g1 g2 g3
 unfold l_law18_WireOwns_k0
 by_cases hlt : i < P.length
 ·have e1 : ((uB zs).drop i).take 1 = [.int .u8 zs[i]] := by
   rw [List.drop_eq_getElem_cons (by simp; omega)]; simp
  have l1 : (uB zs).length = P.length := by simp [hz]
  have hb1 := lt_get h1
  generalize zs[i] = x at *
  have s1 : isplice (uB zs) i [.int .u8 (IntKind.u8.wrap (x + 1))] = uB (zs.set i (IntKind.u8.wrap (x + 1))) := isplice_ints (by omega)
  have b0 : (m < J1.size) = True := by simp [hb1]
  have j1 : (0 + i * 1 = i) := by omega
  have j3 : (i < P.length) = True := by simp; omega
  have r1 : i + 1 ≤ P.length := by omega
  simp -implicitDefEqProofs only [go_sem, go_sem_proc, show ((i : Int) < (P.length : Int)) by omega, j1, j3, h1, l1, r1, e1, s1, b0, wrapS hlt (show P.length ≤ 9223372036854775807 by omega)]
  exact g1 hlt _ _ ⟨rfl, zs.set i (IntKind.u8.wrap (x + 1)), by simp [hz], set_get _ hb1, f1.trans (Fr.set _ _ (S := [m]) (by simp)) (fun _ _ h => h)⟩
 ·simp -implicitDefEqProofs only [go_sem, go_sem_proc, show ¬ ((i : Int) < (P.length : Int)) by omega]
  exact g2 _ _ (hK _ f1)
theorem up_k1 {J : JH} {m c v : Nat} {a : IV} {P : List Int} {rest : List IV} (hc : J[c]? = some (.cells v (frI P m :: rest) false)) (hcm : c ≠ m) (hm : J[m]? = some (.cells 0 (uB P) false)) (hb : P.length ≤ 1000000) {k : L} (K : Out IV → JH → Prop)
  (hK : ∀ J', Fr J J' [m] → WP (dn BI k [a, .sl c v 0 3 (UNK + 1) 1] J') K) :
  WP (onJoinD 2 (iter (dn BI l_law18_WireOwns_k1) 3 [a, .sl c v 0 3 (UNK + 1) 1, nI P.length, nI 0] J) k) K := by
 refine WP_range (by decide) P.length (fun i vs J' => vs = [a, .sl c v 0 3 (UNK + 1) 1, nI P.length, nI i] ∧ ∃ zs : List Int, zs.length = P.length ∧ J'[m]? = some (.cells 0 (uB zs) false) ∧ Fr J J' [m]) ?_ ⟨rfl, P, rfl, hm, .refl _ _⟩
 rintro i vs J1 ⟨rfl, zs, hz, h1, f1⟩ hi K1 g1 g2 g3
 unfold l_law18_WireOwns_k1
 by_cases hlt : i < P.length
 ·have e1 : ((uB zs).drop i).take 1 = [.int .u8 zs[i]] := by
   rw [List.drop_eq_getElem_cons (by simp; omega)]; simp
  have l1 : (uB zs).length = P.length := by simp [hz]
  have hb1 := lt_get h1
  generalize zs[i] = x at *
  have s1 : isplice (uB zs) i [.int .u8 (IntKind.u8.wrap (x + 1))] = uB (zs.set i (IntKind.u8.wrap (x + 1))) := isplice_ints (by omega)
  have hc1 : J1[c]? = some (.cells v (frI P m :: rest) false) := by rw [f1.2 c (lt_get hc) (by simpa using hcm)]; exact hc
  have b0 : (m < J1.size) = True := by simp [hb1]
  have j1 : (0 + i * 1 = i) := by omega
  have j3 : (i < P.length) = True := by simp; omega
  have r1 : i + 1 ≤ P.length := by omega
  have t1 : (List.drop 0 (frI P m :: rest)).take 1 = [frI P m] := rfl
  have t2 : List.take 1 (frI P m :: rest) = [frI P m] := rfl
  have t3 : 1 ≤ (frI P m :: rest).length := by simp
  simp -implicitDefEqProofs only [go_sem, go_sem_proc, show ((i : Int) < (P.length : Int)) by omega, hc1, inb hc1, t1, t2, t3, j1, j3, h1, l1, r1, e1, s1, b0, wrapS hlt (show P.length ≤ 9223372036854775807 by omega)]
  exact g1 hlt _ _ ⟨rfl, zs.set i (IntKind.u8.wrap (x + 1)), by simp [hz], set_get _ hb1, f1.trans (Fr.set _ _ (S := [m]) (by simp)) (fun _ _ h => h)⟩
 ·simp -implicitDefEqProofs only [go_sem, go_sem_proc, show ¬ ((i : Int) < (P.length : Int)) by omega]
  exact g2 _ _ (hK _ f1)
theorem WP_same {J : JH} {q : Nat} {P : List Int} {y : IV} (h1 : J[q]? = some (.cells 0 (uB P) false)) (hy : Bs y P) (hl : P.length ≤ 1000000) {k : L} {ρ : List IV} {K} (hk : WP (dn BI k (ρ ++ [.bool true]) J) K) :
  WP (thenD (doCall (ic BI) .pure F_ref01_Same [frI P q, y] J) k ρ) K := by
 have hu := uB_frz (cap := UNK + 1) h1 11
 have ha : [frI P q, y].mapM (frz J DEP) = some [.lst 1 (P.length == UNK + 1 && decide (UNK + 1 < UNK)) (uB P), y] := by
  rw [List.mapM_cons, List.mapM_cons, frz12, hu, frz_pure J _ hy.pure]; rfl
 have hs := bSame_ok (x := .lst 1 (P.length == UNK + 1 && decide (UNK + 1 < UNK)) (uB P)) .lst hy hl
 rw [decide_eq_true rfl] at hs
 rw [dcf ha hs, if_pos (show iscal (IV.bool true) = true from rfl)]
 exact hk
theorem owns_tail {J : JH} {c v q1 q2 q3 : Nat} {y : IV} {P : List Int} {rest : List IV} (hc : J[c]? = some (.cells v (frI P q1 :: frI P q2 :: rest) false)) (h1 : J[q1]? = some (.cells 0 (uB P) false)) (h2 : J[q2]? = some (.cells 0 (uB P) false)) (hc1 : c ≠ q1) (h12 : q1 ≠ q2) (hy : Bs y P) (hP : P.length ≤ 1000) (K : Out IV → JH → Prop)
  (hK : ∀ vs J', frz J' DEP (itup vs) = some (.bool true) → K (.ret vs) J') :
  WP (dn BI l_law18_WireOwns_k3 [y, .sl c v 0 3 (UNK + 1) 1] J) K := by
 unfold l_law18_WireOwns_k3
 have t2 : List.take 1 (frI P q1 :: frI P q2 :: rest) = [frI P q1] := rfl
 have t1 : (List.drop 0 (frI P q1 :: frI P q2 :: rest)).take 1 = [frI P q1] := rfl
 have t3 : 1 ≤ (frI P q1 :: frI P q2 :: rest).length := by simp
 simp -implicitDefEqProofs only [go_sem, go_sem_proc, hc, inb hc, t1, t2, t3, lenF_sl, dn_loop]
 refine up_k1 hc hc1 h1 (by omega) K fun J2 f2 => ?_
 have hc2 : J2[c]? = some (.cells v (frI P q1 :: frI P q2 :: rest) false) := by rw [f2.2 c (lt_get hc) (by simpa using hc1)]; exact hc
 have h22 : J2[q2]? = some (.cells 0 (uB P) false) := by rw [f2.2 q2 (lt_get h2) (by simpa using Ne.symm h12)]; exact h2
 unfold l_law18_WireOwns_k2
 simp -implicitDefEqProofs only [go_sem, go_sem_proc, ipureL, hy.pure, grp, mkE, List.headD, ↓hy.icells, ↓hy.one]
 refine WP_call (Put_none _ _ _) fun _ J3 hv => ?_
 subst hv
 have u1 : (List.drop (0 + 1) (frI P q1 :: frI P q2 :: rest)).take 1 = [frI P q2] := rfl
 have u2 : (List.drop 1 (frI P q1 :: frI P q2 :: rest)).take 1 = [frI P q2] := rfl
 have u3 : 1 + 1 ≤ (frI P q1 :: frI P q2 :: rest).length := by simp
 simp -implicitDefEqProofs only [go_sem, go_sem_proc, hc2, inb hc2, u1, u2, u3]
 refine WP_same h22 hy (by omega) ?_
 simp -implicitDefEqProofs only [go_sem, go_sem_proc]
 refine WP_call (Take_none _) fun _ J4 hv => ?_
 obtain ⟨rfl, rfl⟩ := hv
 simp -implicitDefEqProofs only [go_sem, go_sem_proc, lenF_nil]
 refine WP_call (Waiting_none _) fun _ J5 hv => ?_
 obtain ⟨rfl, rfl⟩ := hv
 simp -implicitDefEqProofs only [go_sem, go_sem_proc, show IntKind.i64.wrap (0 + ((0 : Nat) : Int)) = 0 by decide]
 exact hK _ _ (frzP rfl)
theorem owns_k4 {J : JH} {b c v q1 q2 q3 : Nat} {y : IV} {P : List Int} {rest : List IV} (hw : J[b]? = some (.cells 0 [.sl c v 0 3 (UNK + 2) 2] false)) (hc : J[c]? = some (.cells v ((encY (Yof P [(q1, 0), (q2, 0), (q3, 0)])).flatten ++ rest) false)) (hbc : b ≠ c)
  (hq : ∀ q ∈ [q1, q2, q3], J[q]? = some (.cells 0 (uB P) false) ∧ q ≠ c ∧ q ≠ b) (h12 : q1 ≠ q2) (hy : Bs y P) (hP : P.length ≤ 1000) (K : Out IV → JH → Prop)
  (hK : ∀ vs J', frz J' DEP (itup vs) = some (.bool true) → K (.ret vs) J') :
  WP (dn BI l_law18_WireOwns_k4 [y, .ptr b 0 0] J) K := by
 unfold l_law18_WireOwns_k4
 have hown : Yow J c (Yof P [(q1, 0), (q2, 0), (q3, 0)]) := fun z hz => by
  obtain ⟨e, he, rfl⟩ := List.mem_map.1 hz
  have hm : e.1 ∈ [q1, q2, q3] := by simp at he; rcases he with rfl | rfl | rfl <;> simp
  exact ⟨e.1, P, rfl, (hq e.1 hm).1, (hq e.1 hm).2.1⟩
 simp -implicitDefEqProofs only [go_sem, go_sem_proc]
 refine WP_call (take_sl b c v (Yof P [(q1, 0), (q2, 0), (q3, 0)]) (fun z hz => by
  obtain ⟨e, he, rfl⟩ := List.mem_map.1 hz
  simp at he; rcases he with rfl | rfl | rfl <;> simp) rest (by simp [Yof]) J hown (fun z hz hm => by
  obtain ⟨e, he, rfl⟩ := List.mem_map.1 hz
  have hm2 : e.1 ∈ [q1, q2, q3] := by simp at he; rcases he with rfl | rfl | rfl <;> simp
  simp [blk, blkOf] at hm
  exact (hq e.1 hm2).2.2 hm.symm) hw hc hbc) fun out J2 hv => ?_
 obtain ⟨r', _, _, hg, f2, hlow⟩ := hv
 have hnow : nowY (Yof P [(q1, 0), (q2, 0), (q3, 0)]) = [frI P q1, frI P q2, frI P q3] := rfl
 rw [hnow] at hg
 have hq2 : ∀ q ∈ [q1, q2, q3], J2[q]? = some (.cells 0 (uB P) false) := fun q hm => by
  obtain ⟨a1, a2, a3⟩ := hq q hm
  rw [f2.2 q (lt_get a1) (by simp; exact ⟨a3, a2⟩)]; exact a1
 rcases hg with ⟨_, h0⟩ | ⟨d, w, n, full, rfl, hd, hn, htk, _⟩
 ·cases h0
 ·have hn3 : n = 3 := by have := congrArg List.length htk; simp at this; omega
  subst hn3
  obtain ⟨t, rfl⟩ : ∃ t, full = frI P q1 :: frI P q2 :: frI P q3 :: t := by
   match full, htk with
   | a :: b :: c :: t, h => simp at h; obtain ⟨rfl, rfl, rfl⟩ := h; exact ⟨t, rfl⟩
  have hdl : J.size ≤ d := hlow d (by simp [blk, blkOf])
  have a1 := hq2 q1 (by simp)
  have a2 := hq2 q2 (by simp)
  have a3 := hq2 q3 (by simp)
  have hl1 := lt_get (hq q1 (by simp)).1
  have s1 : List.take 1 (frI P q1 :: frI P q2 :: frI P q3 :: t) = [frI P q1] := rfl
  have s2 : (List.drop 0 (frI P q1 :: frI P q2 :: frI P q3 :: t)).take 1 = [frI P q1] := rfl
  have s3 : 1 ≤ (frI P q1 :: frI P q2 :: frI P q3 :: t).length := by simp
  have s4 : (List.drop 2 (frI P q1 :: frI P q2 :: frI P q3 :: t)).take 1 = [frI P q3] := rfl
  have s5 : 2 + 1 ≤ (frI P q1 :: frI P q2 :: frI P q3 :: t).length := by simp
  have s6 : (List.drop (0 + 2) (frI P q1 :: frI P q2 :: frI P q3 :: t)).take 1 = [frI P q3] := rfl
  simp -implicitDefEqProofs only [go_sem, go_sem_proc, lenF_sl, hd, inb hd, s1, s2, s3]
  refine WP_join fun K1 g1 g2 g3 => ?_
  refine WP_same a1 hy (by omega) ?_
  simp -implicitDefEqProofs only [go_sem, go_sem_proc, hd, inb hd, s4, s5, s6]
  refine WP_same a3 hy (by omega) ?_
  simp -implicitDefEqProofs only [go_sem, go_sem_proc]
  refine g1 _ _ ?_
  exact owns_tail (q3 := q3) hd a1 a2 (by omega) h12 hy hP K hK
theorem Owns_ok (x : IV) (l : List Int) (hx : Bs x l) (hl : l.length ≤ 9223372036854775807) : pc BI F_law18_WireOwns [x] = some (.bool true) := by
 by_cases h0 : l = []
 ·subst h0
  rcases hx with ⟨rfl, _⟩ | ⟨f, rfl⟩
  ·exact pcK 80 (by kernel_rfl)
  ·cases f
   ·exact pcK 80 (by kernel_rfl)
   ·exact pcK 80 (by kernel_rfl)
 refine pcE fn_law18_WireOwns rfl fun K hK => ?_
 unfold l_law18_WireOwns
 obtain ⟨y, hy1, hy⟩ := bCut_ok hx 20 hl (by decide)
 have hne : l.take 20 ≠ [] := fun h => h0 (by simpa using h)
 have hlen : (l.take 20).length ≤ 20 := by simp; omega
 generalize l.take 20 = P at *
 obtain ⟨f, rfl⟩ : ∃ f, y = .lst 1 f (uB P) := by
  rcases hy with ⟨_, h⟩ | ⟨f, h⟩
  ·exact absurd (List.map_eq_nil_iff.1 h) hne
  ·exact ⟨f, h⟩
 have hyp := hy.pure
 have hc1 : pc BI F_ref01_Cut [x, .int .i64 20] = some (.lst 1 f (uB P)) := hy1
 simp -implicitDefEqProofs only [go_sem, go_sem_proc, dcp awake18o rfl, dcp hc1 (by simp [ipureL, hx.pure, ipure]), ipureL, hyp, grp, mkE, List.headD]
 refine WP_call (JoinB_ok _ hne (by omega)) fun v J1 hv => ?_
 obtain ⟨rfl, rfl⟩ := hv
 simp -implicitDefEqProofs only [go_sem, go_sem_proc, ipureL, ipure, grp, mkE, List.headD]
 generalize hJ0 : (#[IB.cells 0 (uB P) false, IB.cells 0 [IV.sc (Value.slice none 0 0)] false, IB.cells 0 [frI P 0, frI P 0] false] : JH) = J0
 have g0 : J0[0]? = some (.cells 0 (uB P) false) := by rw [← hJ0]; rfl
 have g1 : J0[1]? = some (.cells 0 [.sc (.slice none 0 0)] false) := by rw [← hJ0]; rfl
 have g2 : J0[2]? = some (.cells 0 [frI P 0, frI P 0] false) := by rw [← hJ0]; rfl
 refine WP_call (Put_raw g1 g0 g2 (by decide) (by decide) hne (by omega)) fun v J2 hv => ?_
 obtain ⟨s', q1, q2, q3, hp⟩ := hv
 have m2 := hp.get g0 (by decide)
 have hsz : J0.size = 3 := by rw [← hJ0]; rfl
 rcases hp.g.slx (encY_2 _) (by decide) with ⟨_, ⟨_, h⟩ | ⟨c, v, rest, rfl, hc, _⟩⟩
 ·simp [encY, Yof] at h
 ·have hcl := hp.low c (by simp [blk, blkOf])
  have hfr := hp.fr
  have hnd := hp.nd
  have hw := hp.w
  rw [encY_len] at hw
  have hYl : (Yof P [(q1, (0 : Int)), (q2, 0), (q3, 0)]).length = 3 := rfl
  rw [hYl] at hw
  simp -implicitDefEqProofs only [go_sem, go_sem_proc, lenF_sl, dn_loop]
  refine up_k0 m2 (by omega) K fun J3 f3 => ?_
  have get : ∀ {d : Nat} {z : IB}, J2[d]? = some z → d ≠ 0 → J3[d]? = some z := fun h hn => by rw [f3.2 _ (lt_get h) (by simpa using hn)]; exact h
  refine owns_k4 (get hw (by decide)) (get hc (by omega)) (by omega) (fun q hq => ?_) (by simp at hnd; exact hnd.1.1) hy (by omega) K hK
  obtain ⟨e, he, rfl⟩ : ∃ e ∈ [(q1, (0 : Int)), (q2, 0), (q3, 0)], e.1 = q := by
   simp at hq; rcases hq with rfl | rfl | rfl <;> simp
  obtain ⟨a1, a2, a3⟩ := hfr e he
  refine ⟨get a1 (by omega), fun h => a2 (by simp [blk, blkOf, h]), by omega⟩
end Go.Proofs.Ytmgfkifjgajclaa.G
