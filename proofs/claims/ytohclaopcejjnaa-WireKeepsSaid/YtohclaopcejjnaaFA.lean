/- Words for what a run comes to; lists of bytes; what is spoilt -/
import Derived.Test.YtohclaopcejjnaaQ5
namespace Go.Proofs.Ytohclaopcejjnaa.G
open Go
set_option linter.unusedSimpArgs false
set_option linter.unusedVariables false
def WP (r : Option (Out IV × JH)) (P : Out IV → JH → Prop) : Prop := match r with | some (o, J) => P o J | none => False
def RP (r : Option (IV × JH)) (P : IV → JH → Prop) : Prop := match r with | some (v, J) => P v J | none => False
/-- What is asked where a run ends: by a jump, or by a return. -/
def byOut (G : Nat → List IV → JH → Prop) (R : List IV → JH → Prop) (o : Out IV) (J : JH) : Prop := match o with | .goto j vs => G j vs J | .ret vs => R vs J
theorem byOut_goto {G R j vs J} : byOut G R (.goto j vs) J = G j vs J := rfl
theorem byOut_ret {G R vs J} : byOut G R (.ret vs) J = R vs J := rfl
theorem WP_some {o : Out IV} {J : JH} {P} : WP (some (o, J)) P = P o J := rfl
theorem RP_some {v : IV} {J : JH} {P} : RP (some (v, J)) P = P v J := rfl
theorem WP_ite {c : Prop} [Decidable c] {a b : Option (Out IV × JH)} {P} : WP (if c then a else b) P = if c then WP a P else WP b P := by split <;> rfl
theorem WP_of {r : Option (Out IV × JH)} {P} (h : WP r P) : ∃ o J, r = some (o, J) ∧ P o J := by
  cases r with
  | none => exact h.elim
  | some q => exact ⟨q.1, q.2, rfl, h⟩
theorem RP_of {r : Option (IV × JH)} {P} (h : RP r P) : ∃ v J, r = some (v, J) ∧ P v J := by
  cases r with
  | none => exact h.elim
  | some q => exact ⟨q.1, q.2, rfl, h⟩
theorem WP_mono {r : Option (Out IV × JH)} {P Q : Out IV → JH → Prop} (h : WP r P) (hq : ∀ o J, P o J → Q o J) : WP r Q := by
  cases r with
  | none => exact h.elim
  | some q => exact hq _ _ h
theorem RP_mono {r : Option (IV × JH)} {P Q : IV → JH → Prop} (h : RP r P) (hq : ∀ o J, P o J → Q o J) : RP r Q := by
  cases r with
  | none => exact h.elim
  | some q => exact hq _ _ h
/-- Going on with code, as a word of its own. -/
noncomputable def thenD (r : Option (IV × JH)) (k : L) (ρ : List IV) : Option (Out IV × JH) := thenI r fun v J' => dn BI k (ρ ++ [v]) J'
noncomputable def onJoinD (l : Nat) (r : Option (Out IV × JH)) (b : L) : Option (Out IV × JH) := onJoin l r fun vs J => dn BI b vs J
noncomputable def onIfD (v : IV) (a b : L) (ρ : List IV) (J : JH) : Option (Out IV × JH) := onIf v (dn BI a ρ J) (dn BI b ρ J)
section
variable {ρ : List IV} {J : JH} {p : SOp} {k : L} {md : Md}
theorem dnW_o : dn BI (o p k) ρ J = thenD (iexec BI (ic BI) .raw ρ p J) k ρ := dn_o
theorem dnW_om : dn BI (om md p k) ρ J = thenD (iexec BI (ic BI) md ρ p J) k ρ := dn_om
theorem dnW_oc {g : Option (Operand × Bool)} {chk} : dn BI (oc g p md chk k) ρ J = thenD (stepI' BI (ic BI) ρ ⟨g, p, md, chk⟩ J) k ρ := dn_oc
theorem dnW_ite {c : Operand} {a b : L} : dn BI (.ite c a b) ρ J = onIfD (evI ρ c) a b ρ J := dn_ite
theorem dnW_join {l : Nat} {a b : L} : dn BI (.join l a b) ρ J = onJoinD l (dn BI a ρ J) b := dn_join
theorem thenD_some {v : IV} : thenD (some (v, J)) k ρ = dn BI k (ρ ++ [v]) J := rfl
theorem thenD_ite {c : Prop} [Decidable c] {a b : Option (IV × JH)} : thenD (if c then a else b) k ρ = if c then thenD a k ρ else thenD b k ρ := by split <;> rfl
theorem onIfD_bool {t : Bool} {a b : L} : onIfD (.sc (.bool t)) a b ρ J = if t = true then dn BI a ρ J else dn BI b ρ J := rfl
theorem onJoinD_out {l j : Nat} {vs : List IV} {b : L} : onJoinD l (some (.goto j vs, J)) b = if j = l then dn BI b vs J else some (.goto j vs, J) := rfl
theorem onJoinD_ret {l : Nat} {vs : List IV} {b : L} : onJoinD l (some (.ret vs, J)) b = some (.ret vs, J) := rfl
theorem onJoinD_ite {l : Nat} {c : Prop} [Decidable c] {a a' : Option (Out IV × JH)} {b : L} : onJoinD l (if c then a else a') b = if c then onJoinD l a b else onJoinD l a' b := by split <;> rfl
end
theorem WP_join {l : Nat} {r : Option (Out IV × JH)} {b : L} {K : Out IV → JH → Prop}
    (h : ∀ K' : Out IV → JH → Prop, (∀ vs J, WP (dn BI b vs J) K → K' (.goto l vs) J) → (∀ j vs J, j ≠ l → K (.goto j vs) J → K' (.goto j vs) J) → (∀ vs J, K (.ret vs) J → K' (.ret vs) J) → WP r K') : WP (onJoinD l r b) K := by
  have h1 := h (fun o J => byOut (fun j vs J => if j = l then WP (dn BI b vs J) K else K (.goto j vs) J) (fun vs J => K (.ret vs) J) o J) (fun vs J h => by simpa [byOut] using h) (fun j vs J hj h => by simpa [byOut, hj] using h) (fun vs J h => h)
  cases r with
  | none => exact h1.elim
  | some q =>
    obtain ⟨o, J⟩ := q
    cases o with
    | goto j vs =>
      simp only [WP_some, byOut_goto] at h1
      simp only [onJoinD, onJoin]
      split at h1
      · rename_i hj; rw [if_pos hj]; exact h1
      · rename_i hj; rw [if_neg hj]; exact h1
    | ret vs => exact h1
theorem WP_iter {f : List IV → JH → Option (Out IV × JH)} {l : Nat} {K : Out IV → JH → Prop} (I : Nat → List IV → JH → Prop)
    (hs : ∀ n vs J, I n vs J → ∀ K' : Out IV → JH → Prop, (∀ ws m J', m < n → I m ws J' → K' (.goto l ws) J') → (∀ j ws J', j ≠ l → K (.goto j ws) J' → K' (.goto j ws) J') → (∀ ws J', K (.ret ws) J' → K' (.ret ws) J') → WP (f vs J) K') :
    ∀ n vs J, I n vs J → WP (iter f l vs J) K := by
  intro n
  induction n using Nat.strongRecOn with
  | ind n ih =>
    intro vs J hI
    have h := hs n vs J hI (fun o J' => byOut (fun j ws J' => if j = l then ∃ m, m < n ∧ I m ws J' else K (.goto j ws) J') (fun ws J' => K (.ret ws) J') o J') (fun ws m J' hm hi => by simp only [byOut, if_true]; exact ⟨m, hm, hi⟩) (fun j ws J' hj hk => by simp only [byOut, if_neg hj]; exact hk) (fun ws J' h => h)
    obtain ⟨o, J', hf, hp⟩ := WP_of h
    cases o with
    | goto j ws =>
      simp only [byOut_goto] at hp
      split at hp
      · rename_i hj
        subst hj
        obtain ⟨m, hm, hi⟩ := hp
        obtain ⟨o2, J2, h2, p2⟩ := WP_of (ih m hm ws J' hi)
        rw [iter_step hf h2]
        exact p2
      · rename_i hj
        rw [iter_out hf hj]
        exact hp
    | ret ws =>
      rw [iter_ret hf]
      exact hp
/-- A loop, behind which a join stands. -/
theorem WP_loop {f : List IV → JH → Option (Out IV × JH)} {l0 l1 : Nat} {b : L} {K : Out IV → JH → Prop} (hne : l0 ≠ l1) (I : Nat → List IV → JH → Prop)
    (hs : ∀ n vs J, I n vs J → ∀ K' : Out IV → JH → Prop, (∀ ws m J', m < n → I m ws J' → K' (.goto l1 ws) J') → (∀ ws J', WP (dn BI b ws J') K → K' (.goto l0 ws) J') → (∀ ws J', K (.ret ws) J' → K' (.ret ws) J') → WP (f vs J) K') :
    ∀ n vs J, I n vs J → WP (onJoinD l0 (iter f l1 vs J) b) K := fun n vs J hI =>
  WP_join fun K1 g1 _ g3 => WP_iter I (fun n vs J hI K' k1 k2 k3 => hs n vs J hI K' k1 (fun ws J' h => k2 l0 ws J' hne (g1 ws J' h)) (fun ws J' h => k3 ws J' (g3 ws J' h))) n vs J hI
theorem RP_run {f : FuncId} {l : LFn} {args : List IV} {J : JH} {P} (hf : BI.fn f = some l) (hl : args.length = l.np) (h : ∀ K : Out IV → JH → Prop, (∀ vs J', P (itup vs) J' → K (.ret vs) J') → WP (dn BI l.body args J) K) : RP (ic BI f args J) P := by
  obtain ⟨o, J', hd, hp⟩ := WP_of (h (fun o J' => byOut (fun _ _ _ => False) (fun vs J' => P (itup vs) J') o J') (fun vs J' h => h))
  cases o with
  | goto j ws => exact hp.elim
  | ret vs => rw [ic_run hf hl hd]; exact hp
theorem WP_bind {r : Option (IV × JH)} {k : L} {ρ : List IV} {P Q} (h : RP r Q) (hk : ∀ v J', Q v J' → WP (dn BI k (ρ ++ [v]) J') P) : WP (thenD r k ρ) P := by
  obtain ⟨v, J', hc, hq⟩ := RP_of h
  rw [hc]
  exact hk v J' hq
theorem WP_call {f : FuncId} {args : List IV} {J : JH} {k : L} {ρ : List IV} {P Q} (h : RP (ic BI f args J) Q) (hk : ∀ v J', Q v J' → WP (dn BI k (ρ ++ [v]) J') P) : WP (thenD (doCall (ic BI) .raw f args J) k ρ) P := WP_bind h hk
theorem pcW {f : FuncId} {l : LFn} {args : List IV} {P : IV → Prop} (hf : BI.fn f = some l) (hl : args.length = l.np) (h : ∀ K : Out IV → JH → Prop, (∀ vs J' u, frz J' DEP (itup vs) = some u → P u → K (.ret vs) J') → WP (dn BI l.body args #[]) K) : ∃ u, pc BI f args = some u ∧ P u := by
  obtain ⟨o, J', hd, hp⟩ := WP_of (h (fun o J' => byOut (fun _ _ _ => False) (fun vs J' => ∃ u, frz J' DEP (itup vs) = some u ∧ P u) o J') (fun vs J' u h1 h2 => ⟨u, h1, h2⟩))
  cases o with
  | goto j ws => exact hp.elim
  | ret vs =>
    obtain ⟨u, hu, hp⟩ := hp
    exact ⟨u, pc_intro rfl hf hl hd hu, hp⟩
theorem pcE {f : FuncId} {l : LFn} {args : List IV} {r : IV} (hf : BI.fn f = some l) (hl : args.length = l.np) (h : ∀ K : Out IV → JH → Prop, (∀ vs J', frz J' DEP (itup vs) = some r → K (.ret vs) J') → WP (dn BI l.body args #[]) K) : pc BI f args = some r := by
  obtain ⟨u, hu, rfl⟩ := pcW (P := fun u => u = r) hf hl (fun K hK => h K fun vs J' h1 => hK vs J' r h1 rfl)
  exact hu
theorem frzE {J : JH} {v w : IV} (h : ipure v = true) (e : v = w) : frz J DEP v = some w := by rw [← e]; exact frzP h
theorem ex_frz {J : JH} {v : IV} {P : IV → Prop} (h : ipure v = true) (hp : P v) : ∃ u, frz J DEP v = some u ∧ P u := ⟨v, frzP h, hp⟩
/-! blocks -/
theorem lt_get {α : Type} {J : Array α} {b : Nat} {X : α} (h : J[b]? = some X) : b < J.size := by
  rcases Nat.lt_or_ge b J.size with h1 | h1
  · exact h1
  · rw [Array.getElem?_eq_none h1] at h; cases h
/-- Facts of a block that there is. -/
theorem inb {α : Type} {J : Array α} {b : Nat} {X : α} (h : J[b]? = some X) : (b < J.size) = True ∧ (b = J.size) = False ∧ (J.size = b) = False ∧ (∀ k, (b < J.size + k) = True) ∧ (∀ k, (b = J.size + k) = False) ∧ (∀ k, (J.size + k = b) = False) := by
  have := lt_get h
  refine ⟨by simp [this], by simp; omega, by simp; omega, fun k => by simp; omega, fun k => by simp; omega, fun k => by simp; omega⟩
/-- All other blocks are as they were. -/
def Fr (J J' : JH) (S : List Nat) : Prop := J.size ≤ J'.size ∧ ∀ d, d < J.size → d ∉ S → J'[d]? = J[d]?
theorem Fr.refl (J : JH) (S : List Nat) : Fr J J S := ⟨Nat.le_refl _, fun _ _ _ => rfl⟩
theorem Fr.trans {J J1 J2 : JH} {S T : List Nat} (h : Fr J J1 S) (k : Fr J1 J2 T) (hT : ∀ d, d < J.size → d ∈ T → d ∈ S) : Fr J J2 S :=
  ⟨Nat.le_trans h.1 k.1, fun d hd hn => by rw [k.2 d (Nat.lt_of_lt_of_le hd h.1) (fun ht => hn (hT d hd ht)), h.2 d hd hn]⟩
theorem Fr.push (J : JH) (X : IB) (S : List Nat) : Fr J (J.push X) S := ⟨by simp, fun d hd _ => by rw [Array.getElem?_push, if_neg (Nat.ne_of_lt hd)]⟩
theorem Fr.set (J : JH) {b : Nat} (X : IB) {S : List Nat} (hb : b ∈ S) : Fr J (J.setIfInBounds b X) S := ⟨by simp, fun d hd hn => by
  rw [Array.getElem?_setIfInBounds, if_neg]
  rintro rfl
  exact hn hb⟩
theorem evI_fn {ρ : List IV} {f : FuncId} : evI ρ (.func f) = .fn f [] [] := rfl
def storeF (sz : Nat) (p v : IV) (J : JH) : Option (IV × JH) := istore sz p v J
theorem iexec_store {B : IBook} {C : ICall} {md : Md} {ρ : List IV} {sz : Nat} {x v : Operand} {J : JH} : iexec B C md ρ (.store sz x v) J = storeF sz (evI ρ x) (evI ρ v) J := rfl
theorem storeF_ptr {sz b w off : Nat} {v : IV} {J : JH} : storeF sz (.ptr b w off) v J = if (icells v).length = sz then (match iwr J b w off (icells v) with | some J' => some ((.tup []), J') | none => none) else none := rfl
def lenF (str : Bool) (x : IV) (J : JH) : Option (IV × JH) := match x with
    | .sc (.string s) => if str then ilift (some (.int .i64 s.size)) J else ilift none J
    | v => if str then ilift none J else ilift ((ilen v).map fun n => .int .i64 (n : Nat)) J
theorem iexec_len {B : IBook} {C : ICall} {md : Md} {ρ : List IV} {str : Bool} {x : Operand} {J : JH} : iexec B C md ρ (.len str x) J = lenF str (evI ρ x) J := rfl
theorem lenF_nil {J : JH} : lenF false (.sc (.slice none 0 0)) J = some (.int .i64 0, J) := rfl
theorem lenF_lst {J : JH} {sz : Nat} {f : Bool} {xs : List IV} : lenF false (.lst sz f xs) J = some (.int .i64 (xs.length : Nat), J) := rfl
theorem lenF_sl {J : JH} {b v o n c z : Nat} : lenF false (.sl b v o n c z) J = some (.int .i64 (n : Nat), J) := rfl
theorem lenF_str {J : JH} {s : ByteArray} : lenF true (.sc (.string s)) J = some (.int .i64 s.size, J) := rfl
def iaddrF (sz : Nat) (x i : IV) (J : JH) : Option (IV × JH) := match x, iasNat i with
    | .sl b v o n _ z, some j => if j < n ∧ z = sz then ilift (some (.ptr b v (o + j * sz))) J else ilift none J
    | .lst z _ xs, some j => (match xs[j]? with | some e => if z = sz then ilift (some (.rptr e 0)) J else ilift none J | none => ilift none J)
    | _, _ => ilift none J
theorem iexec_iaddr {B : IBook} {C : ICall} {md : Md} {ρ : List IV} {sz : Nat} {x i : Operand} {J : JH} : iexec B C md ρ (.iaddr sz x i) J = iaddrF sz (evI ρ x) (evI ρ i) J := rfl
theorem iaddrF_lst {sz : Nat} {f : Bool} {xs : List IV} {κ : IntKind} {i : Int} {J : JH} : iaddrF sz (.lst sz f xs) (.int κ i) J = (match iasNat (.int κ i) with | some j => (match xs[j]? with | some e => some (.rptr e 0, J) | none => none) | none => none) := by
  simp only [iaddrF]
  cases iasNat (.int κ i) with
  | none => rfl
  | some j => simp only; cases xs[j]? <;> simp [ilift]
theorem iaddrF_sl {sz : Nat} {b v o n c : Nat} {κ : IntKind} {i : Int} {J : JH} : iaddrF sz (.sl b v o n c sz) (.int κ i) J = (match iasNat (.int κ i) with | some j => if j < n then some (.ptr b v (o + j * sz), J) else none | none => none) := by
  simp only [iaddrF]
  cases iasNat (.int κ i) with
  | none => rfl
  | some j => simp only [and_true]; split <;> rfl
/-- A list: nil, or in the open. -/
def Ls (sz : Nat) (x : IV) (xs : List IV) : Prop := (x = .sc (.slice none 0 0) ∧ xs = []) ∨ ∃ f, x = .lst sz f xs
def Bs (x : IV) (l : List Int) : Prop := Ls 1 x (l.map (IV.int .u8))
theorem Ls.nil {sz : Nat} : Ls sz (.sc (.slice none 0 0)) [] := .inl ⟨rfl, rfl⟩
theorem Ls.lst {sz : Nat} {f : Bool} {xs : List IV} : Ls sz (.lst sz f xs) xs := .inr ⟨f, rfl⟩
theorem Ls.ilen {sz : Nat} {x : IV} {xs : List IV} (h : Ls sz x xs) : ilen x = some xs.length := by
  rcases h with ⟨rfl, rfl⟩ | ⟨f, rfl⟩ <;> rfl
theorem Ls.cells {sz : Nat} {x : IV} {xs : List IV} (h : Ls sz x xs) (J : JH) : iscells J sz x = some (xs.flatMap icells) := by
  rcases h with ⟨rfl, rfl⟩ | ⟨f, rfl⟩ <;> simp [iscells]
theorem Ls.pure {sz : Nat} {x : IV} {xs : List IV} (h : Ls sz x xs) : ipure x = true := by
  rcases h with ⟨rfl, rfl⟩ | ⟨f, rfl⟩ <;> simp [ipure]
theorem Ls.one {sz : Nat} {x : IV} {xs : List IV} (h : Ls sz x xs) : ione x = true := by
  rcases h with ⟨rfl, rfl⟩ | ⟨f, rfl⟩ <;> simp [ione, Go.Proofs.Ytohclaopcejjnaa.G.one]
theorem Ls.icells {sz : Nat} {x : IV} {xs : List IV} (h : Ls sz x xs) : icells x = [x] := by
  rcases h with ⟨rfl, rfl⟩ | ⟨f, rfl⟩ <;> simp [Go.Proofs.Ytohclaopcejjnaa.G.icells]
theorem Ls.ne {sz : Nat} {x : IV} {xs : List IV} (h : Ls sz x xs) (hn : xs ≠ []) : ∃ f, x = .lst sz f xs := by
  rcases h with ⟨rfl, rfl⟩ | h
  · exact absurd rfl hn
  · exact h
theorem Ls.get {sz : Nat} {x : IV} {xs : List IV} (h : Ls sz x xs) {i : Nat} (hi : i < xs.length) : ∃ f, x = .lst sz f xs := h.ne fun h => by rw [h] at hi; simp at hi
theorem Ls.lenF {sz : Nat} {x : IV} {xs : List IV} (h : Ls sz x xs) {J : JH} : lenF false x J = some (.int .i64 (xs.length : Nat), J) := by
  rcases h with ⟨rfl, rfl⟩ | ⟨f, rfl⟩ <;> rfl
theorem Ls.at {sz : Nat} {x : IV} {xs : List IV} (h : Ls sz x xs) {i : Nat} (hi : i < xs.length) {J : JH} : iaddrF sz x (.int .i64 (i : Int)) J = some (.rptr xs[i] 0, J) := by
  obtain ⟨f, rfl⟩ := h.get hi
  rw [iaddrF_lst]
  simp [iasNat, asNat, hi]
theorem Bs.lenF {x : IV} {l : List Int} (h : Bs x l) {J : JH} : Go.Proofs.Ytohclaopcejjnaa.G.lenF false x J = some (.int .i64 (l.length : Nat), J) := by rw [Ls.lenF h]; simp
theorem Bs.at {x : IV} {l : List Int} (h : Bs x l) {i : Nat} (hi : i < l.length) {J : JH} : iaddrF 1 x (.int .i64 (i : Int)) J = some (.rptr (.int .u8 l[i]) 0, J) := by
  rw [Ls.at h (by simpa using hi)]; simp
theorem Bs.len {x : IV} {l : List Int} (h : Bs x l) : Go.Proofs.Ytohclaopcejjnaa.G.ilen x = some l.length := by rw [Ls.ilen h]; simp

/-! slices that grow -/
def appF (sz bytes : Nat) (s x : IV) (J : JH) : Option (IV × JH) := if 0 < sz then iappend sz bytes s x J else none
theorem iexec_append {B : IBook} {C : ICall} {md : Md} {ρ : List IV} {sz by' : Nat} {s x : Operand} {J : JH} : iexec B C md ρ (.append sz by' s x) J = appF sz by' (evI ρ s) (evI ρ x) J := by
  simp only [iexec, appF, ilift]
def blk (x : IV) : List Nat := (blkOf x).getD []
def Grow (J : JH) (x : IV) (sz : Nat) (cs : List IV) : Prop := (x = .sc (.slice none 0 0) ∧ cs = []) ∨ ∃ b v n full, x = .sl b v 0 n (UNK + sz) sz ∧ J[b]? = some (.cells v full false) ∧ n * sz ≤ full.length ∧ full.take (n * sz) = cs ∧ irefsL (full.drop (n * sz)) = []
theorem Grow.nil {J : JH} {sz : Nat} : Grow J (.sc (.slice none 0 0)) sz [] := .inl ⟨rfl, rfl⟩
theorem Grow.low {J : JH} {x : IV} {sz : Nat} {cs : List IV} (h : Grow J x sz cs) : ∀ b ∈ blk x, b < J.size := by
  rcases h with ⟨rfl, rfl⟩ | ⟨b, v, n, full, rfl, h1, h2, h3, h4⟩
  · simp [blk, blkOf]
  · simp only [blk, blkOf, Option.getD_some, List.mem_singleton, forall_eq]
    exact lt_get h1
theorem Grow.fr {J J' : JH} {x : IV} {sz : Nat} {cs : List IV} {S : List Nat} (h : Grow J x sz cs) (hf : Fr J J' S) (hS : ∀ b ∈ blk x, b ∉ S) : Grow J' x sz cs := by
  rcases h with ⟨rfl, rfl⟩ | ⟨b, v, n, full, rfl, h1, h2, h3, h4⟩
  · exact .nil
  · refine .inr ⟨b, v, n, full, rfl, ?_, h2, h3, h4⟩
    rw [hf.2 b (lt_get h1) (hS b (by simp [blk, blkOf]))]
    exact h1
theorem Grow.app {J : JH} {s y : IV} {sz by' m : Nat} {cs ds : List IV} (h : Grow J s sz cs) (hsz : 0 < sz) (hy : iscells J sz y = some ds) (hm : Go.Proofs.Ytohclaopcejjnaa.G.ilen y = some m) (hd : ds.length = m * sz) (ho : ds.all ione = true) (hf : fits (cs.length + m) by' = true) :
    RP (appF sz by' s y J) fun s' J' => Grow J' s' sz (cs ++ ds) ∧ Fr J J' (blk s) ∧ (∀ b ∈ blk s', b ∈ blk s ∨ J.size ≤ b) := by
  have hfm : ∀ k, k ≤ cs.length + m → fits k by' = true := fun k hk => by
    simp only [fits, Bool.and_eq_true, decide_eq_true_eq] at hf ⊢
    refine ⟨by omega, Nat.le_trans (Nat.mul_le_mul_right by' hk) hf.2⟩
  unfold appF
  rw [if_pos hsz]
  unfold iappend
  simp only [hy, hm]
  rcases h with ⟨rfl, rfl⟩ | ⟨b, v, n, full, rfl, h1, h2, h3, h4⟩
  · by_cases h0 : m = 0
    · subst h0
      have : ds = [] := List.eq_nil_of_length_eq_zero (by simpa using hd)
      subst this
      simp only [if_true, RP_some]
      exact ⟨.nil, .refl _ _, fun b hb => .inl hb⟩
    · simp only [if_neg h0, hfm m (by omega), ho, Bool.and_self, if_true, RP_some]
      refine ⟨.inr ⟨J.size, 0, m, ds, rfl, by simp, by omega, ?_, by rw [List.drop_of_length_le (by omega)]; rfl⟩, Fr.push _ _ _, ?_⟩
      · rw [List.nil_append, List.take_of_length_le (by omega)]
      · simp [blk, blkOf]
  · by_cases h0 : m = 0
    · subst h0
      have : ds = [] := List.eq_nil_of_length_eq_zero (by simpa using hd)
      subst this
      simp only [if_true, RP_some, List.append_nil]
      exact ⟨.inr ⟨b, v, n, full, rfl, h1, h2, h3, h4⟩, .refl _ _, fun b hb => .inl hb⟩
    · have hcl : cs.length = n * sz := by rw [← h3, List.length_take]; omega
      have hn : n ≤ cs.length := by rw [hcl]; exact Nat.le_mul_of_pos_right n hsz
      simp only [if_neg h0, hfm (n + m) (by omega), ho, Bool.and_self, and_self, if_true, h1, Nat.zero_add, h2, RP_some, Nat.le_add_right, List.drop_zero, h3]
      refine ⟨.inr ⟨b, v + 1, n + m, cs ++ ds, rfl, ?_, ?_, ?_, by rw [List.drop_of_length_le (by rw [List.length_append, hcl, hd, Nat.add_mul]; exact Nat.le_refl _)]; rfl⟩, Fr.set _ _ (by simp [blk, blkOf]), fun b hb => .inl (by simpa [blk, blkOf] using hb)⟩
      · simp [lt_get h1]
      · rw [List.length_append, hcl, hd, Nat.add_mul]; exact Nat.le_refl _
      · rw [List.take_of_length_le]
        rw [List.length_append, hcl, hd, Nat.add_mul]; exact Nat.le_refl _
theorem Grow.one {J : JH} {s : IV} {sz : Nat} {cs : List IV} (h : Grow J s sz cs) : ione s = true := by
  rcases h with ⟨rfl, rfl⟩ | ⟨b, v, n, full, rfl, h1, h2, h3, h4⟩ <;> simp [ione, Go.Proofs.Ytohclaopcejjnaa.G.one]
theorem Grow.icells {J : JH} {s : IV} {sz : Nat} {cs : List IV} (h : Grow J s sz cs) : icells s = [s] := by
  rcases h with ⟨rfl, rfl⟩ | ⟨b, v, n, full, rfl, h1, h2, h3, h4⟩ <;> simp [Go.Proofs.Ytohclaopcejjnaa.G.icells]
theorem grp1' {n : Nat} {l : List IV} (h : n = l.length) : grp 1 n l = l := by subst h; exact grp1 l
theorem Grow.frz1 {J : JH} {s : IV} {cs : List IV} (h : Grow J s 1 cs) (hp : ipureL cs = true) (ho : cs.all ione = true) : ∃ u, frz J DEP s = some u ∧ Ls 1 u cs := by
  rcases h with ⟨rfl, rfl⟩ | ⟨b, v, n, full, rfl, h1, h2, h3, h4⟩
  · exact ⟨_, frzP rfl, .nil⟩
  · have hcl : cs.length = n := by rw [← h3, List.length_take]; omega
    refine ⟨_, by rw [frz12, frz_sl (by omega) (cs := cs) (by simp only [ird, h1, true_and, Nat.zero_add, if_pos h2, List.drop_zero, h3]) hp ho, grp1' hcl.symm], .lst⟩
theorem Grow.cells {J : JH} {s : IV} {sz : Nat} {cs : List IV} (h : Grow J s sz cs) : iscells J sz s = some cs := by
  rcases h with ⟨rfl, rfl⟩ | ⟨b, v, n, full, rfl, h1, h2, h3, h4⟩
  · rfl
  · simp [iscells, ird, h1, h2, h3]
theorem Grow.lenF {J J' : JH} {s : IV} {sz n : Nat} {cs : List IV} (h : Grow J s sz cs) (hn : cs.length = n * sz) (hsz : 0 < sz) : Go.Proofs.Ytohclaopcejjnaa.G.lenF false s J' = some (.int .i64 (n : Nat), J') := by
  rcases h with ⟨rfl, rfl⟩ | ⟨b, v, k, full, rfl, h1, h2, h3, h4⟩
  · have : n = 0 := by
      rcases Nat.eq_zero_or_pos n with h | h
      · exact h
      · have := Nat.mul_pos h hsz; simp at hn; omega
    subst this; rfl
  · have hcl : cs.length = k * sz := by rw [← h3, List.length_take]; omega
    rw [hn] at hcl
    rw [lenF_sl, Nat.eq_of_mul_eq_mul_right hsz hcl]
/-- Elements told by a property. -/
def LsR {α : Type} (sz : Nat) (R : IV → α → Prop) (x : IV) (as : List α) : Prop := ∃ xs, Ls sz x xs ∧ xs.length = as.length ∧ ∀ i (h : i < xs.length) (h' : i < as.length), R xs[i] as[i]
theorem LsR.lenF {α : Type} {sz : Nat} {R : IV → α → Prop} {x : IV} {as : List α} (h : LsR sz R x as) {J : JH} : Go.Proofs.Ytohclaopcejjnaa.G.lenF false x J = some (.int .i64 (as.length : Nat), J) := by
  obtain ⟨xs, h1, h2, _⟩ := h
  rw [← h2]; exact h1.lenF
theorem LsR.at {α : Type} {sz : Nat} {R : IV → α → Prop} {x : IV} {as : List α} (h : LsR sz R x as) {i : Nat} (hi : i < as.length) : ∃ e, R e as[i] ∧ ∀ J, iaddrF sz x (.int .i64 (i : Int)) J = some (.rptr e 0, J) := by
  obtain ⟨xs, h1, h2, h3⟩ := h
  exact ⟨xs[i]'(by omega), h3 i (by omega) hi, fun J => h1.at (by omega)⟩
theorem LsR.pure {α : Type} {sz : Nat} {R : IV → α → Prop} {x : IV} {as : List α} (h : LsR sz R x as) : ipure x = true := h.choose_spec.1.pure
theorem LsR.nil {α : Type} {sz : Nat} {R : IV → α → Prop} : LsR sz R (.sc (.slice none 0 0)) [] := ⟨[], .nil, rfl, fun i h => by simp at h⟩
/-! an append, behind which is checked that something else is as it was -/
noncomputable def thenC (r : Option (IV × JH)) (J : JH) (chk : List (Option (Operand × Bool) × SOp)) (t : Option (List Nat)) (ρ : List IV) (k : L) : Option (Out IV × JH) := match r with
  | some (v, J') => if chk.all (ichk J J' t ρ) then dn BI k (ρ ++ [v]) J' else none
  | none => none
theorem step_chk {ρ : List IV} {J : JH} {p : SOp} {md : Md} {chk} : stepI' BI (ic BI) ρ ⟨none, p, md, chk⟩ J = (match iexec BI (ic BI) md ρ p J with | some (v, J') => if chk.all (ichk J J' (itouch BI md ρ p J) ρ) then some (v, J') else none | none => none) := rfl
def blkF (x : IV) : Option (List Nat) := Go.Proofs.Ytohclaopcejjnaa.G.blkOf x
theorem dnW_oca {ρ : List IV} {J : JH} {sz by' : Nat} {s x : Operand} {md : Md} {chk} {k : L} : dn BI (oc none (.append sz by' s x) md chk k) ρ J = thenC (appF sz by' (evI ρ s) (evI ρ x) J) J chk (blkF (evI ρ s)) ρ k := by
  rw [dnW_oc, step_chk, iexec_append]
  have ht : itouch BI md ρ (.append sz by' s x) J = blkOf (evI ρ s) := rfl
  rw [ht]
  unfold thenC blkF
  generalize appF sz by' (evI ρ s) (evI ρ x) J = r
  cases r with
  | none => rfl
  | some q =>
    by_cases hh : chk.all (ichk J q.2 (blkOf (evI ρ s)) ρ) = true
    · simp only [hh, if_true]; rfl
    · simp only [hh]; rfl
theorem WP_bindC {r : Option (IV × JH)} {J : JH} {chk} {t : Option (List Nat)} {k : L} {ρ : List IV} {P Q} (h : RP r Q) (hk : ∀ v J', Q v J' → chk.all (ichk J J' t ρ) = true ∧ WP (dn BI k (ρ ++ [v]) J') P) : WP (thenC r J chk t ρ k) P := by
  obtain ⟨v, J', hc, hq⟩ := RP_of h
  obtain ⟨h1, h2⟩ := hk v J' hq
  rw [hc]
  simp only [thenC, h1, if_true]
  exact h2
theorem Grow.blkF {J : JH} {s : IV} {sz : Nat} {cs : List IV} (h : Grow J s sz cs) : blkF s = some (blk s) := by
  rcases h with ⟨rfl, rfl⟩ | ⟨b, v, n, full, rfl, h1, h2, h3, h4⟩ <;> rfl
end Go.Proofs.Ytohclaopcejjnaa.G
namespace Go.Proofs.Ytohclaopcejjnaa.G
open Go
set_option linter.unusedSimpArgs false
set_option linter.unusedVariables false
section
variable {α : Type} {sz : Nat}
theorem flat_len : ∀ {X : List (List α)}, (∀ x ∈ X, x.length = sz) → X.flatten.length = X.length * sz
  | [], _ => by simp
  | x :: X, h => by
    rw [List.flatten_cons, List.length_append, h x (by simp), flat_len fun y hy => h y (by simp [hy]), List.length_cons, Nat.succ_mul]
    omega
theorem flat_drop : ∀ {X : List (List α)} {rest : List α} {i : Nat}, (∀ x ∈ X, x.length = sz) → i ≤ X.length → (X.flatten ++ rest).drop (i * sz) = (X.drop i).flatten ++ rest
  | _, _, 0, _, _ => by simp
  | [], _, i + 1, _, h => by simp at h
  | x :: X, rest, i + 1, h, hi => by
    have hx := h x (by simp)
    rw [List.flatten_cons, List.append_assoc, Nat.succ_mul, Nat.add_comm, List.drop_append, hx, List.drop_of_length_le (by omega), List.nil_append, Nat.add_sub_cancel_left, List.drop_succ_cons]
    exact flat_drop (fun y hy => h y (by simp [hy])) (by simpa using hi)
theorem flat_at {X : List (List α)} {rest : List α} {i : Nat} (h : ∀ x ∈ X, x.length = sz) (hi : i < X.length) : ((X.flatten ++ rest).drop (i * sz)).take sz = X[i] := by
  rw [flat_drop h (by omega), List.drop_eq_getElem_cons hi, List.flatten_cons, List.append_assoc, List.take_append_of_le_length (by rw [h _ (List.getElem_mem hi)]; exact Nat.le_refl _), List.take_of_length_le (by rw [h _ (List.getElem_mem hi)]; exact Nat.le_refl _)]
theorem flat_at1 {X : List (List α)} {rest : List α} {i k : Nat} (h : ∀ x ∈ X, x.length = sz) (hi : i < X.length) (hk : k < X[i].length) : ((X.flatten ++ rest).drop (i * sz + k)).take 1 = [X[i][k]] := by
  have hx := h _ (List.getElem_mem hi)
  rw [← List.drop_drop, flat_drop h (by omega), List.drop_eq_getElem_cons hi, List.flatten_cons, List.append_assoc, List.drop_append_of_le_length (by omega), List.drop_eq_getElem_cons hk]
  rfl
theorem flat_take : ∀ {X : List (List α)} {rest : List α} {i : Nat}, (∀ x ∈ X, x.length = sz) → i ≤ X.length → (X.flatten ++ rest).take (i * sz) = (X.take i).flatten
  | _, _, 0, _, _ => by simp
  | [], _, i + 1, _, h => by simp at h
  | x :: X, rest, i + 1, h, hi => by
    have hx := h x (by simp)
    rw [List.flatten_cons, List.append_assoc, Nat.succ_mul, Nat.add_comm, List.take_append, hx, List.take_of_length_le (by omega), Nat.add_sub_cancel_left, List.take_succ_cons, List.flatten_cons]
    rw [flat_take (fun y hy => h y (by simp [hy])) (by simpa using hi)]
/-- Writing into an element. -/
theorem flat_splice {X : List (List IV)} {rest vs : List IV} {i k : Nat} (h : ∀ x ∈ X, x.length = sz) (hi : i < X.length) (hk : k + vs.length ≤ sz) : isplice (X.flatten ++ rest) (i * sz + k) vs = (X.set i (isplice X[i] k vs)).flatten ++ rest := by
  have hx := h _ (List.getElem_mem hi)
  have e1 : (X.flatten ++ rest).take (i * sz + k) = (X.take i).flatten ++ X[i].take k := by
    rw [← List.take_append_drop (i * sz) (X.flatten ++ rest), flat_take h (by omega), flat_drop h (by omega)]
    have hl : (X.take i).flatten.length = i * sz := by rw [flat_len (sz := sz) (fun x hx => h x (List.mem_of_mem_take hx)), List.length_take, Nat.min_eq_left (by omega)]
    rw [List.take_append, hl, List.take_of_length_le (by omega), Nat.add_sub_cancel_left, List.drop_eq_getElem_cons hi, List.flatten_cons, List.append_assoc, List.take_append_of_le_length (by omega)]
  have e2 : (X.flatten ++ rest).drop (i * sz + k + vs.length) = X[i].drop (k + vs.length) ++ ((X.drop (i + 1)).flatten ++ rest) := by
    rw [Nat.add_assoc, ← List.drop_drop, flat_drop h (by omega), List.drop_eq_getElem_cons hi, List.flatten_cons, List.append_assoc, List.drop_append_of_le_length (by omega)]
  unfold isplice
  rw [e1, e2, List.set_eq_take_append_cons_drop, if_pos hi]
  simp [List.flatten_append]
end
/-- A slice whose elements are told cell by cell (some more cells may lie behind). -/
def SlX (J : JH) (x : IV) (sz : Nat) (X : List (List IV)) : Prop := (∀ e ∈ X, e.length = sz) ∧ ((x = .sc (.slice none 0 0) ∧ X = []) ∨ ∃ b v rest, x = .sl b v 0 X.length (UNK + sz) sz ∧ J[b]? = some (.cells v (X.flatten ++ rest) false) ∧ irefsL rest = [])
theorem SlX.grow {J : JH} {x : IV} {sz : Nat} {X : List (List IV)} (h : SlX J x sz X) : Grow J x sz X.flatten := by
  obtain ⟨h1, ⟨rfl, rfl⟩ | ⟨b, v, rest, rfl, h2, h5⟩⟩ := h
  · exact .nil
  · refine .inr ⟨b, v, _, _, rfl, h2, ?_, ?_, by rw [flat_drop h1 (Nat.le_refl _), List.drop_length]; exact h5⟩
    · rw [List.length_append, flat_len h1]; omega
    · rw [flat_take h1 (Nat.le_refl _), List.take_length]
theorem Grow.slx {J : JH} {x : IV} {sz : Nat} {X : List (List IV)} (h : Grow J x sz X.flatten) (h1 : ∀ e ∈ X, e.length = sz) (hsz : 0 < sz) : SlX J x sz X := by
  refine ⟨h1, ?_⟩
  have hl := flat_len h1
  rcases h with ⟨rfl, h2⟩ | ⟨b, v, n, full, rfl, h2, h3, h4, h5⟩
  · left
    rw [h2] at hl
    have : X.length = 0 := by
      rcases Nat.eq_zero_or_pos X.length with h | h
      · exact h
      · have := Nat.mul_pos h hsz; simp at hl; omega
    exact ⟨rfl, List.eq_nil_of_length_eq_zero this⟩
  · right
    have hn : n = X.length := by
      have : (full.take (n * sz)).length = n * sz := by rw [List.length_take]; omega
      rw [h4, hl] at this
      exact (Nat.eq_of_mul_eq_mul_right hsz this).symm
    subst hn
    refine ⟨b, v, full.drop (X.length * sz), rfl, ?_, h5⟩
    rw [h2, ← h4, List.take_append_drop]
mutual
theorem irefs_pure : (v : IV) → ipure v = true → irefs v = []
  | .sc _, _ => by simp [irefs]
  | .agg cs, h => by
    simp only [ipure] at h
    simp only [irefs]
    exact irefsL_pure cs h
  | .tup cs, h => by
    simp only [ipure] at h
    simp only [irefs]
    exact irefsL_pure cs h
  | .fn _ a b, h => by
    simp only [ipure, Bool.and_eq_true] at h
    simp only [irefs, irefsL_pure a h.1, irefsL_pure b h.2, List.append_nil]
  | .lst _ _ _, _ => by simp [irefs]
  | .rptr _ _, _ => by simp [irefs]
  | .ptr _ _ _, h => by simp [ipure] at h
  | .map _, h => by simp [ipure] at h
  | .sl _ _ _ _ _ _, h => by simp [ipure] at h
theorem irefsL_pure : (l : List IV) → ipureL l = true → irefsL l = []
  | [], _ => by simp [irefsL]
  | v :: l, h => by
    simp only [ipureL, Bool.and_eq_true] at h
    simp only [irefsL, irefs_pure v h.1, irefsL_pure l h.2, List.append_nil]
end
theorem irefsL_append : ∀ (a b : List IV), irefsL (a ++ b) = irefsL a ++ irefsL b
  | [], b => by simp [irefsL]
  | v :: a, b => by simp [irefsL, irefsL_append a b]
theorem irefsL_drop {l : List IV} (h : irefsL l = []) (k : Nat) : irefsL (l.drop k) = [] := by
  rw [← List.take_append_drop k l, irefsL_append] at h
  exact (List.append_eq_nil_iff.1 h).2
theorem irefsL_take {l : List IV} (h : irefsL l = []) (k : Nat) : irefsL (l.take k) = [] := by
  rw [← List.take_append_drop k l, irefsL_append] at h
  exact (List.append_eq_nil_iff.1 h).1
end Go.Proofs.Ytohclaopcejjnaa.G
namespace Go.Proofs.Ytohclaopcejjnaa.G
open Go
set_option linter.unusedSimpArgs false
set_option linter.unusedVariables false
theorem fits1 {n : Nat} (h : n ≤ 1000000) : fits n 1 = true := by
  simp only [fits, Bool.and_eq_true, decide_eq_true_eq]
  omega
/-- a copy: nil stays so -/
theorem bClone_nil (J : JH) : ic BI F_bytes_Clone [.sc (.slice none 0 0)] J = some (.sc (.slice none 0 0), J) := by
  refine ic_run fn_bytes_Clone rfl (vs := [.sc (.slice none 0 0)]) ?_
  unfold l_bytes_Clone
  simp -implicitDefEqProofs only [dn_o, dn_om, dn_oc, dn_ite, dn_ret, dn_join, dn_goto, iexec, evI_0, evI_succ, evI_int, evI_bool, evI_nilsl, evI_nilp, List.cons_append, List.nil_append, scal2_sc, abin, aun, ilift_some, thenI_some, onIf_bool, onJoin_goto, onJoin_ret, onJoin_ite, thenI_ite, Option.map_some, Option.map_none, decide_eq_true_eq, List.map_cons, List.map_nil, reduceIte, if_true, if_false, Bool.false_eq_true, inew, iload, istore, iwr, ird, icells, ione, one, List.getElem?_toArray, List.getElem?_cons_zero, List.getElem?_cons_succ, List.push_toArray, List.size_toArray, List.length_cons, List.length_nil, List.setIfInBounds_toArray, List.set_cons_zero, List.set_cons_succ, isplice_cons, List.drop_succ_cons, List.drop_zero, List.take_succ_cons, List.take_zero, List.drop_nil, List.take_nil, List.append_nil, List.all_cons, List.all_nil, Bool.and_true, Bool.true_and, Bool.and_self, Nat.zero_add, Nat.add_zero, Nat.reduceAdd, Nat.reduceLeDiff, Nat.reduceMul, Nat.le_refl, true_and, and_true, and_self, List.getElem?_nil, BI_zc, BI_zv, BI_co, zcT, zvT, coT, not_true_eq_false, not_false_eq_true, Bool.not_true, Bool.not_false, stepI', wantsI, ifill, ievs, Nat.reduceEqDiff, itup, Nat.le_add_left, Nat.le_add_right, iaggEq, List.foldl, iminI, iminF, imin2, min2, iisNil, isNil, ilen, Option.isNone_none, Option.isNone_some, Nat.zero_le, decide_true, decide_false, ireps, List.replicate, List.flatten_cons, List.flatten_nil, ichk, itouch, ctouch, ilooks, isame, untouched, Option.isSome_some, Bool.or_true, Bool.true_or, List.contains_nil, Int.reduceLT, Int.reduceLE, blkOf, IntKind.bits, iasNat, asNat, Int.toNat_natCast, Int.natCast_nonneg, List.length_map, endP_ret, endP_ite, Int.reduceToNat, iscells, ibnd, islice, capOf, Option.isSome_none, Bool.false_and, Bool.and_false, Bool.or_false, Bool.false_or, bne_self_eq_false, Nat.not_lt_zero, Nat.mul_one, Nat.one_mul, Nat.zero_mul, Nat.mul_zero, onJoin_out, beq_self_eq_true, Nat.sub_zero, Nat.reduceSub, List.length_set, false_implies, implies_true, forall_const]
theorem bClone_0 (f : Bool) (J : JH) : ic BI F_bytes_Clone [.lst 1 f []] J = some (.lst 1 true [], J) := by
  refine ic_run fn_bytes_Clone rfl (vs := [.lst 1 true []]) ?_
  unfold l_bytes_Clone
  simp -implicitDefEqProofs only [dn_o, dn_om, dn_oc, dn_ite, dn_ret, dn_join, dn_goto, iexec, evI_0, evI_succ, evI_int, evI_bool, evI_nilsl, evI_nilp, List.cons_append, List.nil_append, scal2_sc, abin, aun, ilift_some, thenI_some, onIf_bool, onJoin_goto, onJoin_ret, onJoin_ite, thenI_ite, Option.map_some, Option.map_none, decide_eq_true_eq, List.map_cons, List.map_nil, reduceIte, if_true, if_false, Bool.false_eq_true, inew, iload, istore, iwr, ird, icells, ione, one, List.getElem?_toArray, List.getElem?_cons_zero, List.getElem?_cons_succ, List.push_toArray, List.size_toArray, List.length_cons, List.length_nil, List.setIfInBounds_toArray, List.set_cons_zero, List.set_cons_succ, isplice_cons, List.drop_succ_cons, List.drop_zero, List.take_succ_cons, List.take_zero, List.drop_nil, List.take_nil, List.append_nil, List.all_cons, List.all_nil, Bool.and_true, Bool.true_and, Bool.and_self, Nat.zero_add, Nat.add_zero, Nat.reduceAdd, Nat.reduceLeDiff, Nat.reduceMul, Nat.le_refl, true_and, and_true, and_self, List.getElem?_nil, BI_zc, BI_zv, BI_co, zcT, zvT, coT, not_true_eq_false, not_false_eq_true, Bool.not_true, Bool.not_false, stepI', wantsI, ifill, ievs, Nat.reduceEqDiff, itup, Nat.le_add_left, Nat.le_add_right, iaggEq, List.foldl, iminI, iminF, imin2, min2, iisNil, isNil, ilen, Option.isNone_none, Option.isNone_some, Nat.zero_le, decide_true, decide_false, ireps, List.replicate, List.flatten_cons, List.flatten_nil, ichk, itouch, ctouch, ilooks, isame, untouched, Option.isSome_some, Bool.or_true, Bool.true_or, List.contains_nil, Int.reduceLT, Int.reduceLE, blkOf, IntKind.bits, iasNat, asNat, Int.toNat_natCast, Int.natCast_nonneg, List.length_map, endP_ret, endP_ite, Int.reduceToNat, iscells, ibnd, islice, capOf, Option.isSome_none, Bool.false_and, Bool.and_false, Bool.or_false, Bool.false_or, bne_self_eq_false, Nat.not_lt_zero, Nat.mul_one, Nat.one_mul, Nat.zero_mul, Nat.mul_zero, onJoin_out, beq_self_eq_true, Nat.sub_zero, Nat.reduceSub, List.length_set, false_implies, implies_true, forall_const, iappend, List.flatMap_nil, ipureL, grp, Nat.lt_irrefl, Nat.zero_lt_one, UNK_pos]
theorem bClone_ok (f : Bool) (xs : List Int) (hne : xs ≠ []) (hb : xs.length ≤ 1000000) (J : JH) :
    ic BI F_bytes_Clone [.lst 1 f (xs.map (IV.int .u8))] J = some (.sl J.size 0 0 xs.length (UNK + 1) 1, J.push (IB.cells 0 (xs.map (IV.int .u8)) false)) := by
  have hn : ¬ xs.length = 0 := fun h => hne (List.eq_nil_of_length_eq_zero h)
  refine ic_run fn_bytes_Clone rfl (vs := [.sl J.size 0 0 xs.length (UNK + 1) 1]) ?_
  unfold l_bytes_Clone
  simp -implicitDefEqProofs only [dn_o, dn_om, dn_oc, dn_ite, dn_ret, dn_join, dn_goto, iexec, evI_0, evI_succ, evI_int, evI_bool, evI_nilsl, evI_nilp, List.cons_append, List.nil_append, scal2_sc, abin, aun, ilift_some, thenI_some, onIf_bool, onJoin_goto, onJoin_ret, onJoin_ite, thenI_ite, Option.map_some, Option.map_none, decide_eq_true_eq, List.map_cons, List.map_nil, reduceIte, if_true, if_false, Bool.false_eq_true, inew, iload, istore, iwr, ird, icells, ione, one, List.getElem?_toArray, List.getElem?_cons_zero, List.getElem?_cons_succ, List.push_toArray, List.size_toArray, List.length_cons, List.length_nil, List.setIfInBounds_toArray, List.set_cons_zero, List.set_cons_succ, isplice_cons, List.drop_succ_cons, List.drop_zero, List.take_succ_cons, List.take_zero, List.drop_nil, List.take_nil, List.append_nil, List.all_cons, List.all_nil, Bool.and_true, Bool.true_and, Bool.and_self, Nat.zero_add, Nat.add_zero, Nat.reduceAdd, Nat.reduceLeDiff, Nat.reduceMul, Nat.le_refl, true_and, and_true, and_self, List.getElem?_nil, BI_zc, BI_zv, BI_co, zcT, zvT, coT, not_true_eq_false, not_false_eq_true, Bool.not_true, Bool.not_false, stepI', wantsI, ifill, ievs, Nat.reduceEqDiff, itup, Nat.le_add_left, Nat.le_add_right, iaggEq, List.foldl, iminI, iminF, imin2, min2, iisNil, isNil, ilen, Option.isNone_none, Option.isNone_some, Nat.zero_le, decide_true, decide_false, ireps, List.replicate, List.flatten_cons, List.flatten_nil, ichk, itouch, ctouch, ilooks, isame, untouched, Option.isSome_some, Bool.or_true, Bool.true_or, List.contains_nil, Int.reduceLT, Int.reduceLE, blkOf, IntKind.bits, iasNat, asNat, Int.toNat_natCast, Int.natCast_nonneg, List.length_map, endP_ret, endP_ite, Int.reduceToNat, iscells, ibnd, islice, capOf, Option.isSome_none, Bool.false_and, Bool.and_false, Bool.or_false, Bool.false_or, bne_self_eq_false, Nat.not_lt_zero, Nat.mul_one, Nat.one_mul, Nat.zero_mul, Nat.mul_zero, onJoin_out, beq_self_eq_true, Nat.sub_zero, Nat.reduceSub, List.length_set, false_implies, implies_true, forall_const, iappend, ints_cells, hn, fits1 hb, ints_ione, List.flatMap_nil, ipureL, grp, Nat.lt_irrefl, Nat.zero_lt_one, UNK_pos]
theorem frz_bytes {J : JH} {b n k : Nat} {κ : IntKind} {cap : Nat} {xs : List Int} (h : ird J b k 0 (n * 1) = some (xs.map (IV.int κ))) (hn : n = xs.length) : ∃ f, frz J DEP (.sl b k 0 n cap 1) = some (.lst 1 f (xs.map (IV.int κ))) := by
  subst hn
  refine ⟨(xs.length == cap && decide (cap < UNK)), ?_⟩
  rw [frz12, frz_sl (by omega) h ints_pure ints_ione]
  have hg := grp1 (xs.map (IV.int κ))
  rw [List.length_map] at hg
  rw [hg]
theorem pc_of {f : FuncId} {args : List IV} {v : IV} {J : JH} {u : IV} (h : ic BI f args #[] = some (v, J)) (hf : frz J DEP v = some u) : pc BI f args = some u := by
  unfold pc; rw [h]; exact hf
theorem bClone_pc {x : IV} {l : List Int} (h : Bs x l) (hb : l.length ≤ 1000000) : ∃ y, pc BI F_bytes_Clone [x] = some y ∧ Bs y l := by
  rcases h with ⟨rfl, h⟩ | ⟨f, rfl⟩
  · exact ⟨_, pc_of (bClone_nil _) (frzP rfl), .inl ⟨rfl, h⟩⟩
  · by_cases hl : l = []
    · subst hl
      exact ⟨_, pc_of (bClone_0 _ _) (frzP rfl), Ls.lst⟩
    · obtain ⟨g, hg⟩ := frz_bytes (J := #[].push (IB.cells 0 (l.map (IV.int .u8)) false)) (b := 0) (n := l.length) (k := 0) (cap := UNK + 1) (xs := l) (κ := .u8) (by simp [ird]; exact List.take_of_length_le (by simp)) rfl
      exact ⟨_, pc_of (bClone_ok f l hl hb _) hg, Ls.lst⟩
theorem pc_call {f : FuncId} {args : List IV} {u : IV} {J : JH} {k : IV → JH → Option (Out IV × JH)} (hp : pc BI f args = some u) (h : ipureL args = true) : thenI (doCall (ic BI) .pure f args J) k = k u J := by rw [dcp hp h]; rfl

/-! are two lists of bytes alike? -/
theorem bSame_step (x y : IV) (as bs : List Int) (hx : Bs x as) (hy : Bs y bs) (hn : as.length = bs.length) (hb : as.length ≤ 1000000) (i : Nat) (hi : i ≤ as.length) (J : JH) (P : Out IV → JH → Prop)
    (h0 : i = as.length → P (.goto 0 []) J)
    (h1 : ∀ (h : i < as.length) (h' : i < bs.length), as[i] = bs[i] → P (.goto 1 [x, y, .int .i64 ((as.length : Nat) : Int), .int .i64 ((i + 1 : Nat) : Int)]) J)
    (h2 : ∀ (h : i < as.length) (h' : i < bs.length), ¬ as[i] = bs[i] → P (.ret [.bool false]) J) :
    WP (dn BI l_ref01_Same_k0 [x, y, .int .i64 ((as.length : Nat) : Int), .int .i64 (i : Int)] J) P := by
  by_cases h : i < as.length
  · have hj : i < bs.length := by omega
    have hw : IntKind.i64.wrap ((i : Int) + 1) = ((i + 1 : Nat) : Int) := by rw [wrap_i64 (by omega) (by omega)]; omega
    unfold l_ref01_Same_k0
    simp -implicitDefEqProofs only [dn_ret, dn_goto, iexec, evI_0, evI_succ, evI_int, evI_bool, evI_nilsl, evI_nilp, List.cons_append, List.nil_append, scal2_sc, abin, aun, ilift_some, Option.map_some, Option.map_none, decide_eq_true_eq, List.map_cons, List.map_nil, reduceIte, if_true, if_false, Bool.false_eq_true, inew, iload, istore, iwr, ird, icells, ione, one, List.getElem?_toArray, List.getElem?_cons_zero, List.getElem?_cons_succ, List.push_toArray, List.size_toArray, List.length_cons, List.length_nil, List.setIfInBounds_toArray, List.set_cons_zero, List.set_cons_succ, isplice_cons, List.drop_succ_cons, List.drop_zero, List.take_succ_cons, List.take_zero, List.drop_nil, List.take_nil, List.append_nil, List.all_cons, List.all_nil, Bool.and_true, Bool.true_and, Bool.and_self, Nat.zero_add, Nat.add_zero, Nat.reduceAdd, Nat.reduceLeDiff, Nat.reduceMul, Nat.le_refl, true_and, and_true, and_self, List.getElem?_nil, BI_zc, BI_zv, BI_co, zcT, zvT, coT, not_true_eq_false, not_false_eq_true, Bool.not_true, Bool.not_false, stepI', wantsI, ifill, ievs, Nat.reduceEqDiff, itup, Nat.le_add_left, Nat.le_add_right, iaggEq, List.foldl, iminI, iminF, imin2, min2, iisNil, isNil, ilen, Option.isNone_none, Option.isNone_some, Nat.zero_le, decide_true, decide_false, ireps, List.replicate, List.flatten_cons, List.flatten_nil, ichk, itouch, ctouch, ilooks, isame, untouched, Option.isSome_some, Bool.or_true, Bool.true_or, List.contains_nil, Int.reduceLT, Int.reduceLE, blkOf, IntKind.bits, iasNat, asNat, Int.toNat_natCast, Int.natCast_nonneg, List.length_map, Int.reduceToNat, iscells, ibnd, islice, capOf, Option.isSome_none, Bool.false_and, Bool.and_false, Bool.or_false, Bool.false_or, bne_self_eq_false, Nat.not_lt_zero, Nat.mul_one, Nat.one_mul, Nat.zero_mul, Nat.mul_zero, beq_self_eq_true, Nat.sub_zero, Nat.reduceSub, List.length_set, false_implies, implies_true, forall_const, ↓dnW_oca, Nat.reduceLT, evI_fn, Nat.zero_lt_one, dnW_o, dnW_om, dnW_oc, dnW_ite, dnW_join, thenD_some, thenD_ite, onIfD_bool, onJoinD_out, onJoinD_ret, onJoinD_ite, Int.reduceEq, WP_some, WP_ite, byOut_goto, byOut_ret, ↓iexec_len, ↓iexec_iaddr, ↓iexec_append, ↓iexec_store, storeF_ptr, lenF_nil, lenF_lst, lenF_sl, lenF_str, iaddrF_sl, iaddrF_lst, show ((i : Int) < (as.length : Int)) by omega, hx.at h, hy.at hj, bne_iff_ne, ne_eq, hw]
    split
    · rename_i he; exact h2 h hj he
    · rename_i he; exact h1 h hj (Classical.not_not.1 he)
  · unfold l_ref01_Same_k0
    simp -implicitDefEqProofs only [dn_ret, dn_goto, iexec, evI_0, evI_succ, evI_int, evI_bool, evI_nilsl, evI_nilp, List.cons_append, List.nil_append, scal2_sc, abin, aun, ilift_some, Option.map_some, Option.map_none, decide_eq_true_eq, List.map_cons, List.map_nil, reduceIte, if_true, if_false, Bool.false_eq_true, inew, iload, istore, iwr, ird, icells, ione, one, List.getElem?_toArray, List.getElem?_cons_zero, List.getElem?_cons_succ, List.push_toArray, List.size_toArray, List.length_cons, List.length_nil, List.setIfInBounds_toArray, List.set_cons_zero, List.set_cons_succ, isplice_cons, List.drop_succ_cons, List.drop_zero, List.take_succ_cons, List.take_zero, List.drop_nil, List.take_nil, List.append_nil, List.all_cons, List.all_nil, Bool.and_true, Bool.true_and, Bool.and_self, Nat.zero_add, Nat.add_zero, Nat.reduceAdd, Nat.reduceLeDiff, Nat.reduceMul, Nat.le_refl, true_and, and_true, and_self, List.getElem?_nil, BI_zc, BI_zv, BI_co, zcT, zvT, coT, not_true_eq_false, not_false_eq_true, Bool.not_true, Bool.not_false, stepI', wantsI, ifill, ievs, Nat.reduceEqDiff, itup, Nat.le_add_left, Nat.le_add_right, iaggEq, List.foldl, iminI, iminF, imin2, min2, iisNil, isNil, ilen, Option.isNone_none, Option.isNone_some, Nat.zero_le, decide_true, decide_false, ireps, List.replicate, List.flatten_cons, List.flatten_nil, ichk, itouch, ctouch, ilooks, isame, untouched, Option.isSome_some, Bool.or_true, Bool.true_or, List.contains_nil, Int.reduceLT, Int.reduceLE, blkOf, IntKind.bits, iasNat, asNat, Int.toNat_natCast, Int.natCast_nonneg, List.length_map, Int.reduceToNat, iscells, ibnd, islice, capOf, Option.isSome_none, Bool.false_and, Bool.and_false, Bool.or_false, Bool.false_or, bne_self_eq_false, Nat.not_lt_zero, Nat.mul_one, Nat.one_mul, Nat.zero_mul, Nat.mul_zero, beq_self_eq_true, Nat.sub_zero, Nat.reduceSub, List.length_set, false_implies, implies_true, forall_const, ↓dnW_oca, Nat.reduceLT, evI_fn, Nat.zero_lt_one, dnW_o, dnW_om, dnW_oc, dnW_ite, dnW_join, thenD_some, thenD_ite, onIfD_bool, onJoinD_out, onJoinD_ret, onJoinD_ite, Int.reduceEq, WP_some, WP_ite, byOut_goto, byOut_ret, ↓iexec_len, ↓iexec_iaddr, ↓iexec_append, ↓iexec_store, storeF_ptr, lenF_nil, lenF_lst, lenF_sl, lenF_str, iaddrF_sl, iaddrF_lst, show ¬ ((i : Int) < (as.length : Int)) by omega]
    exact h0 (by omega)
theorem bSame_ok {x y : IV} {as bs : List Int} (hx : Bs x as) (hy : Bs y bs) (hb : as.length ≤ 1000000) : pc BI F_ref01_Same [x, y] = some (.bool (decide (as = bs))) := by
  refine pcE fn_ref01_Same rfl fun K hK => ?_
  · by_cases hn : as.length = bs.length
    · unfold l_ref01_Same
      simp -implicitDefEqProofs only [dn_ret, dn_goto, iexec, evI_0, evI_succ, evI_int, evI_bool, evI_nilsl, evI_nilp, List.cons_append, List.nil_append, scal2_sc, abin, aun, ilift_some, Option.map_some, Option.map_none, decide_eq_true_eq, List.map_cons, List.map_nil, reduceIte, if_true, if_false, Bool.false_eq_true, inew, iload, istore, iwr, ird, icells, ione, one, List.getElem?_toArray, List.getElem?_cons_zero, List.getElem?_cons_succ, List.push_toArray, List.size_toArray, List.length_cons, List.length_nil, List.setIfInBounds_toArray, List.set_cons_zero, List.set_cons_succ, isplice_cons, List.drop_succ_cons, List.drop_zero, List.take_succ_cons, List.take_zero, List.drop_nil, List.take_nil, List.append_nil, List.all_cons, List.all_nil, Bool.and_true, Bool.true_and, Bool.and_self, Nat.zero_add, Nat.add_zero, Nat.reduceAdd, Nat.reduceLeDiff, Nat.reduceMul, Nat.le_refl, true_and, and_true, and_self, List.getElem?_nil, BI_zc, BI_zv, BI_co, zcT, zvT, coT, not_true_eq_false, not_false_eq_true, Bool.not_true, Bool.not_false, stepI', wantsI, ifill, ievs, Nat.reduceEqDiff, itup, Nat.le_add_left, Nat.le_add_right, iaggEq, List.foldl, iminI, iminF, imin2, min2, iisNil, isNil, ilen, Option.isNone_none, Option.isNone_some, Nat.zero_le, decide_true, decide_false, ireps, List.replicate, List.flatten_cons, List.flatten_nil, ichk, itouch, ctouch, ilooks, isame, untouched, Option.isSome_some, Bool.or_true, Bool.true_or, List.contains_nil, Int.reduceLT, Int.reduceLE, blkOf, IntKind.bits, iasNat, asNat, Int.toNat_natCast, Int.natCast_nonneg, List.length_map, Int.reduceToNat, iscells, ibnd, islice, capOf, Option.isSome_none, Bool.false_and, Bool.and_false, Bool.or_false, Bool.false_or, bne_self_eq_false, Nat.not_lt_zero, Nat.mul_one, Nat.one_mul, Nat.zero_mul, Nat.mul_zero, beq_self_eq_true, Nat.sub_zero, Nat.reduceSub, List.length_set, false_implies, implies_true, forall_const, ↓dnW_oca, Nat.reduceLT, evI_fn, Nat.zero_lt_one, dnW_o, dnW_om, dnW_oc, dnW_ite, dnW_join, thenD_some, thenD_ite, onIfD_bool, onJoinD_out, onJoinD_ret, onJoinD_ite, Int.reduceEq, WP_some, WP_ite, byOut_goto, byOut_ret, ↓iexec_len, ↓iexec_iaddr, ↓iexec_append, ↓iexec_store, storeF_ptr, lenF_nil, lenF_lst, lenF_sl, lenF_str, iaddrF_sl, iaddrF_lst, hx.lenF, hy.lenF, bne_iff_ne, ne_eq, hn, dn_loop]
      rw [← hn]
      refine WP_loop (by decide) (fun m vs J => ∃ i : Nat, i + m = as.length ∧ as.take i = bs.take i ∧ vs = [x, y, .int .i64 ((as.length : Nat) : Int), .int .i64 (i : Int)]) ?_ as.length _ _ ⟨0, by omega, rfl, rfl⟩
      rintro m vs J ⟨i, hm, ht, rfl⟩ K1 g1 g2 g3
      refine bSame_step x y as bs hx hy hn hb i (by omega) J _ (fun he => ?_) (fun h h' he => ?_) (fun h h' he => ?_)
      · refine g2 _ _ ?_
        unfold l_ref01_Same_k1
        simp -implicitDefEqProofs only [dn_ret, dn_goto, iexec, evI_0, evI_succ, evI_int, evI_bool, evI_nilsl, evI_nilp, List.cons_append, List.nil_append, scal2_sc, abin, aun, ilift_some, Option.map_some, Option.map_none, decide_eq_true_eq, List.map_cons, List.map_nil, reduceIte, if_true, if_false, Bool.false_eq_true, inew, iload, istore, iwr, ird, icells, ione, one, List.getElem?_toArray, List.getElem?_cons_zero, List.getElem?_cons_succ, List.push_toArray, List.size_toArray, List.length_cons, List.length_nil, List.setIfInBounds_toArray, List.set_cons_zero, List.set_cons_succ, isplice_cons, List.drop_succ_cons, List.drop_zero, List.take_succ_cons, List.take_zero, List.drop_nil, List.take_nil, List.append_nil, List.all_cons, List.all_nil, Bool.and_true, Bool.true_and, Bool.and_self, Nat.zero_add, Nat.add_zero, Nat.reduceAdd, Nat.reduceLeDiff, Nat.reduceMul, Nat.le_refl, true_and, and_true, and_self, List.getElem?_nil, BI_zc, BI_zv, BI_co, zcT, zvT, coT, not_true_eq_false, not_false_eq_true, Bool.not_true, Bool.not_false, stepI', wantsI, ifill, ievs, Nat.reduceEqDiff, itup, Nat.le_add_left, Nat.le_add_right, iaggEq, List.foldl, iminI, iminF, imin2, min2, iisNil, isNil, ilen, Option.isNone_none, Option.isNone_some, Nat.zero_le, decide_true, decide_false, ireps, List.replicate, List.flatten_cons, List.flatten_nil, ichk, itouch, ctouch, ilooks, isame, untouched, Option.isSome_some, Bool.or_true, Bool.true_or, List.contains_nil, Int.reduceLT, Int.reduceLE, blkOf, IntKind.bits, iasNat, asNat, Int.toNat_natCast, Int.natCast_nonneg, List.length_map, Int.reduceToNat, iscells, ibnd, islice, capOf, Option.isSome_none, Bool.false_and, Bool.and_false, Bool.or_false, Bool.false_or, bne_self_eq_false, Nat.not_lt_zero, Nat.mul_one, Nat.one_mul, Nat.zero_mul, Nat.mul_zero, beq_self_eq_true, Nat.sub_zero, Nat.reduceSub, List.length_set, false_implies, implies_true, forall_const, ↓dnW_oca, Nat.reduceLT, evI_fn, Nat.zero_lt_one, dnW_o, dnW_om, dnW_oc, dnW_ite, dnW_join, thenD_some, thenD_ite, onIfD_bool, onJoinD_out, onJoinD_ret, onJoinD_ite, Int.reduceEq, WP_some, WP_ite, byOut_goto, byOut_ret, ↓iexec_len, ↓iexec_iaddr, ↓iexec_append, ↓iexec_store, storeF_ptr, lenF_nil, lenF_lst, lenF_sl, lenF_str, iaddrF_sl, iaddrF_lst]
        refine hK _ _ (frzE rfl ?_)
        rw [List.take_of_length_le (by omega), List.take_of_length_le (by omega)] at ht
        simp [ht, itup]
      · refine g1 _ (m - 1) _ (by omega) ⟨i + 1, by omega, by rw [List.take_succ_eq_append_getElem h, List.take_succ_eq_append_getElem h', ht, he], rfl⟩
      · refine g3 _ _ (hK _ _ (frzE rfl ?_))
        have : as ≠ bs := fun h => he (by simp [h])
        simp [this, itup]
    · have hne : as ≠ bs := fun h => hn (by rw [h])
      unfold l_ref01_Same
      simp -implicitDefEqProofs only [dn_ret, dn_goto, iexec, evI_0, evI_succ, evI_int, evI_bool, evI_nilsl, evI_nilp, List.cons_append, List.nil_append, scal2_sc, abin, aun, ilift_some, Option.map_some, Option.map_none, decide_eq_true_eq, List.map_cons, List.map_nil, reduceIte, if_true, if_false, Bool.false_eq_true, inew, iload, istore, iwr, ird, icells, ione, one, List.getElem?_toArray, List.getElem?_cons_zero, List.getElem?_cons_succ, List.push_toArray, List.size_toArray, List.length_cons, List.length_nil, List.setIfInBounds_toArray, List.set_cons_zero, List.set_cons_succ, isplice_cons, List.drop_succ_cons, List.drop_zero, List.take_succ_cons, List.take_zero, List.drop_nil, List.take_nil, List.append_nil, List.all_cons, List.all_nil, Bool.and_true, Bool.true_and, Bool.and_self, Nat.zero_add, Nat.add_zero, Nat.reduceAdd, Nat.reduceLeDiff, Nat.reduceMul, Nat.le_refl, true_and, and_true, and_self, List.getElem?_nil, BI_zc, BI_zv, BI_co, zcT, zvT, coT, not_true_eq_false, not_false_eq_true, Bool.not_true, Bool.not_false, stepI', wantsI, ifill, ievs, Nat.reduceEqDiff, itup, Nat.le_add_left, Nat.le_add_right, iaggEq, List.foldl, iminI, iminF, imin2, min2, iisNil, isNil, ilen, Option.isNone_none, Option.isNone_some, Nat.zero_le, decide_true, decide_false, ireps, List.replicate, List.flatten_cons, List.flatten_nil, ichk, itouch, ctouch, ilooks, isame, untouched, Option.isSome_some, Bool.or_true, Bool.true_or, List.contains_nil, Int.reduceLT, Int.reduceLE, blkOf, IntKind.bits, iasNat, asNat, Int.toNat_natCast, Int.natCast_nonneg, List.length_map, Int.reduceToNat, iscells, ibnd, islice, capOf, Option.isSome_none, Bool.false_and, Bool.and_false, Bool.or_false, Bool.false_or, bne_self_eq_false, Nat.not_lt_zero, Nat.mul_one, Nat.one_mul, Nat.zero_mul, Nat.mul_zero, beq_self_eq_true, Nat.sub_zero, Nat.reduceSub, List.length_set, false_implies, implies_true, forall_const, ↓dnW_oca, Nat.reduceLT, evI_fn, Nat.zero_lt_one, dnW_o, dnW_om, dnW_oc, dnW_ite, dnW_join, thenD_some, thenD_ite, onIfD_bool, onJoinD_out, onJoinD_ret, onJoinD_ite, Int.reduceEq, WP_some, WP_ite, byOut_goto, byOut_ret, ↓iexec_len, ↓iexec_iaddr, ↓iexec_append, ↓iexec_store, storeF_ptr, lenF_nil, lenF_lst, lenF_sl, lenF_str, iaddrF_sl, iaddrF_lst, hx.lenF, hy.lenF, bne_iff_ne, ne_eq, Int.natCast_inj, hn, hne]
      exact hK _ _ (frzE rfl (by simp [itup, hne]))
end Go.Proofs.Ytohclaopcejjnaa.G
namespace Go.Proofs.Ytohclaopcejjnaa.G
open Go
set_option linter.unusedSimpArgs false
set_option linter.unusedVariables false
theorem cut_step (x out : IV) (l : List Int) (hx : Bs x l) (most : Nat) (i : Nat) (hi : i ≤ l.length) (hb : l.length ≤ 9223372036854775807) (J : JH) (cs : List IV) (hg : Grow J out 1 cs) (hc : cs.length < 1000000) (P : Out IV → JH → Prop)
    (h0 : i = l.length → P (.goto 0 [out]) J)
    (h1 : ∀ (h : i < l.length), i < most → ∀ out' J', Grow J' out' 1 (cs ++ [IV.int .u8 l[i]]) → P (.goto 1 [.int .i64 (most : Int), out', x, .int .i64 ((l.length : Nat) : Int), .int .i64 ((i + 1 : Nat) : Int)]) J')
    (h2 : ∀ (h : i < l.length), ¬ i < most → P (.goto 1 [.int .i64 (most : Int), out, x, .int .i64 ((l.length : Nat) : Int), .int .i64 ((i + 1 : Nat) : Int)]) J) :
    WP (dn BI l_ref01_Cut_k0 [.int .i64 (most : Int), out, x, .int .i64 ((l.length : Nat) : Int), .int .i64 (i : Int)] J) P := by
  by_cases h : i < l.length
  · have hw : IntKind.i64.wrap ((i : Int) + 1) = ((i + 1 : Nat) : Int) := by rw [wrap_i64 (by omega) (by omega)]; omega
    unfold l_ref01_Cut_k0
    by_cases hm : i < most
    · simp -implicitDefEqProofs only [dn_ret, dn_goto, iexec, evI_0, evI_succ, evI_int, evI_bool, evI_nilsl, evI_nilp, List.cons_append, List.nil_append, scal2_sc, abin, aun, ilift_some, Option.map_some, Option.map_none, decide_eq_true_eq, List.map_cons, List.map_nil, reduceIte, if_true, if_false, Bool.false_eq_true, inew, iload, istore, iwr, ird, icells, ione, one, List.getElem?_toArray, List.getElem?_cons_zero, List.getElem?_cons_succ, List.push_toArray, List.size_toArray, List.length_cons, List.length_nil, List.setIfInBounds_toArray, List.set_cons_zero, List.set_cons_succ, isplice_cons, List.drop_succ_cons, List.drop_zero, List.take_succ_cons, List.take_zero, List.drop_nil, List.take_nil, List.append_nil, List.all_cons, List.all_nil, Bool.and_true, Bool.true_and, Bool.and_self, Nat.zero_add, Nat.add_zero, Nat.reduceAdd, Nat.reduceLeDiff, Nat.reduceMul, Nat.le_refl, true_and, and_true, and_self, List.getElem?_nil, BI_zc, BI_zv, BI_co, zcT, zvT, coT, not_true_eq_false, not_false_eq_true, Bool.not_true, Bool.not_false, stepI', wantsI, ifill, ievs, Nat.reduceEqDiff, itup, Nat.le_add_left, Nat.le_add_right, iaggEq, List.foldl, iminI, iminF, imin2, min2, iisNil, isNil, ilen, Option.isNone_none, Option.isNone_some, Nat.zero_le, decide_true, decide_false, ireps, List.replicate, List.flatten_cons, List.flatten_nil, ichk, itouch, ctouch, ilooks, isame, untouched, Option.isSome_some, Bool.or_true, Bool.true_or, List.contains_nil, Int.reduceLT, Int.reduceLE, blkOf, IntKind.bits, iasNat, asNat, Int.toNat_natCast, Int.natCast_nonneg, List.length_map, Int.reduceToNat, iscells, ibnd, islice, capOf, Option.isSome_none, Bool.false_and, Bool.and_false, Bool.or_false, Bool.false_or, bne_self_eq_false, Nat.not_lt_zero, Nat.mul_one, Nat.one_mul, Nat.zero_mul, Nat.mul_zero, beq_self_eq_true, Nat.sub_zero, Nat.reduceSub, List.length_set, false_implies, implies_true, forall_const, ↓dnW_oca, Nat.reduceLT, evI_fn, Nat.zero_lt_one, dnW_o, dnW_om, dnW_oc, dnW_ite, dnW_join, thenD_some, thenD_ite, onIfD_bool, onJoinD_out, onJoinD_ret, onJoinD_ite, Int.reduceEq, WP_some, WP_ite, byOut_goto, byOut_ret, ↓iexec_len, ↓iexec_iaddr, ↓iexec_append, ↓iexec_store, storeF_ptr, lenF_nil, lenF_lst, lenF_sl, lenF_str, iaddrF_sl, iaddrF_lst, show ((i : Int) < (l.length : Int)) by omega, hx.at h, show ((i : Int) < (most : Int)) by omega, hw, UNK_pos, one_lt_UNK, ipureL, ipure, grp, mkE, List.headD]
      refine WP_bind (hg.app (m := 1) (ds := [IV.int .u8 l[i]]) (by omega) (by simp [iscells, icells]) rfl rfl rfl (fits1 (n := cs.length + 1) (by omega))) fun s' J' hs => ?_
      simp -implicitDefEqProofs only [dn_ret, dn_goto, iexec, evI_0, evI_succ, evI_int, evI_bool, evI_nilsl, evI_nilp, List.cons_append, List.nil_append, scal2_sc, abin, aun, ilift_some, Option.map_some, Option.map_none, decide_eq_true_eq, List.map_cons, List.map_nil, reduceIte, if_true, if_false, Bool.false_eq_true, inew, iload, istore, iwr, ird, icells, ione, one, List.getElem?_toArray, List.getElem?_cons_zero, List.getElem?_cons_succ, List.push_toArray, List.size_toArray, List.length_cons, List.length_nil, List.setIfInBounds_toArray, List.set_cons_zero, List.set_cons_succ, isplice_cons, List.drop_succ_cons, List.drop_zero, List.take_succ_cons, List.take_zero, List.drop_nil, List.take_nil, List.append_nil, List.all_cons, List.all_nil, Bool.and_true, Bool.true_and, Bool.and_self, Nat.zero_add, Nat.add_zero, Nat.reduceAdd, Nat.reduceLeDiff, Nat.reduceMul, Nat.le_refl, true_and, and_true, and_self, List.getElem?_nil, BI_zc, BI_zv, BI_co, zcT, zvT, coT, not_true_eq_false, not_false_eq_true, Bool.not_true, Bool.not_false, stepI', wantsI, ifill, ievs, Nat.reduceEqDiff, itup, Nat.le_add_left, Nat.le_add_right, iaggEq, List.foldl, iminI, iminF, imin2, min2, iisNil, isNil, ilen, Option.isNone_none, Option.isNone_some, Nat.zero_le, decide_true, decide_false, ireps, List.replicate, List.flatten_cons, List.flatten_nil, ichk, itouch, ctouch, ilooks, isame, untouched, Option.isSome_some, Bool.or_true, Bool.true_or, List.contains_nil, Int.reduceLT, Int.reduceLE, blkOf, IntKind.bits, iasNat, asNat, Int.toNat_natCast, Int.natCast_nonneg, List.length_map, Int.reduceToNat, iscells, ibnd, islice, capOf, Option.isSome_none, Bool.false_and, Bool.and_false, Bool.or_false, Bool.false_or, bne_self_eq_false, Nat.not_lt_zero, Nat.mul_one, Nat.one_mul, Nat.zero_mul, Nat.mul_zero, beq_self_eq_true, Nat.sub_zero, Nat.reduceSub, List.length_set, false_implies, implies_true, forall_const, ↓dnW_oca, Nat.reduceLT, evI_fn, Nat.zero_lt_one, dnW_o, dnW_om, dnW_oc, dnW_ite, dnW_join, thenD_some, thenD_ite, onIfD_bool, onJoinD_out, onJoinD_ret, onJoinD_ite, Int.reduceEq, WP_some, WP_ite, byOut_goto, byOut_ret, ↓iexec_len, ↓iexec_iaddr, ↓iexec_append, ↓iexec_store, storeF_ptr, lenF_nil, lenF_lst, lenF_sl, lenF_str, iaddrF_sl, iaddrF_lst, hw]
      exact h1 h hm s' J' hs.1
    · simp -implicitDefEqProofs only [dn_ret, dn_goto, iexec, evI_0, evI_succ, evI_int, evI_bool, evI_nilsl, evI_nilp, List.cons_append, List.nil_append, scal2_sc, abin, aun, ilift_some, Option.map_some, Option.map_none, decide_eq_true_eq, List.map_cons, List.map_nil, reduceIte, if_true, if_false, Bool.false_eq_true, inew, iload, istore, iwr, ird, icells, ione, one, List.getElem?_toArray, List.getElem?_cons_zero, List.getElem?_cons_succ, List.push_toArray, List.size_toArray, List.length_cons, List.length_nil, List.setIfInBounds_toArray, List.set_cons_zero, List.set_cons_succ, isplice_cons, List.drop_succ_cons, List.drop_zero, List.take_succ_cons, List.take_zero, List.drop_nil, List.take_nil, List.append_nil, List.all_cons, List.all_nil, Bool.and_true, Bool.true_and, Bool.and_self, Nat.zero_add, Nat.add_zero, Nat.reduceAdd, Nat.reduceLeDiff, Nat.reduceMul, Nat.le_refl, true_and, and_true, and_self, List.getElem?_nil, BI_zc, BI_zv, BI_co, zcT, zvT, coT, not_true_eq_false, not_false_eq_true, Bool.not_true, Bool.not_false, stepI', wantsI, ifill, ievs, Nat.reduceEqDiff, itup, Nat.le_add_left, Nat.le_add_right, iaggEq, List.foldl, iminI, iminF, imin2, min2, iisNil, isNil, ilen, Option.isNone_none, Option.isNone_some, Nat.zero_le, decide_true, decide_false, ireps, List.replicate, List.flatten_cons, List.flatten_nil, ichk, itouch, ctouch, ilooks, isame, untouched, Option.isSome_some, Bool.or_true, Bool.true_or, List.contains_nil, Int.reduceLT, Int.reduceLE, blkOf, IntKind.bits, iasNat, asNat, Int.toNat_natCast, Int.natCast_nonneg, List.length_map, Int.reduceToNat, iscells, ibnd, islice, capOf, Option.isSome_none, Bool.false_and, Bool.and_false, Bool.or_false, Bool.false_or, bne_self_eq_false, Nat.not_lt_zero, Nat.mul_one, Nat.one_mul, Nat.zero_mul, Nat.mul_zero, beq_self_eq_true, Nat.sub_zero, Nat.reduceSub, List.length_set, false_implies, implies_true, forall_const, ↓dnW_oca, Nat.reduceLT, evI_fn, Nat.zero_lt_one, dnW_o, dnW_om, dnW_oc, dnW_ite, dnW_join, thenD_some, thenD_ite, onIfD_bool, onJoinD_out, onJoinD_ret, onJoinD_ite, Int.reduceEq, WP_some, WP_ite, byOut_goto, byOut_ret, ↓iexec_len, ↓iexec_iaddr, ↓iexec_append, ↓iexec_store, storeF_ptr, lenF_nil, lenF_lst, lenF_sl, lenF_str, iaddrF_sl, iaddrF_lst, show ((i : Int) < (l.length : Int)) by omega, hx.at h, show ¬ ((i : Int) < (most : Int)) by omega, hw]
      exact h2 h hm
  · unfold l_ref01_Cut_k0
    simp -implicitDefEqProofs only [dn_ret, dn_goto, iexec, evI_0, evI_succ, evI_int, evI_bool, evI_nilsl, evI_nilp, List.cons_append, List.nil_append, scal2_sc, abin, aun, ilift_some, Option.map_some, Option.map_none, decide_eq_true_eq, List.map_cons, List.map_nil, reduceIte, if_true, if_false, Bool.false_eq_true, inew, iload, istore, iwr, ird, icells, ione, one, List.getElem?_toArray, List.getElem?_cons_zero, List.getElem?_cons_succ, List.push_toArray, List.size_toArray, List.length_cons, List.length_nil, List.setIfInBounds_toArray, List.set_cons_zero, List.set_cons_succ, isplice_cons, List.drop_succ_cons, List.drop_zero, List.take_succ_cons, List.take_zero, List.drop_nil, List.take_nil, List.append_nil, List.all_cons, List.all_nil, Bool.and_true, Bool.true_and, Bool.and_self, Nat.zero_add, Nat.add_zero, Nat.reduceAdd, Nat.reduceLeDiff, Nat.reduceMul, Nat.le_refl, true_and, and_true, and_self, List.getElem?_nil, BI_zc, BI_zv, BI_co, zcT, zvT, coT, not_true_eq_false, not_false_eq_true, Bool.not_true, Bool.not_false, stepI', wantsI, ifill, ievs, Nat.reduceEqDiff, itup, Nat.le_add_left, Nat.le_add_right, iaggEq, List.foldl, iminI, iminF, imin2, min2, iisNil, isNil, ilen, Option.isNone_none, Option.isNone_some, Nat.zero_le, decide_true, decide_false, ireps, List.replicate, List.flatten_cons, List.flatten_nil, ichk, itouch, ctouch, ilooks, isame, untouched, Option.isSome_some, Bool.or_true, Bool.true_or, List.contains_nil, Int.reduceLT, Int.reduceLE, blkOf, IntKind.bits, iasNat, asNat, Int.toNat_natCast, Int.natCast_nonneg, List.length_map, Int.reduceToNat, iscells, ibnd, islice, capOf, Option.isSome_none, Bool.false_and, Bool.and_false, Bool.or_false, Bool.false_or, bne_self_eq_false, Nat.not_lt_zero, Nat.mul_one, Nat.one_mul, Nat.zero_mul, Nat.mul_zero, beq_self_eq_true, Nat.sub_zero, Nat.reduceSub, List.length_set, false_implies, implies_true, forall_const, ↓dnW_oca, Nat.reduceLT, evI_fn, Nat.zero_lt_one, dnW_o, dnW_om, dnW_oc, dnW_ite, dnW_join, thenD_some, thenD_ite, onIfD_bool, onJoinD_out, onJoinD_ret, onJoinD_ite, Int.reduceEq, WP_some, WP_ite, byOut_goto, byOut_ret, ↓iexec_len, ↓iexec_iaddr, ↓iexec_append, ↓iexec_store, storeF_ptr, lenF_nil, lenF_lst, lenF_sl, lenF_str, iaddrF_sl, iaddrF_lst, show ¬ ((i : Int) < (l.length : Int)) by omega]
    exact h0 (by omega)
theorem ints_grow {κ : IntKind} {l : List Int} {k : Nat} (h : k < l.length) : (l.take k).map (IV.int κ) ++ [IV.int κ l[k]] = (l.take (k + 1)).map (IV.int κ) := by
  rw [List.take_succ_eq_append_getElem h, List.map_append]; rfl
theorem bCut_ok {x : IV} {l : List Int} (hx : Bs x l) (most : Nat) (hb : l.length ≤ 9223372036854775807) (hm : most < 1000000) : ∃ y, pc BI F_ref01_Cut [x, .int .i64 (most : Int)] = some y ∧ Bs y (l.take most) := by
  refine pcW fn_ref01_Cut rfl fun K hK => ?_
  unfold l_ref01_Cut
  simp -implicitDefEqProofs only [dn_ret, dn_goto, iexec, evI_0, evI_succ, evI_int, evI_bool, evI_nilsl, evI_nilp, List.cons_append, List.nil_append, scal2_sc, abin, aun, ilift_some, Option.map_some, Option.map_none, decide_eq_true_eq, List.map_cons, List.map_nil, reduceIte, if_true, if_false, Bool.false_eq_true, inew, iload, istore, iwr, ird, icells, ione, one, List.getElem?_toArray, List.getElem?_cons_zero, List.getElem?_cons_succ, List.push_toArray, List.size_toArray, List.length_cons, List.length_nil, List.setIfInBounds_toArray, List.set_cons_zero, List.set_cons_succ, isplice_cons, List.drop_succ_cons, List.drop_zero, List.take_succ_cons, List.take_zero, List.drop_nil, List.take_nil, List.append_nil, List.all_cons, List.all_nil, Bool.and_true, Bool.true_and, Bool.and_self, Nat.zero_add, Nat.add_zero, Nat.reduceAdd, Nat.reduceLeDiff, Nat.reduceMul, Nat.le_refl, true_and, and_true, and_self, List.getElem?_nil, BI_zc, BI_zv, BI_co, zcT, zvT, coT, not_true_eq_false, not_false_eq_true, Bool.not_true, Bool.not_false, stepI', wantsI, ifill, ievs, Nat.reduceEqDiff, itup, Nat.le_add_left, Nat.le_add_right, iaggEq, List.foldl, iminI, iminF, imin2, min2, iisNil, isNil, ilen, Option.isNone_none, Option.isNone_some, Nat.zero_le, decide_true, decide_false, ireps, List.replicate, List.flatten_cons, List.flatten_nil, ichk, itouch, ctouch, ilooks, isame, untouched, Option.isSome_some, Bool.or_true, Bool.true_or, List.contains_nil, Int.reduceLT, Int.reduceLE, blkOf, IntKind.bits, iasNat, asNat, Int.toNat_natCast, Int.natCast_nonneg, List.length_map, Int.reduceToNat, iscells, ibnd, islice, capOf, Option.isSome_none, Bool.false_and, Bool.and_false, Bool.or_false, Bool.false_or, bne_self_eq_false, Nat.not_lt_zero, Nat.mul_one, Nat.one_mul, Nat.zero_mul, Nat.mul_zero, beq_self_eq_true, Nat.sub_zero, Nat.reduceSub, List.length_set, false_implies, implies_true, forall_const, ↓dnW_oca, Nat.reduceLT, evI_fn, Nat.zero_lt_one, dnW_o, dnW_om, dnW_oc, dnW_ite, dnW_join, thenD_some, thenD_ite, onIfD_bool, onJoinD_out, onJoinD_ret, onJoinD_ite, Int.reduceEq, WP_some, WP_ite, byOut_goto, byOut_ret, ↓iexec_len, ↓iexec_iaddr, ↓iexec_append, ↓iexec_store, storeF_ptr, lenF_nil, lenF_lst, lenF_sl, lenF_str, iaddrF_sl, iaddrF_lst, hx.lenF, dn_loop]
  refine WP_loop (by decide) (fun m vs J => ∃ i : Nat, i + m = l.length ∧ ∃ out, Grow J out 1 ((l.take (min i most)).map (IV.int .u8)) ∧ vs = [.int .i64 (most : Int), out, x, .int .i64 ((l.length : Nat) : Int), .int .i64 (i : Int)]) ?_ l.length _ _ ⟨0, by omega, _, by simp; exact .nil, rfl⟩
  rintro m vs J ⟨i, hi, out, hg, rfl⟩ K1 g1 g2 g3
  refine cut_step x out l hx most i (by omega) hb J _ hg (by simp; omega) _ (fun he => ?_) (fun h hlt out' J' hg' => ?_) (fun h hlt => ?_)
  · refine g2 _ _ ?_
    unfold l_ref01_Cut_k1
    simp -implicitDefEqProofs only [dn_ret, dn_goto, iexec, evI_0, evI_succ, evI_int, evI_bool, evI_nilsl, evI_nilp, List.cons_append, List.nil_append, scal2_sc, abin, aun, ilift_some, Option.map_some, Option.map_none, decide_eq_true_eq, List.map_cons, List.map_nil, reduceIte, if_true, if_false, Bool.false_eq_true, inew, iload, istore, iwr, ird, icells, ione, one, List.getElem?_toArray, List.getElem?_cons_zero, List.getElem?_cons_succ, List.push_toArray, List.size_toArray, List.length_cons, List.length_nil, List.setIfInBounds_toArray, List.set_cons_zero, List.set_cons_succ, isplice_cons, List.drop_succ_cons, List.drop_zero, List.take_succ_cons, List.take_zero, List.drop_nil, List.take_nil, List.append_nil, List.all_cons, List.all_nil, Bool.and_true, Bool.true_and, Bool.and_self, Nat.zero_add, Nat.add_zero, Nat.reduceAdd, Nat.reduceLeDiff, Nat.reduceMul, Nat.le_refl, true_and, and_true, and_self, List.getElem?_nil, BI_zc, BI_zv, BI_co, zcT, zvT, coT, not_true_eq_false, not_false_eq_true, Bool.not_true, Bool.not_false, stepI', wantsI, ifill, ievs, Nat.reduceEqDiff, itup, Nat.le_add_left, Nat.le_add_right, iaggEq, List.foldl, iminI, iminF, imin2, min2, iisNil, isNil, ilen, Option.isNone_none, Option.isNone_some, Nat.zero_le, decide_true, decide_false, ireps, List.replicate, List.flatten_cons, List.flatten_nil, ichk, itouch, ctouch, ilooks, isame, untouched, Option.isSome_some, Bool.or_true, Bool.true_or, List.contains_nil, Int.reduceLT, Int.reduceLE, blkOf, IntKind.bits, iasNat, asNat, Int.toNat_natCast, Int.natCast_nonneg, List.length_map, Int.reduceToNat, iscells, ibnd, islice, capOf, Option.isSome_none, Bool.false_and, Bool.and_false, Bool.or_false, Bool.false_or, bne_self_eq_false, Nat.not_lt_zero, Nat.mul_one, Nat.one_mul, Nat.zero_mul, Nat.mul_zero, beq_self_eq_true, Nat.sub_zero, Nat.reduceSub, List.length_set, false_implies, implies_true, forall_const, ↓dnW_oca, Nat.reduceLT, evI_fn, Nat.zero_lt_one, dnW_o, dnW_om, dnW_oc, dnW_ite, dnW_join, thenD_some, thenD_ite, onIfD_bool, onJoinD_out, onJoinD_ret, onJoinD_ite, Int.reduceEq, WP_some, WP_ite, byOut_goto, byOut_ret, ↓iexec_len, ↓iexec_iaddr, ↓iexec_append, ↓iexec_store, storeF_ptr, lenF_nil, lenF_lst, lenF_sl, lenF_str, iaddrF_sl, iaddrF_lst]
    subst he
    obtain ⟨u, hu, hl⟩ := hg.frz1 ints_pure ints_ione
    refine hK _ _ u hu ?_
    have : l.take (min l.length most) = l.take most := by
      rcases Nat.le_total l.length most with h | h
      · rw [Nat.min_eq_left h, List.take_of_length_le (Nat.le_refl _), List.take_of_length_le h]
      · rw [Nat.min_eq_right h]
    rw [this] at hl
    exact hl
  · refine g1 _ (m - 1) _ (by omega) ⟨i + 1, by omega, out', ?_, rfl⟩
    rw [Nat.min_eq_left (by omega), ints_grow h] at hg'
    rw [Nat.min_eq_left (by omega)]
    exact hg'
  · refine g1 _ (m - 1) _ (by omega) ⟨i + 1, by omega, out, ?_, rfl⟩
    rw [Nat.min_eq_right (by omega)] at hg ⊢
    exact hg
/-! lists of lists of bytes -/
theorem bSameL_step (x y : IV) (as bs : List (List Int)) (hx : LsR 1 Bs x as) (hy : LsR 1 Bs y bs) (hn : as.length = bs.length) (hb : as.length ≤ 1000000) (hs : ∀ a ∈ as, a.length ≤ 1000000) (i : Nat) (hi : i ≤ as.length) (J : JH) (P : Out IV → JH → Prop)
    (h0 : i = as.length → P (.goto 0 []) J)
    (h1 : ∀ (h : i < as.length) (h' : i < bs.length), as[i] = bs[i] → P (.goto 1 [x, y, .int .i64 ((as.length : Nat) : Int), .int .i64 ((i + 1 : Nat) : Int)]) J)
    (h2 : ∀ (h : i < as.length) (h' : i < bs.length), ¬ as[i] = bs[i] → P (.ret [.bool false]) J) :
    WP (dn BI l_ref13_Same_k0 [x, y, .int .i64 ((as.length : Nat) : Int), .int .i64 (i : Int)] J) P := by
  by_cases h : i < as.length
  · have hj : i < bs.length := by omega
    have hw : IntKind.i64.wrap ((i : Int) + 1) = ((i + 1 : Nat) : Int) := by rw [wrap_i64 (by omega) (by omega)]; omega
    obtain ⟨e, he, hxa⟩ := hx.at h
    obtain ⟨f, hf, hya⟩ := hy.at hj
    have hsm := bSame_ok he hf (hs _ (List.getElem_mem h))
    unfold l_ref13_Same_k0
    simp -implicitDefEqProofs only [dn_ret, dn_goto, iexec, evI_0, evI_succ, evI_int, evI_bool, evI_nilsl, evI_nilp, List.cons_append, List.nil_append, scal2_sc, abin, aun, ilift_some, Option.map_some, Option.map_none, decide_eq_true_eq, List.map_cons, List.map_nil, reduceIte, if_true, if_false, Bool.false_eq_true, inew, iload, istore, iwr, ird, icells, ione, one, List.getElem?_toArray, List.getElem?_cons_zero, List.getElem?_cons_succ, List.push_toArray, List.size_toArray, List.length_cons, List.length_nil, List.setIfInBounds_toArray, List.set_cons_zero, List.set_cons_succ, isplice_cons, List.drop_succ_cons, List.drop_zero, List.take_succ_cons, List.take_zero, List.drop_nil, List.take_nil, List.append_nil, List.all_cons, List.all_nil, Bool.and_true, Bool.true_and, Bool.and_self, Nat.zero_add, Nat.add_zero, Nat.reduceAdd, Nat.reduceLeDiff, Nat.reduceMul, Nat.le_refl, true_and, and_true, and_self, List.getElem?_nil, BI_zc, BI_zv, BI_co, zcT, zvT, coT, not_true_eq_false, not_false_eq_true, Bool.not_true, Bool.not_false, stepI', wantsI, ifill, ievs, Nat.reduceEqDiff, itup, Nat.le_add_left, Nat.le_add_right, iaggEq, List.foldl, iminI, iminF, imin2, min2, iisNil, isNil, ilen, Option.isNone_none, Option.isNone_some, Nat.zero_le, decide_true, decide_false, ireps, List.replicate, List.flatten_cons, List.flatten_nil, ichk, itouch, ctouch, ilooks, isame, untouched, Option.isSome_some, Bool.or_true, Bool.true_or, List.contains_nil, Int.reduceLT, Int.reduceLE, blkOf, IntKind.bits, iasNat, asNat, Int.toNat_natCast, Int.natCast_nonneg, List.length_map, Int.reduceToNat, iscells, ibnd, islice, capOf, Option.isSome_none, Bool.false_and, Bool.and_false, Bool.or_false, Bool.false_or, bne_self_eq_false, Nat.not_lt_zero, Nat.mul_one, Nat.one_mul, Nat.zero_mul, Nat.mul_zero, beq_self_eq_true, Nat.sub_zero, Nat.reduceSub, List.length_set, false_implies, implies_true, forall_const, ↓dnW_oca, Nat.reduceLT, evI_fn, Nat.zero_lt_one, dnW_o, dnW_om, dnW_oc, dnW_ite, dnW_join, thenD_some, thenD_ite, onIfD_bool, onJoinD_out, onJoinD_ret, onJoinD_ite, Int.reduceEq, WP_some, WP_ite, byOut_goto, byOut_ret, ↓iexec_len, ↓iexec_iaddr, ↓iexec_append, ↓iexec_store, storeF_ptr, lenF_nil, lenF_lst, lenF_sl, lenF_str, iaddrF_sl, iaddrF_lst, show ((i : Int) < (as.length : Int)) by omega, hxa, hya, ↓he.icells, ↓hf.icells, dcp hsm (by simp [ipureL, he.pure, hf.pure]), hw]
    by_cases heq : as[i] = bs[i]
    · simp -implicitDefEqProofs only [dn_ret, dn_goto, iexec, evI_0, evI_succ, evI_int, evI_bool, evI_nilsl, evI_nilp, List.cons_append, List.nil_append, scal2_sc, abin, aun, ilift_some, Option.map_some, Option.map_none, decide_eq_true_eq, List.map_cons, List.map_nil, reduceIte, if_true, if_false, Bool.false_eq_true, inew, iload, istore, iwr, ird, icells, ione, one, List.getElem?_toArray, List.getElem?_cons_zero, List.getElem?_cons_succ, List.push_toArray, List.size_toArray, List.length_cons, List.length_nil, List.setIfInBounds_toArray, List.set_cons_zero, List.set_cons_succ, isplice_cons, List.drop_succ_cons, List.drop_zero, List.take_succ_cons, List.take_zero, List.drop_nil, List.take_nil, List.append_nil, List.all_cons, List.all_nil, Bool.and_true, Bool.true_and, Bool.and_self, Nat.zero_add, Nat.add_zero, Nat.reduceAdd, Nat.reduceLeDiff, Nat.reduceMul, Nat.le_refl, true_and, and_true, and_self, List.getElem?_nil, BI_zc, BI_zv, BI_co, zcT, zvT, coT, not_true_eq_false, not_false_eq_true, Bool.not_true, Bool.not_false, stepI', wantsI, ifill, ievs, Nat.reduceEqDiff, itup, Nat.le_add_left, Nat.le_add_right, iaggEq, List.foldl, iminI, iminF, imin2, min2, iisNil, isNil, ilen, Option.isNone_none, Option.isNone_some, Nat.zero_le, decide_true, decide_false, ireps, List.replicate, List.flatten_cons, List.flatten_nil, ichk, itouch, ctouch, ilooks, isame, untouched, Option.isSome_some, Bool.or_true, Bool.true_or, List.contains_nil, Int.reduceLT, Int.reduceLE, blkOf, IntKind.bits, iasNat, asNat, Int.toNat_natCast, Int.natCast_nonneg, List.length_map, Int.reduceToNat, iscells, ibnd, islice, capOf, Option.isSome_none, Bool.false_and, Bool.and_false, Bool.or_false, Bool.false_or, bne_self_eq_false, Nat.not_lt_zero, Nat.mul_one, Nat.one_mul, Nat.zero_mul, Nat.mul_zero, beq_self_eq_true, Nat.sub_zero, Nat.reduceSub, List.length_set, false_implies, implies_true, forall_const, ↓dnW_oca, Nat.reduceLT, evI_fn, Nat.zero_lt_one, dnW_o, dnW_om, dnW_oc, dnW_ite, dnW_join, thenD_some, thenD_ite, onIfD_bool, onJoinD_out, onJoinD_ret, onJoinD_ite, Int.reduceEq, WP_some, WP_ite, byOut_goto, byOut_ret, ↓iexec_len, ↓iexec_iaddr, ↓iexec_append, ↓iexec_store, storeF_ptr, lenF_nil, lenF_lst, lenF_sl, lenF_str, iaddrF_sl, iaddrF_lst, heq]; exact h1 h hj heq
    · simp -implicitDefEqProofs only [dn_ret, dn_goto, iexec, evI_0, evI_succ, evI_int, evI_bool, evI_nilsl, evI_nilp, List.cons_append, List.nil_append, scal2_sc, abin, aun, ilift_some, Option.map_some, Option.map_none, decide_eq_true_eq, List.map_cons, List.map_nil, reduceIte, if_true, if_false, Bool.false_eq_true, inew, iload, istore, iwr, ird, icells, ione, one, List.getElem?_toArray, List.getElem?_cons_zero, List.getElem?_cons_succ, List.push_toArray, List.size_toArray, List.length_cons, List.length_nil, List.setIfInBounds_toArray, List.set_cons_zero, List.set_cons_succ, isplice_cons, List.drop_succ_cons, List.drop_zero, List.take_succ_cons, List.take_zero, List.drop_nil, List.take_nil, List.append_nil, List.all_cons, List.all_nil, Bool.and_true, Bool.true_and, Bool.and_self, Nat.zero_add, Nat.add_zero, Nat.reduceAdd, Nat.reduceLeDiff, Nat.reduceMul, Nat.le_refl, true_and, and_true, and_self, List.getElem?_nil, BI_zc, BI_zv, BI_co, zcT, zvT, coT, not_true_eq_false, not_false_eq_true, Bool.not_true, Bool.not_false, stepI', wantsI, ifill, ievs, Nat.reduceEqDiff, itup, Nat.le_add_left, Nat.le_add_right, iaggEq, List.foldl, iminI, iminF, imin2, min2, iisNil, isNil, ilen, Option.isNone_none, Option.isNone_some, Nat.zero_le, decide_true, decide_false, ireps, List.replicate, List.flatten_cons, List.flatten_nil, ichk, itouch, ctouch, ilooks, isame, untouched, Option.isSome_some, Bool.or_true, Bool.true_or, List.contains_nil, Int.reduceLT, Int.reduceLE, blkOf, IntKind.bits, iasNat, asNat, Int.toNat_natCast, Int.natCast_nonneg, List.length_map, Int.reduceToNat, iscells, ibnd, islice, capOf, Option.isSome_none, Bool.false_and, Bool.and_false, Bool.or_false, Bool.false_or, bne_self_eq_false, Nat.not_lt_zero, Nat.mul_one, Nat.one_mul, Nat.zero_mul, Nat.mul_zero, beq_self_eq_true, Nat.sub_zero, Nat.reduceSub, List.length_set, false_implies, implies_true, forall_const, ↓dnW_oca, Nat.reduceLT, evI_fn, Nat.zero_lt_one, dnW_o, dnW_om, dnW_oc, dnW_ite, dnW_join, thenD_some, thenD_ite, onIfD_bool, onJoinD_out, onJoinD_ret, onJoinD_ite, Int.reduceEq, WP_some, WP_ite, byOut_goto, byOut_ret, ↓iexec_len, ↓iexec_iaddr, ↓iexec_append, ↓iexec_store, storeF_ptr, lenF_nil, lenF_lst, lenF_sl, lenF_str, iaddrF_sl, iaddrF_lst, heq]; exact h2 h hj heq
  · unfold l_ref13_Same_k0
    simp -implicitDefEqProofs only [dn_ret, dn_goto, iexec, evI_0, evI_succ, evI_int, evI_bool, evI_nilsl, evI_nilp, List.cons_append, List.nil_append, scal2_sc, abin, aun, ilift_some, Option.map_some, Option.map_none, decide_eq_true_eq, List.map_cons, List.map_nil, reduceIte, if_true, if_false, Bool.false_eq_true, inew, iload, istore, iwr, ird, icells, ione, one, List.getElem?_toArray, List.getElem?_cons_zero, List.getElem?_cons_succ, List.push_toArray, List.size_toArray, List.length_cons, List.length_nil, List.setIfInBounds_toArray, List.set_cons_zero, List.set_cons_succ, isplice_cons, List.drop_succ_cons, List.drop_zero, List.take_succ_cons, List.take_zero, List.drop_nil, List.take_nil, List.append_nil, List.all_cons, List.all_nil, Bool.and_true, Bool.true_and, Bool.and_self, Nat.zero_add, Nat.add_zero, Nat.reduceAdd, Nat.reduceLeDiff, Nat.reduceMul, Nat.le_refl, true_and, and_true, and_self, List.getElem?_nil, BI_zc, BI_zv, BI_co, zcT, zvT, coT, not_true_eq_false, not_false_eq_true, Bool.not_true, Bool.not_false, stepI', wantsI, ifill, ievs, Nat.reduceEqDiff, itup, Nat.le_add_left, Nat.le_add_right, iaggEq, List.foldl, iminI, iminF, imin2, min2, iisNil, isNil, ilen, Option.isNone_none, Option.isNone_some, Nat.zero_le, decide_true, decide_false, ireps, List.replicate, List.flatten_cons, List.flatten_nil, ichk, itouch, ctouch, ilooks, isame, untouched, Option.isSome_some, Bool.or_true, Bool.true_or, List.contains_nil, Int.reduceLT, Int.reduceLE, blkOf, IntKind.bits, iasNat, asNat, Int.toNat_natCast, Int.natCast_nonneg, List.length_map, Int.reduceToNat, iscells, ibnd, islice, capOf, Option.isSome_none, Bool.false_and, Bool.and_false, Bool.or_false, Bool.false_or, bne_self_eq_false, Nat.not_lt_zero, Nat.mul_one, Nat.one_mul, Nat.zero_mul, Nat.mul_zero, beq_self_eq_true, Nat.sub_zero, Nat.reduceSub, List.length_set, false_implies, implies_true, forall_const, ↓dnW_oca, Nat.reduceLT, evI_fn, Nat.zero_lt_one, dnW_o, dnW_om, dnW_oc, dnW_ite, dnW_join, thenD_some, thenD_ite, onIfD_bool, onJoinD_out, onJoinD_ret, onJoinD_ite, Int.reduceEq, WP_some, WP_ite, byOut_goto, byOut_ret, ↓iexec_len, ↓iexec_iaddr, ↓iexec_append, ↓iexec_store, storeF_ptr, lenF_nil, lenF_lst, lenF_sl, lenF_str, iaddrF_sl, iaddrF_lst, show ¬ ((i : Int) < (as.length : Int)) by omega]
    exact h0 (by omega)
theorem bSameL_ok {x y : IV} {as bs : List (List Int)} (hx : LsR 1 Bs x as) (hy : LsR 1 Bs y bs) (hb : as.length ≤ 1000000) (hs : ∀ a ∈ as, a.length ≤ 1000000) : pc BI F_ref13_Same [x, y] = some (.bool (decide (as = bs))) := by
  refine pcE fn_ref13_Same rfl fun K hK => ?_
  · by_cases hn : as.length = bs.length
    · unfold l_ref13_Same
      simp -implicitDefEqProofs only [dn_ret, dn_goto, iexec, evI_0, evI_succ, evI_int, evI_bool, evI_nilsl, evI_nilp, List.cons_append, List.nil_append, scal2_sc, abin, aun, ilift_some, Option.map_some, Option.map_none, decide_eq_true_eq, List.map_cons, List.map_nil, reduceIte, if_true, if_false, Bool.false_eq_true, inew, iload, istore, iwr, ird, icells, ione, one, List.getElem?_toArray, List.getElem?_cons_zero, List.getElem?_cons_succ, List.push_toArray, List.size_toArray, List.length_cons, List.length_nil, List.setIfInBounds_toArray, List.set_cons_zero, List.set_cons_succ, isplice_cons, List.drop_succ_cons, List.drop_zero, List.take_succ_cons, List.take_zero, List.drop_nil, List.take_nil, List.append_nil, List.all_cons, List.all_nil, Bool.and_true, Bool.true_and, Bool.and_self, Nat.zero_add, Nat.add_zero, Nat.reduceAdd, Nat.reduceLeDiff, Nat.reduceMul, Nat.le_refl, true_and, and_true, and_self, List.getElem?_nil, BI_zc, BI_zv, BI_co, zcT, zvT, coT, not_true_eq_false, not_false_eq_true, Bool.not_true, Bool.not_false, stepI', wantsI, ifill, ievs, Nat.reduceEqDiff, itup, Nat.le_add_left, Nat.le_add_right, iaggEq, List.foldl, iminI, iminF, imin2, min2, iisNil, isNil, ilen, Option.isNone_none, Option.isNone_some, Nat.zero_le, decide_true, decide_false, ireps, List.replicate, List.flatten_cons, List.flatten_nil, ichk, itouch, ctouch, ilooks, isame, untouched, Option.isSome_some, Bool.or_true, Bool.true_or, List.contains_nil, Int.reduceLT, Int.reduceLE, blkOf, IntKind.bits, iasNat, asNat, Int.toNat_natCast, Int.natCast_nonneg, List.length_map, Int.reduceToNat, iscells, ibnd, islice, capOf, Option.isSome_none, Bool.false_and, Bool.and_false, Bool.or_false, Bool.false_or, bne_self_eq_false, Nat.not_lt_zero, Nat.mul_one, Nat.one_mul, Nat.zero_mul, Nat.mul_zero, beq_self_eq_true, Nat.sub_zero, Nat.reduceSub, List.length_set, false_implies, implies_true, forall_const, ↓dnW_oca, Nat.reduceLT, evI_fn, Nat.zero_lt_one, dnW_o, dnW_om, dnW_oc, dnW_ite, dnW_join, thenD_some, thenD_ite, onIfD_bool, onJoinD_out, onJoinD_ret, onJoinD_ite, Int.reduceEq, WP_some, WP_ite, byOut_goto, byOut_ret, ↓iexec_len, ↓iexec_iaddr, ↓iexec_append, ↓iexec_store, storeF_ptr, lenF_nil, lenF_lst, lenF_sl, lenF_str, iaddrF_sl, iaddrF_lst, hx.lenF, hy.lenF, bne_iff_ne, ne_eq, hn, dn_loop]
      rw [← hn]
      refine WP_loop (by decide) (fun m vs J => ∃ i : Nat, i + m = as.length ∧ as.take i = bs.take i ∧ vs = [x, y, .int .i64 ((as.length : Nat) : Int), .int .i64 (i : Int)]) ?_ as.length _ _ ⟨0, by omega, rfl, rfl⟩
      rintro m vs J ⟨i, hm, ht, rfl⟩ K1 g1 g2 g3
      refine bSameL_step x y as bs hx hy hn hb hs i (by omega) J _ (fun he => ?_) (fun h h' he => ?_) (fun h h' he => ?_)
      · refine g2 _ _ ?_
        unfold l_ref13_Same_k1
        simp -implicitDefEqProofs only [dn_ret, dn_goto, iexec, evI_0, evI_succ, evI_int, evI_bool, evI_nilsl, evI_nilp, List.cons_append, List.nil_append, scal2_sc, abin, aun, ilift_some, Option.map_some, Option.map_none, decide_eq_true_eq, List.map_cons, List.map_nil, reduceIte, if_true, if_false, Bool.false_eq_true, inew, iload, istore, iwr, ird, icells, ione, one, List.getElem?_toArray, List.getElem?_cons_zero, List.getElem?_cons_succ, List.push_toArray, List.size_toArray, List.length_cons, List.length_nil, List.setIfInBounds_toArray, List.set_cons_zero, List.set_cons_succ, isplice_cons, List.drop_succ_cons, List.drop_zero, List.take_succ_cons, List.take_zero, List.drop_nil, List.take_nil, List.append_nil, List.all_cons, List.all_nil, Bool.and_true, Bool.true_and, Bool.and_self, Nat.zero_add, Nat.add_zero, Nat.reduceAdd, Nat.reduceLeDiff, Nat.reduceMul, Nat.le_refl, true_and, and_true, and_self, List.getElem?_nil, BI_zc, BI_zv, BI_co, zcT, zvT, coT, not_true_eq_false, not_false_eq_true, Bool.not_true, Bool.not_false, stepI', wantsI, ifill, ievs, Nat.reduceEqDiff, itup, Nat.le_add_left, Nat.le_add_right, iaggEq, List.foldl, iminI, iminF, imin2, min2, iisNil, isNil, ilen, Option.isNone_none, Option.isNone_some, Nat.zero_le, decide_true, decide_false, ireps, List.replicate, List.flatten_cons, List.flatten_nil, ichk, itouch, ctouch, ilooks, isame, untouched, Option.isSome_some, Bool.or_true, Bool.true_or, List.contains_nil, Int.reduceLT, Int.reduceLE, blkOf, IntKind.bits, iasNat, asNat, Int.toNat_natCast, Int.natCast_nonneg, List.length_map, Int.reduceToNat, iscells, ibnd, islice, capOf, Option.isSome_none, Bool.false_and, Bool.and_false, Bool.or_false, Bool.false_or, bne_self_eq_false, Nat.not_lt_zero, Nat.mul_one, Nat.one_mul, Nat.zero_mul, Nat.mul_zero, beq_self_eq_true, Nat.sub_zero, Nat.reduceSub, List.length_set, false_implies, implies_true, forall_const, ↓dnW_oca, Nat.reduceLT, evI_fn, Nat.zero_lt_one, dnW_o, dnW_om, dnW_oc, dnW_ite, dnW_join, thenD_some, thenD_ite, onIfD_bool, onJoinD_out, onJoinD_ret, onJoinD_ite, Int.reduceEq, WP_some, WP_ite, byOut_goto, byOut_ret, ↓iexec_len, ↓iexec_iaddr, ↓iexec_append, ↓iexec_store, storeF_ptr, lenF_nil, lenF_lst, lenF_sl, lenF_str, iaddrF_sl, iaddrF_lst]
        refine hK _ _ (frzE rfl ?_)
        rw [List.take_of_length_le (by omega), List.take_of_length_le (by omega)] at ht
        simp [ht, itup]
      · refine g1 _ (m - 1) _ (by omega) ⟨i + 1, by omega, by rw [List.take_succ_eq_append_getElem h, List.take_succ_eq_append_getElem h', ht, he], rfl⟩
      · refine g3 _ _ (hK _ _ (frzE rfl ?_))
        have : as ≠ bs := fun h => he (by simp [h])
        simp [this, itup]
    · have hne : as ≠ bs := fun h => hn (by rw [h])
      unfold l_ref13_Same
      simp -implicitDefEqProofs only [dn_ret, dn_goto, iexec, evI_0, evI_succ, evI_int, evI_bool, evI_nilsl, evI_nilp, List.cons_append, List.nil_append, scal2_sc, abin, aun, ilift_some, Option.map_some, Option.map_none, decide_eq_true_eq, List.map_cons, List.map_nil, reduceIte, if_true, if_false, Bool.false_eq_true, inew, iload, istore, iwr, ird, icells, ione, one, List.getElem?_toArray, List.getElem?_cons_zero, List.getElem?_cons_succ, List.push_toArray, List.size_toArray, List.length_cons, List.length_nil, List.setIfInBounds_toArray, List.set_cons_zero, List.set_cons_succ, isplice_cons, List.drop_succ_cons, List.drop_zero, List.take_succ_cons, List.take_zero, List.drop_nil, List.take_nil, List.append_nil, List.all_cons, List.all_nil, Bool.and_true, Bool.true_and, Bool.and_self, Nat.zero_add, Nat.add_zero, Nat.reduceAdd, Nat.reduceLeDiff, Nat.reduceMul, Nat.le_refl, true_and, and_true, and_self, List.getElem?_nil, BI_zc, BI_zv, BI_co, zcT, zvT, coT, not_true_eq_false, not_false_eq_true, Bool.not_true, Bool.not_false, stepI', wantsI, ifill, ievs, Nat.reduceEqDiff, itup, Nat.le_add_left, Nat.le_add_right, iaggEq, List.foldl, iminI, iminF, imin2, min2, iisNil, isNil, ilen, Option.isNone_none, Option.isNone_some, Nat.zero_le, decide_true, decide_false, ireps, List.replicate, List.flatten_cons, List.flatten_nil, ichk, itouch, ctouch, ilooks, isame, untouched, Option.isSome_some, Bool.or_true, Bool.true_or, List.contains_nil, Int.reduceLT, Int.reduceLE, blkOf, IntKind.bits, iasNat, asNat, Int.toNat_natCast, Int.natCast_nonneg, List.length_map, Int.reduceToNat, iscells, ibnd, islice, capOf, Option.isSome_none, Bool.false_and, Bool.and_false, Bool.or_false, Bool.false_or, bne_self_eq_false, Nat.not_lt_zero, Nat.mul_one, Nat.one_mul, Nat.zero_mul, Nat.mul_zero, beq_self_eq_true, Nat.sub_zero, Nat.reduceSub, List.length_set, false_implies, implies_true, forall_const, ↓dnW_oca, Nat.reduceLT, evI_fn, Nat.zero_lt_one, dnW_o, dnW_om, dnW_oc, dnW_ite, dnW_join, thenD_some, thenD_ite, onIfD_bool, onJoinD_out, onJoinD_ret, onJoinD_ite, Int.reduceEq, WP_some, WP_ite, byOut_goto, byOut_ret, ↓iexec_len, ↓iexec_iaddr, ↓iexec_append, ↓iexec_store, storeF_ptr, lenF_nil, lenF_lst, lenF_sl, lenF_str, iaddrF_sl, iaddrF_lst, hx.lenF, hy.lenF, bne_iff_ne, ne_eq, Int.natCast_inj, hn, hne]
      exact hK _ _ (frzE rfl (by simp [itup, hne]))
end Go.Proofs.Ytohclaopcejjnaa.G
namespace Go.Proofs.Ytohclaopcejjnaa.G
open Go
set_option linter.unusedSimpArgs false
set_option linter.unusedVariables false
def x8 (a b : Int) : Int := IntKind.u8.wrap (BitVec.ofInt 8 a ^^^ BitVec.ofInt 8 b).toNat
/-- a number's bit -/
def bitv (m : Int) (k : Nat) : Int := (m / 2 ^ k) % 2
/-- One bit turned, if it is there. -/
def turn1 (q : Nat) (m : Int) (l : List Int) (k : Nat) : List Int := if q + k < 8 * l.length then l.set ((q + k) / 8) (x8 (l.getD ((q + k) / 8) 0) (bitv m k * 2 ^ ((q + k) % 8))) else l
def turnN (q : Nat) (m : Int) (l : List Int) : Nat → List Int
  | 0 => l
  | k + 1 => turn1 q m (turnN q m l k) k
theorem turn1_len (q : Nat) (m : Int) (l : List Int) (k : Nat) : (turn1 q m l k).length = l.length := by unfold turn1; split <;> simp
theorem turnN_len (q : Nat) (m : Int) (l : List Int) : ∀ k, (turnN q m l k).length = l.length
  | 0 => rfl
  | k + 1 => by rw [turnN, turn1_len, turnN_len q m l k]
def spoilF (l : List Int) (at' : Nat) (m : Int) : List Int := turnN (at' % (8 * l.length)) m l 32
theorem bitv_01 (m : Int) (k : Nat) : bitv m k = 0 ∨ bitv m k = 1 := by unfold bitv; omega
theorem and1 (m : Int) (h0 : 0 ≤ m) (h1 : m < 4294967296) : IntKind.u32.wrap (BitVec.ofInt 32 m &&& BitVec.ofInt 32 1).toNat = m % 2 := by
  obtain ⟨n, rfl⟩ := Int.eq_ofNat_of_zero_le h0
  have h2 : (BitVec.ofInt 32 (n : Int)) = BitVec.ofNat 32 n := by simp
  have h3 : (BitVec.ofInt 32 1) = 1#32 := rfl
  rw [h2, h3, BitVec.toNat_and, BitVec.toNat_ofNat]
  have h4 : (1#32).toNat = 1 := rfl
  rw [h4, Nat.and_one_is_mod, Nat.mod_mod_of_dvd _ (by decide), wrap_u32 (by omega) (by omega)]
  omega
theorem spoil_step (how : Int) (a n k : Nat) (m : Int) (l : List Int) (hl : l.length = n) (hn : 0 < n) (hb : n ≤ 1000000) (ha : a < 65536) (hm0 : 0 ≤ m) (hm1 : m < 4294967296) (hk : k ≤ 32) (P : Out IV → JH → Prop)
    (h0 : k = 32 ∨ 8 * n ≤ a % (8 * n) + k → P (.goto 0 [.sl 1 0 0 n (UNK + 1) 1]) [IB.cells 0 [.int .u8 how, .int .u16 a, .int .u32 m] false, IB.cells 0 (l.map (IV.int .u8)) false].toArray)
    (h1 : k < 32 → a % (8 * n) + k < 8 * n → P (.goto 1 [.ptr 0 0 0, .sl 1 0 0 n (UNK + 1) 1, .int .i64 ((8 * n : Nat) : Int), .int .i64 ((k + 1 : Nat) : Int)]) [IB.cells 0 [.int .u8 how, .int .u16 a, .int .u32 m] false, IB.cells 0 ((turn1 (a % (8 * n)) m l k).map (IV.int .u8)) false].toArray) :
    WP (dn BI l_wire_Spoil_k0 [.ptr 0 0 0, .sl 1 0 0 n (UNK + 1) 1, .int .i64 ((8 * n : Nat) : Int), .int .i64 (k : Int)] [IB.cells 0 [.int .u8 how, .int .u16 a, .int .u32 m] false, IB.cells 0 (l.map (IV.int .u8)) false].toArray) P := by
  by_cases hk2 : k = 32
  · subst hk2
    unfold l_wire_Spoil_k0
    simp -implicitDefEqProofs only [dn_ret, dn_goto, iexec, evI_0, evI_succ, evI_int, evI_bool, evI_nilsl, evI_nilp, List.cons_append, List.nil_append, scal2_sc, abin, aun, ilift_some, Option.map_some, Option.map_none, decide_eq_true_eq, List.map_cons, List.map_nil, reduceIte, if_true, if_false, Bool.false_eq_true, inew, iload, istore, iwr, ird, icells, ione, one, List.getElem?_toArray, List.getElem?_cons_zero, List.getElem?_cons_succ, List.push_toArray, List.size_toArray, List.length_cons, List.length_nil, List.setIfInBounds_toArray, List.set_cons_zero, List.set_cons_succ, isplice_cons, List.drop_succ_cons, List.drop_zero, List.take_succ_cons, List.take_zero, List.drop_nil, List.take_nil, List.append_nil, List.all_cons, List.all_nil, Bool.and_true, Bool.true_and, Bool.and_self, Nat.zero_add, Nat.add_zero, Nat.reduceAdd, Nat.reduceLeDiff, Nat.reduceMul, Nat.le_refl, true_and, and_true, and_self, List.getElem?_nil, BI_zc, BI_zv, BI_co, zcT, zvT, coT, not_true_eq_false, not_false_eq_true, Bool.not_true, Bool.not_false, stepI', wantsI, ifill, ievs, Nat.reduceEqDiff, itup, Nat.le_add_left, Nat.le_add_right, iaggEq, List.foldl, iminI, iminF, imin2, min2, iisNil, isNil, ilen, Option.isNone_none, Option.isNone_some, Nat.zero_le, decide_true, decide_false, ireps, List.replicate, List.flatten_cons, List.flatten_nil, ichk, itouch, ctouch, ilooks, isame, untouched, Option.isSome_some, Bool.or_true, Bool.true_or, List.contains_nil, Int.reduceLT, Int.reduceLE, blkOf, IntKind.bits, iasNat, asNat, Int.toNat_natCast, Int.natCast_nonneg, List.length_map, Int.reduceToNat, iscells, ibnd, islice, capOf, Option.isSome_none, Bool.false_and, Bool.and_false, Bool.or_false, Bool.false_or, bne_self_eq_false, Nat.not_lt_zero, Nat.mul_one, Nat.one_mul, Nat.zero_mul, Nat.mul_zero, beq_self_eq_true, Nat.sub_zero, Nat.reduceSub, List.length_set, false_implies, implies_true, forall_const, ↓dnW_oca, Nat.reduceLT, evI_fn, Nat.zero_lt_one, dnW_o, dnW_om, dnW_oc, dnW_ite, dnW_join, thenD_some, thenD_ite, onIfD_bool, onJoinD_out, onJoinD_ret, onJoinD_ite, Int.reduceEq, WP_some, WP_ite, byOut_goto, byOut_ret, ↓iexec_len, ↓iexec_iaddr, ↓iexec_append, ↓iexec_store, storeF_ptr, lenF_nil, lenF_lst, lenF_sl, lenF_str, iaddrF_sl, iaddrF_lst, show ¬ (((32 : Nat) : Int) < 32) by omega]
    exact h0 (.inl rfl)
  · have e1 : ((k : Int) < 32) := by omega
    have e2 : ¬ (((8 * n : Nat) : Int) = 0) := by omega
    have e3 : IntKind.i64.wrap (a : Int) = a := wrap_i64 (by omega) (by omega)
    have e4 : ((a : Int).tmod ((8 * n : Nat) : Int)) = ((a % (8 * n) : Nat) : Int) := by rw [Int.tmod_eq_emod_of_nonneg (by omega)]; exact (Int.natCast_emod _ _).symm
    have hq : a % (8 * n) < 8 * n := Nat.mod_lt _ (by omega)
    generalize hqq : a % (8 * n) = q at *
    have e5 : IntKind.i64.wrap ((q : Int) + (k : Int)) = ((q + k : Nat) : Int) := by rw [wrap_i64 (by omega) (by omega)]; omega
    by_cases hlt : q + k < 8 * n
    · have e6 : ¬ (((q + k : Nat) : Int) ≥ ((8 * n : Nat) : Int)) := by omega
      have e7 : IntKind.i64.wrap (((q + k : Nat) : Int).tdiv 8) = (((q + k) / 8 : Nat) : Int) := by
        rw [Int.tdiv_eq_ediv_of_nonneg (by omega), wrap_i64 (by omega) (by omega)]; omega
      have e8 : (((q + k : Nat) : Int).tmod 8) = (((q + k) % 8 : Nat) : Int) := by
        rw [Int.tmod_eq_emod_of_nonneg (by omega)]; omega
      have e9 : (q + k) / 8 < n := by omega
      have e10 : ((k : Int) < 0) = False := by simp
      have e11 : min k 32 = k := by omega
      have e12 : m.fdiv (2 ^ k) = m / 2 ^ k := Int.fdiv_eq_ediv_of_nonneg _ (by exact Int.le_of_lt (Int.pow_pos (by omega)))
      have e13 : abin .and (.int .u32 (m / 2 ^ k)) (.int .u32 1) = some (.int .u32 (bitv m k)) := by
        show some (Value.int .u32 (IntKind.u32.wrap (BitVec.ofInt 32 (m / 2 ^ k) &&& BitVec.ofInt 32 1).toNat)) = _
        rw [and1 _ (Int.ediv_nonneg hm0 (Int.le_of_lt (Int.pow_pos (by omega))))]
        · rfl
        · exact Int.lt_of_le_of_lt (Int.ediv_le_self _ hm0) hm1
      have e14 : IntKind.u8.wrap (bitv m k) = bitv m k := by
        rcases bitv_01 m k with h | h <;> rw [h] <;> rfl
      have e15 : ((((q + k) % 8 : Nat) : Int) < 0) = False := by simp; omega
      have e16 : min ((q + k) % 8) 8 = (q + k) % 8 := by omega
      have e17 : IntKind.u8.wrap (bitv m k * 2 ^ ((q + k) % 8)) = bitv m k * 2 ^ ((q + k) % 8) := by
        have h8 : (q + k) % 8 < 8 := Nat.mod_lt _ (by omega)
        generalize (q + k) % 8 = r at *
        rcases bitv_01 m k with h | h <;> rw [h]
        · simp; rfl
        · have : r = 0 ∨ r = 1 ∨ r = 2 ∨ r = 3 ∨ r = 4 ∨ r = 5 ∨ r = 6 ∨ r = 7 := by omega
          rcases this with rfl | rfl | rfl | rfl | rfl | rfl | rfl | rfl <;> rfl
      have e18 : IntKind.i64.wrap ((k : Int) + 1) = ((k + 1 : Nat) : Int) := by rw [wrap_i64 (by omega) (by omega)]; omega
      have e19 := @take1_ints .u8 l ((q + k) / 8) (by omega)
      have e20 : ∀ x, isplice (l.map (IV.int .u8)) ((q + k) / 8) [IV.int .u8 x] = (l.set ((q + k) / 8) x).map (IV.int .u8) := fun x => isplice_ints (by omega)
      have h1' := h1 (by omega) hlt
      unfold turn1 at h1'
      rw [hl, if_pos hlt] at h1'
      unfold x8 at h1'
      generalize bitv m k = bv at *
      have e21 : (q + k) / 8 + 1 ≤ l.length := by omega
      unfold l_wire_Spoil_k0
      simp -implicitDefEqProofs only [dn_ret, dn_goto, iexec, evI_0, evI_succ, evI_int, evI_bool, evI_nilsl, evI_nilp, List.cons_append, List.nil_append, scal2_sc, abin, aun, ilift_some, Option.map_some, Option.map_none, decide_eq_true_eq, List.map_cons, List.map_nil, reduceIte, if_true, if_false, Bool.false_eq_true, inew, iload, istore, iwr, ird, icells, ione, one, List.getElem?_toArray, List.getElem?_cons_zero, List.getElem?_cons_succ, List.push_toArray, List.size_toArray, List.length_cons, List.length_nil, List.setIfInBounds_toArray, List.set_cons_zero, List.set_cons_succ, isplice_cons, List.drop_succ_cons, List.drop_zero, List.take_succ_cons, List.take_zero, List.drop_nil, List.take_nil, List.append_nil, List.all_cons, List.all_nil, Bool.and_true, Bool.true_and, Bool.and_self, Nat.zero_add, Nat.add_zero, Nat.reduceAdd, Nat.reduceLeDiff, Nat.reduceMul, Nat.le_refl, true_and, and_true, and_self, List.getElem?_nil, BI_zc, BI_zv, BI_co, zcT, zvT, coT, not_true_eq_false, not_false_eq_true, Bool.not_true, Bool.not_false, stepI', wantsI, ifill, ievs, Nat.reduceEqDiff, itup, Nat.le_add_left, Nat.le_add_right, iaggEq, List.foldl, iminI, iminF, imin2, min2, iisNil, isNil, ilen, Option.isNone_none, Option.isNone_some, Nat.zero_le, decide_true, decide_false, ireps, List.replicate, List.flatten_cons, List.flatten_nil, ichk, itouch, ctouch, ilooks, isame, untouched, Option.isSome_some, Bool.or_true, Bool.true_or, List.contains_nil, Int.reduceLT, Int.reduceLE, blkOf, IntKind.bits, iasNat, asNat, Int.toNat_natCast, Int.natCast_nonneg, List.length_map, Int.reduceToNat, iscells, ibnd, islice, capOf, Option.isSome_none, Bool.false_and, Bool.and_false, Bool.or_false, Bool.false_or, bne_self_eq_false, Nat.not_lt_zero, Nat.mul_one, Nat.one_mul, Nat.zero_mul, Nat.mul_zero, beq_self_eq_true, Nat.sub_zero, Nat.reduceSub, List.length_set, false_implies, implies_true, forall_const, ↓dnW_oca, Nat.reduceLT, evI_fn, Nat.zero_lt_one, dnW_o, dnW_om, dnW_oc, dnW_ite, dnW_join, thenD_some, thenD_ite, onIfD_bool, onJoinD_out, onJoinD_ret, onJoinD_ite, Int.reduceEq, WP_some, WP_ite, byOut_goto, byOut_ret, ↓iexec_len, ↓iexec_iaddr, ↓iexec_append, ↓iexec_store, storeF_ptr, lenF_nil, lenF_lst, lenF_sl, lenF_str, iaddrF_sl, iaddrF_lst, e1, e2, e3, e4, e5, e6, e7, e8, e9, e10, e11, e12, ↓e13, e14, e15, e16, e17, e18, e19, e20, e21, beq_iff_eq, beq_eq_false_iff_ne, ne_eq]
      exact h1'
    · have e6 : (((q + k : Nat) : Int) ≥ ((8 * n : Nat) : Int)) := by omega
      unfold l_wire_Spoil_k0
      simp -implicitDefEqProofs only [dn_ret, dn_goto, iexec, evI_0, evI_succ, evI_int, evI_bool, evI_nilsl, evI_nilp, List.cons_append, List.nil_append, scal2_sc, abin, aun, ilift_some, Option.map_some, Option.map_none, decide_eq_true_eq, List.map_cons, List.map_nil, reduceIte, if_true, if_false, Bool.false_eq_true, inew, iload, istore, iwr, ird, icells, ione, one, List.getElem?_toArray, List.getElem?_cons_zero, List.getElem?_cons_succ, List.push_toArray, List.size_toArray, List.length_cons, List.length_nil, List.setIfInBounds_toArray, List.set_cons_zero, List.set_cons_succ, isplice_cons, List.drop_succ_cons, List.drop_zero, List.take_succ_cons, List.take_zero, List.drop_nil, List.take_nil, List.append_nil, List.all_cons, List.all_nil, Bool.and_true, Bool.true_and, Bool.and_self, Nat.zero_add, Nat.add_zero, Nat.reduceAdd, Nat.reduceLeDiff, Nat.reduceMul, Nat.le_refl, true_and, and_true, and_self, List.getElem?_nil, BI_zc, BI_zv, BI_co, zcT, zvT, coT, not_true_eq_false, not_false_eq_true, Bool.not_true, Bool.not_false, stepI', wantsI, ifill, ievs, Nat.reduceEqDiff, itup, Nat.le_add_left, Nat.le_add_right, iaggEq, List.foldl, iminI, iminF, imin2, min2, iisNil, isNil, ilen, Option.isNone_none, Option.isNone_some, Nat.zero_le, decide_true, decide_false, ireps, List.replicate, List.flatten_cons, List.flatten_nil, ichk, itouch, ctouch, ilooks, isame, untouched, Option.isSome_some, Bool.or_true, Bool.true_or, List.contains_nil, Int.reduceLT, Int.reduceLE, blkOf, IntKind.bits, iasNat, asNat, Int.toNat_natCast, Int.natCast_nonneg, List.length_map, Int.reduceToNat, iscells, ibnd, islice, capOf, Option.isSome_none, Bool.false_and, Bool.and_false, Bool.or_false, Bool.false_or, bne_self_eq_false, Nat.not_lt_zero, Nat.mul_one, Nat.one_mul, Nat.zero_mul, Nat.mul_zero, beq_self_eq_true, Nat.sub_zero, Nat.reduceSub, List.length_set, false_implies, implies_true, forall_const, ↓dnW_oca, Nat.reduceLT, evI_fn, Nat.zero_lt_one, dnW_o, dnW_om, dnW_oc, dnW_ite, dnW_join, thenD_some, thenD_ite, onIfD_bool, onJoinD_out, onJoinD_ret, onJoinD_ite, Int.reduceEq, WP_some, WP_ite, byOut_goto, byOut_ret, ↓iexec_len, ↓iexec_iaddr, ↓iexec_append, ↓iexec_store, storeF_ptr, lenF_nil, lenF_lst, lenF_sl, lenF_str, iaddrF_sl, iaddrF_lst, e1, e2, e3, e4, e5, e6, beq_iff_eq]
      exact h0 (.inr (by omega))
theorem Spoil_ok {x : IV} {l : List Int} (hx : Bs x l) (how : Int) (a : Nat) (m : Int) (hb : l.length ≤ 1000000) (ha : a < 65536) (hm0 : 0 ≤ m) (hm1 : m < 4294967296) :
    ∃ y, pc BI F_wire_Spoil [x, .agg [.int .u8 how, .int .u16 a, .int .u32 m]] = some y ∧ Bs y (spoilF l a m) := by
  refine pcW fn_wire_Spoil rfl fun K hK => ?_
  by_cases h0 : l = []
  · subst h0
    have hx0 : ∀ J, ∃ y, ic BI F_bytes_Clone [x] J = some (y, J) ∧ Bs y [] := fun J => by
      rcases hx with ⟨rfl, _⟩ | ⟨f, rfl⟩
      · exact ⟨_, bClone_nil J, .nil⟩
      · exact ⟨_, bClone_0 f J, .lst⟩
    obtain ⟨y, hy, hby⟩ := hx0 [IB.cells 0 [.int .u8 how, .int .u16 a, .int .u32 m] false].toArray
    have hs : spoilF [] a m = [] := by
      unfold spoilF
      exact List.eq_nil_of_length_eq_zero (by rw [turnN_len]; rfl)
    rw [hs] at hK
    have hl : ∀ J, iter (dn BI l_wire_Spoil_k0) 1 [.ptr 0 0 0, y, .int .i64 (IntKind.i64.wrap 0), .int .i64 0] J = some (.goto 0 [y], J) := fun J => by
      refine iter_out ?_ (by decide)
      have : IntKind.i64.wrap 0 = 0 := rfl
      unfold l_wire_Spoil_k0
      simp -implicitDefEqProofs only [dn_o, dn_om, dn_oc, dn_ite, dn_ret, dn_join, dn_goto, iexec, evI_0, evI_succ, evI_int, evI_bool, evI_nilsl, evI_nilp, List.cons_append, List.nil_append, scal2_sc, abin, aun, ilift_some, thenI_some, onIf_bool, onJoin_goto, onJoin_ret, onJoin_ite, thenI_ite, Option.map_some, Option.map_none, decide_eq_true_eq, List.map_cons, List.map_nil, reduceIte, if_true, if_false, Bool.false_eq_true, inew, iload, istore, iwr, ird, icells, ione, one, List.getElem?_toArray, List.getElem?_cons_zero, List.getElem?_cons_succ, List.push_toArray, List.size_toArray, List.length_cons, List.length_nil, List.setIfInBounds_toArray, List.set_cons_zero, List.set_cons_succ, isplice_cons, List.drop_succ_cons, List.drop_zero, List.take_succ_cons, List.take_zero, List.drop_nil, List.take_nil, List.append_nil, List.all_cons, List.all_nil, Bool.and_true, Bool.true_and, Bool.and_self, Nat.zero_add, Nat.add_zero, Nat.reduceAdd, Nat.reduceLeDiff, Nat.reduceMul, Nat.le_refl, true_and, and_true, and_self, List.getElem?_nil, BI_zc, BI_zv, BI_co, zcT, zvT, coT, not_true_eq_false, not_false_eq_true, Bool.not_true, Bool.not_false, stepI', wantsI, ifill, ievs, Nat.reduceEqDiff, itup, Nat.le_add_left, Nat.le_add_right, iaggEq, List.foldl, iminI, iminF, imin2, min2, iisNil, isNil, ilen, Option.isNone_none, Option.isNone_some, Nat.zero_le, decide_true, decide_false, ireps, List.replicate, List.flatten_cons, List.flatten_nil, ichk, itouch, ctouch, ilooks, isame, untouched, Option.isSome_some, Bool.or_true, Bool.true_or, List.contains_nil, Int.reduceLT, Int.reduceLE, blkOf, IntKind.bits, iasNat, asNat, Int.toNat_natCast, Int.natCast_nonneg, List.length_map, endP_ret, endP_ite, Int.reduceToNat, iscells, ibnd, islice, capOf, Option.isSome_none, Bool.false_and, Bool.and_false, Bool.or_false, Bool.false_or, bne_self_eq_false, Nat.not_lt_zero, Nat.mul_one, Nat.one_mul, Nat.zero_mul, Nat.mul_zero, onJoin_out, beq_self_eq_true, Nat.sub_zero, Nat.reduceSub, List.length_set, false_implies, implies_true, forall_const, this, beq_self_eq_true]
    unfold l_wire_Spoil
    simp -implicitDefEqProofs only [dn_ret, dn_goto, iexec, evI_0, evI_succ, evI_int, evI_bool, evI_nilsl, evI_nilp, List.cons_append, List.nil_append, scal2_sc, abin, aun, ilift_some, Option.map_some, Option.map_none, decide_eq_true_eq, List.map_cons, List.map_nil, reduceIte, if_true, if_false, Bool.false_eq_true, inew, iload, istore, iwr, ird, icells, ione, one, List.getElem?_toArray, List.getElem?_cons_zero, List.getElem?_cons_succ, List.push_toArray, List.size_toArray, List.length_cons, List.length_nil, List.setIfInBounds_toArray, List.set_cons_zero, List.set_cons_succ, isplice_cons, List.drop_succ_cons, List.drop_zero, List.take_succ_cons, List.take_zero, List.drop_nil, List.take_nil, List.append_nil, List.all_cons, List.all_nil, Bool.and_true, Bool.true_and, Bool.and_self, Nat.zero_add, Nat.add_zero, Nat.reduceAdd, Nat.reduceLeDiff, Nat.reduceMul, Nat.le_refl, true_and, and_true, and_self, List.getElem?_nil, BI_zc, BI_zv, BI_co, zcT, zvT, coT, not_true_eq_false, not_false_eq_true, Bool.not_true, Bool.not_false, stepI', wantsI, ifill, ievs, Nat.reduceEqDiff, itup, Nat.le_add_left, Nat.le_add_right, iaggEq, List.foldl, iminI, iminF, imin2, min2, iisNil, isNil, ilen, Option.isNone_none, Option.isNone_some, Nat.zero_le, decide_true, decide_false, ireps, List.replicate, List.flatten_cons, List.flatten_nil, ichk, itouch, ctouch, ilooks, isame, untouched, Option.isSome_some, Bool.or_true, Bool.true_or, List.contains_nil, Int.reduceLT, Int.reduceLE, blkOf, IntKind.bits, iasNat, asNat, Int.toNat_natCast, Int.natCast_nonneg, List.length_map, Int.reduceToNat, iscells, ibnd, islice, capOf, Option.isSome_none, Bool.false_and, Bool.and_false, Bool.or_false, Bool.false_or, bne_self_eq_false, Nat.not_lt_zero, Nat.mul_one, Nat.one_mul, Nat.zero_mul, Nat.mul_zero, beq_self_eq_true, Nat.sub_zero, Nat.reduceSub, List.length_set, false_implies, implies_true, forall_const, ↓dnW_oca, Nat.reduceLT, evI_fn, Nat.zero_lt_one, dnW_o, dnW_om, dnW_oc, dnW_ite, dnW_join, thenD_some, thenD_ite, onIfD_bool, onJoinD_out, onJoinD_ret, onJoinD_ite, Int.reduceEq, WP_some, WP_ite, byOut_goto, byOut_ret, ↓iexec_len, ↓iexec_iaddr, ↓iexec_append, ↓iexec_store, storeF_ptr, lenF_nil, lenF_lst, lenF_sl, lenF_str, iaddrF_sl, iaddrF_lst, dcr hy, hx.lenF, dn_loop, hl, l_wire_Spoil_k1, Int.natCast_zero, Int.mul_zero]
    exact hK _ _ _ (frzE hby.pure rfl) hby
  · have hpos : 0 < l.length := List.length_pos_iff.2 h0
    obtain ⟨f, rfl⟩ := hx.ne (by simpa using h0)
    have hw : IntKind.i64.wrap (8 * (l.length : Int)) = ((8 * l.length : Nat) : Int) := by rw [wrap_i64 (by omega) (by omega)]; omega
    unfold l_wire_Spoil
    simp -implicitDefEqProofs only [dn_ret, dn_goto, iexec, evI_0, evI_succ, evI_int, evI_bool, evI_nilsl, evI_nilp, List.cons_append, List.nil_append, scal2_sc, abin, aun, ilift_some, Option.map_some, Option.map_none, decide_eq_true_eq, List.map_cons, List.map_nil, reduceIte, if_true, if_false, Bool.false_eq_true, inew, iload, istore, iwr, ird, icells, ione, one, List.getElem?_toArray, List.getElem?_cons_zero, List.getElem?_cons_succ, List.push_toArray, List.size_toArray, List.length_cons, List.length_nil, List.setIfInBounds_toArray, List.set_cons_zero, List.set_cons_succ, isplice_cons, List.drop_succ_cons, List.drop_zero, List.take_succ_cons, List.take_zero, List.drop_nil, List.take_nil, List.append_nil, List.all_cons, List.all_nil, Bool.and_true, Bool.true_and, Bool.and_self, Nat.zero_add, Nat.add_zero, Nat.reduceAdd, Nat.reduceLeDiff, Nat.reduceMul, Nat.le_refl, true_and, and_true, and_self, List.getElem?_nil, BI_zc, BI_zv, BI_co, zcT, zvT, coT, not_true_eq_false, not_false_eq_true, Bool.not_true, Bool.not_false, stepI', wantsI, ifill, ievs, Nat.reduceEqDiff, itup, Nat.le_add_left, Nat.le_add_right, iaggEq, List.foldl, iminI, iminF, imin2, min2, iisNil, isNil, ilen, Option.isNone_none, Option.isNone_some, Nat.zero_le, decide_true, decide_false, ireps, List.replicate, List.flatten_cons, List.flatten_nil, ichk, itouch, ctouch, ilooks, isame, untouched, Option.isSome_some, Bool.or_true, Bool.true_or, List.contains_nil, Int.reduceLT, Int.reduceLE, blkOf, IntKind.bits, iasNat, asNat, Int.toNat_natCast, Int.natCast_nonneg, List.length_map, Int.reduceToNat, iscells, ibnd, islice, capOf, Option.isSome_none, Bool.false_and, Bool.and_false, Bool.or_false, Bool.false_or, bne_self_eq_false, Nat.not_lt_zero, Nat.mul_one, Nat.one_mul, Nat.zero_mul, Nat.mul_zero, beq_self_eq_true, Nat.sub_zero, Nat.reduceSub, List.length_set, false_implies, implies_true, forall_const, ↓dnW_oca, Nat.reduceLT, evI_fn, Nat.zero_lt_one, dnW_o, dnW_om, dnW_oc, dnW_ite, dnW_join, thenD_some, thenD_ite, onIfD_bool, onJoinD_out, onJoinD_ret, onJoinD_ite, Int.reduceEq, WP_some, WP_ite, byOut_goto, byOut_ret, ↓iexec_len, ↓iexec_iaddr, ↓iexec_append, ↓iexec_store, storeF_ptr, lenF_nil, lenF_lst, lenF_sl, lenF_str, iaddrF_sl, iaddrF_lst, dcr (bClone_ok f l h0 hb _), dn_loop, hw]
    refine WP_loop (by decide) (fun n vs J => ∃ k, k + n = 32 ∧ vs = [.ptr 0 0 0, .sl 1 0 0 l.length (UNK + 1) 1, .int .i64 ((8 * l.length : Nat) : Int), .int .i64 (k : Int)] ∧ J = [IB.cells 0 [.int .u8 how, .int .u16 a, .int .u32 m] false, IB.cells 0 ((turnN (a % (8 * l.length)) m l k).map (IV.int .u8)) false].toArray) ?_ 32 _ _ ⟨0, rfl, rfl, rfl⟩
    rintro n vs J ⟨k, hk, rfl, rfl⟩ K1 g1 g2 g3
    refine spoil_step how a l.length k m _ (turnN_len _ _ _ _) hpos hb ha hm0 hm1 (by omega) K1 (fun hs => ?_) (fun hk2 hlt => ?_)
    · refine g2 _ _ ?_
      have hfin : turnN (a % (8 * l.length)) m l k = spoilF l a m := by
        unfold spoilF
        rcases hs with rfl | hs
        · rfl
        · have : ∀ j, k ≤ j → turnN (a % (8 * l.length)) m l j = turnN (a % (8 * l.length)) m l k := by
            intro j hj
            induction j with
            | zero => rw [show k = 0 by omega]
            | succ j ih =>
              by_cases he : k = j + 1
              · rw [he]
              · rw [turnN, turn1, if_neg (by rw [turnN_len]; omega), ih (by omega)]
          exact (this 32 (by omega)).symm
      rw [hfin]
      have hlen : (spoilF l a m).length = l.length := turnN_len _ _ _ _
      unfold l_wire_Spoil_k1
      simp -implicitDefEqProofs only [dn_ret, dn_goto, iexec, evI_0, evI_succ, evI_int, evI_bool, evI_nilsl, evI_nilp, List.cons_append, List.nil_append, scal2_sc, abin, aun, ilift_some, Option.map_some, Option.map_none, decide_eq_true_eq, List.map_cons, List.map_nil, reduceIte, if_true, if_false, Bool.false_eq_true, inew, iload, istore, iwr, ird, icells, ione, one, List.getElem?_toArray, List.getElem?_cons_zero, List.getElem?_cons_succ, List.push_toArray, List.size_toArray, List.length_cons, List.length_nil, List.setIfInBounds_toArray, List.set_cons_zero, List.set_cons_succ, isplice_cons, List.drop_succ_cons, List.drop_zero, List.take_succ_cons, List.take_zero, List.drop_nil, List.take_nil, List.append_nil, List.all_cons, List.all_nil, Bool.and_true, Bool.true_and, Bool.and_self, Nat.zero_add, Nat.add_zero, Nat.reduceAdd, Nat.reduceLeDiff, Nat.reduceMul, Nat.le_refl, true_and, and_true, and_self, List.getElem?_nil, BI_zc, BI_zv, BI_co, zcT, zvT, coT, not_true_eq_false, not_false_eq_true, Bool.not_true, Bool.not_false, stepI', wantsI, ifill, ievs, Nat.reduceEqDiff, itup, Nat.le_add_left, Nat.le_add_right, iaggEq, List.foldl, iminI, iminF, imin2, min2, iisNil, isNil, ilen, Option.isNone_none, Option.isNone_some, Nat.zero_le, decide_true, decide_false, ireps, List.replicate, List.flatten_cons, List.flatten_nil, ichk, itouch, ctouch, ilooks, isame, untouched, Option.isSome_some, Bool.or_true, Bool.true_or, List.contains_nil, Int.reduceLT, Int.reduceLE, blkOf, IntKind.bits, iasNat, asNat, Int.toNat_natCast, Int.natCast_nonneg, List.length_map, Int.reduceToNat, iscells, ibnd, islice, capOf, Option.isSome_none, Bool.false_and, Bool.and_false, Bool.or_false, Bool.false_or, bne_self_eq_false, Nat.not_lt_zero, Nat.mul_one, Nat.one_mul, Nat.zero_mul, Nat.mul_zero, beq_self_eq_true, Nat.sub_zero, Nat.reduceSub, List.length_set, false_implies, implies_true, forall_const, ↓dnW_oca, Nat.reduceLT, evI_fn, Nat.zero_lt_one, dnW_o, dnW_om, dnW_oc, dnW_ite, dnW_join, thenD_some, thenD_ite, onIfD_bool, onJoinD_out, onJoinD_ret, onJoinD_ite, Int.reduceEq, WP_some, WP_ite, byOut_goto, byOut_ret, ↓iexec_len, ↓iexec_iaddr, ↓iexec_append, ↓iexec_store, storeF_ptr, lenF_nil, lenF_lst, lenF_sl, lenF_str, iaddrF_sl, iaddrF_lst]
      obtain ⟨g, hg⟩ := frz_bytes (J := [IB.cells 0 [.int .u8 how, .int .u16 a, .int .u32 m] false, IB.cells 0 ((spoilF l a m).map (IV.int .u8)) false].toArray) (b := 1) (n := l.length) (k := 0) (cap := UNK + 1) (xs := spoilF l a m) (κ := .u8) (by simp [ird, hlen]; exact List.take_of_length_le (by simp [hlen])) hlen.symm
      exact hK _ _ _ hg .lst
    · exact g1 _ (n - 1) _ (by omega) ⟨k + 1, by omega, rfl, rfl⟩
end Go.Proofs.Ytohclaopcejjnaa.G
